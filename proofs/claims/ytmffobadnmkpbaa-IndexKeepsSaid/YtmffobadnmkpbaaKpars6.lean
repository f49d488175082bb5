/-
  coneyref03.quoted, walked.
  coneyref03.Tokens, walked.
  coneyref05.Read, walked over the contract of term.
-/
import Derived.Test.YtmffobadnmkpbaaKpars5
import Derived.Test.YtmffobadnmkpbaaKlib1
import Derived.Laws.BytesArg
import Derived.Test.YtmffobadnmkpbaaKpars1
import Derived.Deep.CutBlock
import Derived.Deep.DeepCutAuto
import Derived.Deep.AppendLies
import Derived.Deep.RegionLaw
namespace Go.Proofs.Ytmffobadnmkpbaa
open Go.RowKit

theorem Try.infoByte : (Try.prog.info? 5).map (fun i => (i.zero, i.size, i.bytes)) = some (some (.int .u8 0), 1, 1) := by kernel_rfl
theorem owns_snocB {w : World} {base : Nat} {e : TypeId} {v : Value} {O : List Int} {n : Int} (h : w.ownsRow base e 1 v (O.length + 1) (O.map (Value.int .u8) ++ [.int .u8 n])) :
    w.ownsRow base e 1 v (O ++ [n]).length ((O ++ [n]).map (Value.int .u8)) := by simpa using h
theorem conv_bytes {P : Program} {w : World} {base : Nat} {src e e2 dst : TypeId} {ao : Option Addr} {cap : Nat} {O : List Int} (h : w.ownsRow base e2 1 (.slice ao O.length cap) O.length (O.map (Value.int .u8))) (hs : P.underlying src = some (.slice e)) (he : P.underlying e = some (.int .u8)) (hd : P.underlying dst = some .string) :
    ∃ T : ByteArray, T.size ≤ O.length ∧ (convert src dst (.slice ao O.length cap)).run P w = .ok (.string T) w := by
  rcases h.2 with ⟨h1, h2⟩ | ⟨g, c, cur, h1, _⟩
  · simp only [Value.slice.injEq] at h1
    obtain ⟨rfl, h3, rfl⟩ := h1
    exact ⟨ByteArray.empty, by simp, run_convert_bytes_nil w src e hs he _ _ dst hd⟩
  · simp only [Value.slice.injEq, true_and] at h1
    obtain ⟨rfl, rfl⟩ := h1
    refine ⟨_, ?_, run_convert_bytes_arg (P := P) w src e hs he g 0 O.length cap O rfl (fun i hi => ?_) dst hd⟩
    · rw [strOfNums_size]; exact Nat.le_refl _
    · rw [Nat.zero_add, h.cellAt i (by omega), List.getElem?_map, List.getElem?_eq_getElem hi]
      simp [hi]
def RetQ (s : ByteArray) (k0 : Nat) (w : World) (e : Ending) (w' : World) : Prop := ∃ (T : ByteArray) (f : Nat) (x : Int), e = .returned (.tuple #[.string T, .int .i64 f, .int .i64 x]) ∧ (x = 0 → k0 < f ∧ f ≤ s.size ∧ T.size ≤ 4096) ∧ Below w.heap.size w w'
theorem retQ_bad {s : ByteArray} {k0 : Nat} {w w' : World} {e : Ending} {T : ByteArray} {f : Nat} {x : Int} (h : e = .returned (.tuple #[.string T, .int .i64 f, .int .i64 x])) (hx : x ≠ 0) (hb : Below w.heap.size w w') : RetQ s k0 w e w' :=
  ⟨T, f, x, h, fun h => absurd h hx, hb⟩
theorem retQ_good {s : ByteArray} {k0 : Nat} {w w' : World} {e : Ending} {T : ByteArray} {f : Nat} (h : e = .returned (.tuple #[.string T, .int .i64 f, .int .i64 0])) (h1 : k0 < f) (h2 : f ≤ s.size) (h3 : T.size ≤ 4096) (hb : Below w.heap.size w w') : RetQ s k0 w e w' :=
  ⟨T, f, 0, h, fun _ => ⟨h1, h2, h3⟩, hb⟩
set_option maxRecDepth 100000 in
set_option maxHeartbeats 3200000 in
theorem quoted_c (s : ByteArray) (k0 : Nat) (hk0 : k0 < s.size) (hs : s.size ≤ 4096) (w : World) : Calls Try.prog 130 #[.string s, .int .i64 k0] w (RetQ s k0 w) := by
  obtain ⟨i0, hi, hz0, hz1, hz2⟩ := info_parts Try.infoByte
  go_enter Try.func130, Try.ntmps130
  go_wp2
  go_loopg [7, 8] (s.size - (k0 + 1)) (fun n b i wr => ∃ (k : Nat) (xs : List Int), k0 < k ∧ k ≤ s.size ∧ i = .int .i64 k ∧ wr.ownsRow w.heap.size 5 1 b xs.length (xs.map (Value.int .u8)) ∧ xs.length ≤ k ∧ Hid (n = s.size - k) ∧ Below w.heap.size w wr)
  case atStart => exact ⟨k0 + 1, [], by omega, by omega, by go_num, World.ownsRow_made _ _ _ (Nat.le_refl _) (by decide) rfl, by simp, Lib.hid rfl, (Below.refl _ _).alloc (Nat.le_refl _) _⟩
  case round =>
    obtain ⟨k, xs, hk1, hk2, rfl, hown, hxl, HN, hbel⟩ := hrel
    obtain ⟨oa, oc, rfl, _⟩ := (SlAt.of_own hown).shape
    by_cases hlt : k < s.size
    · obtain ⟨T, hT, hcv⟩ := conv_bytes (P := Try.prog) (src := 34) (e := 5) (dst := 9) hown rfl rfl rfl
      have C2 : Hid (∀ w, Calls Try.prog 150 #[.string s, .int .i64 k, .int .u8 39, .int .u8 39] w (RetTwo s k w)) := fun w => two3_c s k 39 39 (by omega) w
      have HO := Lib.hid hown
      have HBE := Lib.hid hbel
      have HT := Lib.hid hT
      clear hown hbel hT
      by_cases he : k + 1 = s.size
      · have hb1 : ((k : Int) + 1 == s.size) = true := by rw [beq_iff_eq]; omega
        clear he
        go_wp2_with (first
          | (go_at_call 150; ((with_reducible refine (C2.out _).mono ?_); rintro e w' ⟨b, rfl, hb, rfl⟩; have HBB := Lib.hid hb; clear hb; cases b))
          | (at_builtin; refine wpList_append1 rfl _ _ 34 rfl w.heap.size 5 i0 (.int .u8 0) 1 Try.underlying34 hi hz0 hz1 hz2 rfl _ _ _ rfl HO.out _ rfl rfl (by omega) HBE.out.size ?_; intro v' w1 hown1 hbel1 _ _; have HO1 := Lib.hid (owns_snocB hown1); have HB1 := Lib.hid (HBE.out.trans hbel1); clear hown1 hbel1))
        all_goals first
          | (go_roundg (s.size - (k + 1)); (case measure => have := HN.out; omega); (case rel => exact ⟨k + 1, _, by omega, by omega, by go_num, HO1.out, by simp; omega, Lib.hid rfl, HB1.out⟩))
          | (have h5 : k + 1 < s.size := by first | assumption | exact HBB.out rfl | exact HBB.out trivial
             go_roundg (s.size - (k + 2)); (case measure => have := HN.out; omega); (case rel => exact ⟨k + 2, _, by omega, by omega, by go_num, HO1.out, by simp; omega, Lib.hid rfl, HB1.out⟩))
          | (go_ret3; exact retQ_bad rfl (by decide) HBE.out)
          | (go_ret3; exact retQ_good (f := k + 1) rfl (by omega) (by omega) (by have := HT.out; omega) HBE.out)
      · have hb1 : ((k : Int) + 1 == s.size) = false := by rw [beq_eq_false_iff_ne]; omega
        have hb2 : k + 1 < s.size := by omega
        clear he
        go_wp2_with (first
          | (go_at_call 150; ((with_reducible refine (C2.out _).mono ?_); rintro e w' ⟨b, rfl, hb, rfl⟩; have HBB := Lib.hid hb; clear hb; cases b))
          | (at_builtin; refine wpList_append1 rfl _ _ 34 rfl w.heap.size 5 i0 (.int .u8 0) 1 Try.underlying34 hi hz0 hz1 hz2 rfl _ _ _ rfl HO.out _ rfl rfl (by omega) HBE.out.size ?_; intro v' w1 hown1 hbel1 _ _; have HO1 := Lib.hid (owns_snocB hown1); have HB1 := Lib.hid (HBE.out.trans hbel1); clear hown1 hbel1))
        all_goals first
          | (go_roundg (s.size - (k + 1)); (case measure => have := HN.out; omega); (case rel => exact ⟨k + 1, _, by omega, by omega, by go_num, HO1.out, by simp; omega, Lib.hid rfl, HB1.out⟩))
          | (have h5 : k + 1 < s.size := by first | assumption | exact HBB.out rfl | exact HBB.out trivial
             go_roundg (s.size - (k + 2)); (case measure => have := HN.out; omega); (case rel => exact ⟨k + 2, _, by omega, by omega, by go_num, HO1.out, by simp; omega, Lib.hid rfl, HB1.out⟩))
          | (go_ret3; exact retQ_bad rfl (by decide) HBE.out)
          | (go_ret3; exact retQ_good (f := k + 1) rfl (by omega) (by omega) (by have := HT.out; omega) HBE.out)
    · go_wp2
      go_ret3
      exact retQ_bad rfl (by decide) hbel
end Go.Proofs.Ytmffobadnmkpbaa
namespace Go.Proofs.Ytmffobadnmkpbaa
open Go.RowKit

theorem Try.infoTok : (Try.prog.info? 116).map (fun i => (i.zero, i.size, i.bytes)) = some (some (.agg #[.int .i64 0, .string ByteArray.empty, .int .i64 0, .int .i64 0]), 4, 40) := by kernel_rfl
def RetTks (w : World) (e : Ending) (w' : World) : Prop := ∃ (v : Value) (p x : Int) (l : List Tok), e = .returned (.tuple #[v, .int .i64 p, .int .i64 x]) ∧ (x = 0 → SlAt w' 4 v l.length (tkCs l)) ∧ l.length ≤ 1000 ∧ (∀ t ∈ l, t.text.size ≤ 4096) ∧ (∃ ao n c, v = .slice ao n c) ∧ Below w.heap.size w w'
theorem retTks_bad {w w' : World} {e : Ending} {p x : Int} (h : e = .returned (.tuple #[.slice none 0 0, .int .i64 p, .int .i64 x])) (hx : x ≠ 0) (hb : Below w.heap.size w w') : RetTks w e w' :=
  ⟨_, p, x, [], h, fun h => absurd h hx, by simp, by simp, ⟨_, _, _, rfl⟩, hb⟩
theorem last_tok {w : World} {base : Nat} {e : TypeId} {oa : Option Addr} {oc : Nat} {l : List Tok} (h : w.ownsRow base e 4 (.slice oa l.length oc) l.length (tkCs l)) {m : Nat} (hm : l.length = m + 1) :
    ∃ (g : Nat) (kd tz : Int), oa = some ⟨g, 0, none⟩ ∧ (∀ o, (w.alloc o).cell? ⟨g, m * 4, none⟩ = some (.int .i64 kd)) ∧ (∀ o, (w.alloc o).cell? ⟨g, m * 4 + 3, none⟩ = some (.int .i64 tz)) := by
  obtain ⟨g, c, h1, _, hc⟩ := owns_pos h (by omega)
  simp only [Value.slice.injEq, true_and] at h1
  obtain ⟨rfl, _⟩ := h1
  have hq := tkCs_at l m (by omega)
  have q0 := hq 0 (by omega)
  rw [Nat.add_zero] at q0
  have e0 := hc (m * 4) (by omega)
  have e3 := hc (m * 4 + 3) (by omega)
  rw [q0] at e0
  rw [hq 3 (by omega)] at e3
  exact ⟨g, (l[m]'(by omega)).kind, (l[m]'(by omega)).hi, rfl, fun o => Lib.cell?_alloc_some o (by rw [e0]; simp [tkC]), fun o => Lib.cell?_alloc_some o (by rw [e3]; simp [tkC])⟩
theorem byte_ne {c d : UInt8} {n : Int} (h : c ≠ d) (hn : (d.toNat : Int) = n) : ((c.toNat : Int) == n) = false := by
  rw [beq_eq_false_iff_ne, ← hn]
  intro h2
  exact h (UInt8.toNat_inj.1 (by omega))
theorem int_or (x : Int) : x = 0 ∨ (x == 0) = false := by
  by_cases h : x = 0
  · exact .inl h
  · exact .inr (by simpa using h)
theorem BoxL.lt4 {w : World} {b : Nat} {x : Value} {cs : List Value} (h : BoxL w b (x :: cs)) : b < w.heap.size := h.lt (by simp)
theorem own_set_ne {w : World} {base : Nat} {e : TypeId} {size : Nat} {v : Value} {n : Nat} {xs : List Value} (h : w.ownsRow base e size v n xs) {a : Addr} (ha : v.ownBlock ≠ some a.block) {u : Value} : (w.setCell a u).ownsRow base e size v n xs := by
  refine ⟨h.1, ?_⟩
  rcases h.2 with hn | ⟨g, cap, cur, rfl, hg, hgg, rest⟩
  · exact .inl hn
  · exact .inr ⟨g, cap, cur, rfl, hg, by rw [Below.heap_setCell _ _ _ _ (by intro he; subst he; exact ha rfl)]; exact hgg, rest⟩
theorem one4 {a b c d : Value} (h : a.oneCell' = true) (h2 : b.oneCell' = true) (h3 : c.oneCell' = true) (h4 : d.oneCell' = true) : ∀ u ∈ (#[a, b, c, d] : Array Value).toList, u.oneCell' = true := by
  intro u hu; simp at hu; rcases hu with rfl | rfl | rfl | rfl <;> assumption
theorem sl_size1 (W : World) (a : Addr) (u : Value) : Value.slice (some ⟨W.heap.size, 0, none⟩) 1 1 = .slice (some ⟨(W.setCell a u).heap.size, 0, none⟩) 1 1 := by simp [World.setCell]
theorem sl_size2 (W : World) (a b : Addr) (u v : Value) : Value.slice (some ⟨W.heap.size, 0, none⟩) 1 1 = .slice (some ⟨((W.setCell a u).setCell b v).heap.size, 0, none⟩) 1 1 := by simp [World.setCell]
theorem own_snocT {w : World} {base : Nat} {e : TypeId} {v : Value} {l : List Tok} {n : Nat} {kd lo hi : Int} {T : ByteArray} (h : w.ownsRow base e 4 v (n + 1) (tkCs l ++ (#[.int .i64 kd, .string T, .int .i64 lo, .int .i64 hi] : Array Value).toList)) (hn : l.length = n) :
    w.ownsRow base e 4 v (l ++ [(⟨kd, T, lo, hi⟩ : Tok)]).length (tkCs (l ++ [(⟨kd, T, lo, hi⟩ : Tok)])) := by
  rw [tkCs_snoc, List.length_append, hn]; exact h
theorem all_snoc {l : List Tok} {t : Tok} (h : ∀ t : Tok, t ∈ l → t.text.size ≤ 4096) (ht : t.text.size ≤ 4096) : ∀ u : Tok, u ∈ l ++ [t] → u.text.size ≤ 4096 := by
  intro u hu
  rcases List.mem_append.1 hu with hu | hu
  · exact h u hu
  · obtain rfl := List.mem_singleton.1 hu; exact ht
theorem end_or (f n : Nat) : (Hid (f = n) ∧ ((f : Int) == n) = true) ∨ (Hid (f ≠ n) ∧ ((f : Int) == n) = false) := by
  by_cases h : f = n
  · exact .inl ⟨Lib.hid h, by simp [h]⟩
  · exact .inr ⟨Lib.hid h, beq_eq_false_iff_ne.2 (by omega)⟩
set_option maxRecDepth 100000 in
set_option maxHeartbeats 12800000 in
theorem tokens_c (s : ByteArray) (w : World) (hsl : s.size ≤ maxLen) : Calls Try.prog 100 #[.string s] w (RetTks w) := by
  obtain ⟨i0, hi, hz0, hz1, hz2⟩ := info_parts Try.infoTok
  unfold maxLen at hsl
  by_cases hs : s.size ≤ 4096
  · go_enter Try.func100, Try.ntmps100
    go_wp2
    go_loopg [5, 6] s.size (fun n b i wr => ∃ (k : Nat) (l : List Tok), k ≤ s.size ∧ i = .int .i64 k ∧ wr.ownsRow w.heap.size 116 4 b l.length (tkCs l) ∧ l.length ≤ 1000 ∧ Hid (∀ t ∈ l, t.text.size ≤ 4096) ∧ Hid (n = s.size - k) ∧ Below w.heap.size w wr)
    case atStart => exact ⟨0, [], by omega, rfl, World.ownsRow_made _ _ _ (Nat.le_refl _) (by decide) rfl, by simp, Lib.hid (by simp), Lib.hid rfl, (Below.refl _ _).alloc (Nat.le_refl _) _⟩
    case round =>
      obtain ⟨k, l, hk, rfl, hown, hll, HT, HN, hbel⟩ := hrel
      obtain ⟨oa, oc, rfl, _⟩ := (SlAt.of_own hown).shape
      by_cases hlt : k < s.size
      · have CB := Lib.hid (between_c s k hk hs)
        have HO := Lib.hid hown
        have HBE := Lib.hid hbel
        have HW0 : Hid (w.heap.size ≤ wr.heap.size) := HBE.out.size
        clear hown hbel
        go_upto_region 10 with (go_at_call 122; ((with_reducible refine (CB.out _).mono ?_); rintro e w' ⟨f, b, rfl, hb, rfl⟩; have HBB := Lib.hid hb; clear hb; obtain ⟨HFE, hfb⟩ | ⟨HFE, hfb⟩ := end_or f s.size; all_goals cases b))
        all_goals try (go_ret3; exact retTks_bad rfl (by decide) HBE.out)
        all_goals try (go_ret3; exact ⟨_, _, _, l, rfl, fun _ => SlAt.of_own HO.out, hll, HT.out, ⟨_, _, _, rfl⟩, HBE.out⟩)
        have hf : f < s.size := by
          have := HBB.out (by first | rfl | trivial)
          have := HFE.out
          omega
        have hkf : k ≤ f := (HBB.out (by first | rfl | trivial)).1
        clear HBB HFE
        go_upto_region 11 with fail
        have D1 := Lib.hid (small3_c (s[f]'hf))
        have D2 := Lib.hid (great3_c (s[f]'hf))
        have D3 := Lib.hid (digit3_c (s[f]'hf))
        have D4 := Lib.hid (sign3_c (s[f]'hf))
        have D5 := Lib.hid (mark3_c (s[f]'hf))
        have R1 := Lib.hid (run_c s f 1 (by simp) (by omega) hs)
        have R2 := Lib.hid (run_c s f 2 (by simp) (by omega) hs)
        have R3 := Lib.hid (run_c s f 3 (by simp) (by omega) hs)
        have hlu : ∀ m, l.length = m + 1 → ∃ (g : Nat) (kd tz : Int), oa = some ⟨g, 0, none⟩ ∧ (∀ o, (wr.alloc o).cell? ⟨g, m * 4, none⟩ = some (.int .i64 kd)) ∧ (∀ o, (wr.alloc o).cell? ⟨g, m * 4 + 3, none⟩ = some (.int .i64 tz)) := fun m hm => last_tok HO.out hm
        generalize hnl : l.length = n at *
        have HLU := Lib.hid hlu
        have HNL := Lib.hid hnl
        clear hlu hnl
        go_upto_block 2 with fail
        go_cut [10] (fun p wx => ∃ (kd : Int) (tz : Nat), p = .int .u8 (s[f]'hf).toNat ∧ Hid (((s[f]'hf).toNat : Int) ≠ 39 → f < tz ∧ tz ≤ s.size) ∧ Hid (BoxL wx wr.heap.size [.int .i64 kd, .string ⟨#[]⟩, .int .i64 f, .int .i64 tz]) ∧ Hid (wx.ownsRow w.heap.size 116 4 (.slice oa n oc) n (tkCs l)) ∧ Hid (Below w.heap.size w wx))
        case first =>
          by_cases hc : s[f]'hf = 46
          · clear HLU D1 D2 D3 D4
            have D1 : Hid (∀ w, Calls Try.prog 124 #[.int .u8 (s[f]'hf).toNat] w fun e w' => e = .returned (.bool false) ∧ w = w') := by have h := small3_c (s[f]'hf); rwa [show smallB (s[f]'hf) = false by rw [hc]; decide] at h
            have D2 : Hid (∀ w, Calls Try.prog 126 #[.int .u8 (s[f]'hf).toNat] w fun e w' => e = .returned (.bool false) ∧ w = w') := by have h := great3_c (s[f]'hf); rwa [show greatB (s[f]'hf) = false by rw [hc]; decide] at h
            have D3 : Hid (∀ w, Calls Try.prog 127 #[.int .u8 (s[f]'hf).toNat] w fun e w' => e = .returned (.bool false) ∧ w = w') := by have h := digit3_c (s[f]'hf); rwa [show digitB (s[f]'hf) = false by rw [hc]; decide] at h
            have D4 : Hid (∀ w, Calls Try.prog 128 #[.int .u8 (s[f]'hf).toNat] w fun e w' => e = .returned (.bool true) ∧ w = w') := by have h := sign3_c (s[f]'hf); rwa [show signB (s[f]'hf) = true by rw [hc]; decide] at h
            have hb33 : (((s[f]'hf).toNat : Int) == 33) = false := by rw [hc]; rfl
            have hb59 : (((s[f]'hf).toNat : Int) == 59) = false := by rw [hc]; rfl
            have hb39 : (((s[f]'hf).toNat : Int) == 39) = false := by rw [hc]; rfl
            have hb40 : (((s[f]'hf).toNat : Int) == 40) = false := by rw [hc]; rfl
            have hb46 : (((s[f]'hf).toNat : Int) == 46) = true := by rw [hc]; rfl
            have HC := Lib.hid hc
            clear hc
            have HS := Lib.hid (by rw [HC.out]; decide : signB (s[f]'hf) = true)
            as_aux_lemma =>
              go_wp2_with (first
                | (go_at_call 124; ((with_reducible refine (D1.out _).mono ?_); rintro e w' ⟨rfl, rfl⟩))
                | (go_at_call 126; ((with_reducible refine (D2.out _).mono ?_); rintro e w' ⟨rfl, rfl⟩))
                | (go_at_call 127; ((with_reducible refine (D3.out _).mono ?_); rintro e w' ⟨rfl, rfl⟩))
                | (go_at_call 128; ((with_reducible refine (D4.out _).mono ?_); rintro e w' ⟨rfl, rfl⟩))
                | (go_at_call 123; ((with_reducible refine (blank3_c _ _).mono ?_); rintro e w' ⟨b, rfl, rfl⟩; cases b))
                | (go_at_call 125; ((with_reducible refine (R3.out _).mono ?_); rintro e w' ⟨tz, rfl, h1, h2, h3, rfl⟩; have HR := Lib.hid (h3 hf (by rw [runB_3]; exact HS.out)); clear h3)))
              all_goals first
                | (go_meet
                   first
                     | exact ⟨_, _, rfl, Lib.hid (fun _ => ⟨HR.out, h2⟩), Lib.hid (BoxL.mk' wr _ _), Lib.hid (HO.out.alloc _), Lib.hid (HBE.out.alloc HBE.out.size _)⟩
                     | exact ⟨_, f + 1, by first | rfl | rw [‹(((s[f]'hf).toNat : Int) = _)›], Lib.hid (fun _ => ⟨by omega, by omega⟩), Lib.hid (BoxL.mk' wr _ _), Lib.hid (HO.out.alloc _), Lib.hid (HBE.out.alloc HBE.out.size _)⟩
                     | exact ⟨_, s.size, by first | rfl | rw [‹(((s[f]'hf).toNat : Int) = _)›], Lib.hid (fun _ => ⟨by omega, by omega⟩), Lib.hid (BoxL.mk' wr _ _), Lib.hid (HO.out.alloc _), Lib.hid (HBE.out.alloc HBE.out.size _)⟩
                     | exact ⟨_, 0, by first | rfl | rw [‹(((s[f]'hf).toNat : Int) = _)›], Lib.hid (fun h => absurd (by first | assumption | (apply eq_of_beq; assumption)) h), Lib.hid (BoxL.mk' wr _ _), Lib.hid (HO.out.alloc _), Lib.hid (HBE.out.alloc HBE.out.size _)⟩)
                | (go_ret3; exact retTks_bad rfl (by decide) (HBE.out.alloc HBE.out.size _))
          have h46 : (((s[f]'hf).toNat : Int) == 46) = false := byte_ne hc (by decide)
          by_cases hc : s[f]'hf = 40
          · clear D1 D2 D3 D4 h46
            have D1 : Hid (∀ w, Calls Try.prog 124 #[.int .u8 (s[f]'hf).toNat] w fun e w' => e = .returned (.bool false) ∧ w = w') := by have h := small3_c (s[f]'hf); rwa [show smallB (s[f]'hf) = false by rw [hc]; decide] at h
            have D2 : Hid (∀ w, Calls Try.prog 126 #[.int .u8 (s[f]'hf).toNat] w fun e w' => e = .returned (.bool false) ∧ w = w') := by have h := great3_c (s[f]'hf); rwa [show greatB (s[f]'hf) = false by rw [hc]; decide] at h
            have D3 : Hid (∀ w, Calls Try.prog 127 #[.int .u8 (s[f]'hf).toNat] w fun e w' => e = .returned (.bool false) ∧ w = w') := by have h := digit3_c (s[f]'hf); rwa [show digitB (s[f]'hf) = false by rw [hc]; decide] at h
            have D4 : Hid (∀ w, Calls Try.prog 128 #[.int .u8 (s[f]'hf).toNat] w fun e w' => e = .returned (.bool false) ∧ w = w') := by have h := sign3_c (s[f]'hf); rwa [show signB (s[f]'hf) = false by rw [hc]; decide] at h
            have hb33 : (((s[f]'hf).toNat : Int) == 33) = false := by rw [hc]; rfl
            have hb59 : (((s[f]'hf).toNat : Int) == 59) = false := by rw [hc]; rfl
            have hb39 : (((s[f]'hf).toNat : Int) == 39) = false := by rw [hc]; rfl
            have hb40 : (((s[f]'hf).toNat : Int) == 40) = true := by rw [hc]; rfl
            have hb46 : (((s[f]'hf).toNat : Int) == 46) = false := by rw [hc]; rfl
            clear hc
            rcases n with _ | m
            · clear HLU
              as_aux_lemma =>
                go_wp2_with (first
                  | (go_at_call 124; ((with_reducible refine (D1.out _).mono ?_); rintro e w' ⟨rfl, rfl⟩))
                  | (go_at_call 126; ((with_reducible refine (D2.out _).mono ?_); rintro e w' ⟨rfl, rfl⟩))
                  | (go_at_call 127; ((with_reducible refine (D3.out _).mono ?_); rintro e w' ⟨rfl, rfl⟩))
                  | (go_at_call 128; ((with_reducible refine (D4.out _).mono ?_); rintro e w' ⟨rfl, rfl⟩))
                  | (go_at_call 129; ((with_reducible refine (D5.out _).mono ?_); rintro e w' ⟨b, rfl, rfl⟩; cases b)))
                all_goals first
                  | (go_meet
                     first
                       | exact ⟨_, _, rfl, Lib.hid (fun _ => ⟨HR.out, h2⟩), Lib.hid (BoxL.mk' wr _ _), Lib.hid (HO.out.alloc _), Lib.hid (HBE.out.alloc HBE.out.size _)⟩
                       | exact ⟨_, f + 1, by first | rfl | rw [‹(((s[f]'hf).toNat : Int) = _)›], Lib.hid (fun _ => ⟨by omega, by omega⟩), Lib.hid (BoxL.mk' wr _ _), Lib.hid (HO.out.alloc _), Lib.hid (HBE.out.alloc HBE.out.size _)⟩
                       | exact ⟨_, s.size, by first | rfl | rw [‹(((s[f]'hf).toNat : Int) = _)›], Lib.hid (fun _ => ⟨by omega, by omega⟩), Lib.hid (BoxL.mk' wr _ _), Lib.hid (HO.out.alloc _), Lib.hid (HBE.out.alloc HBE.out.size _)⟩
                       | exact ⟨_, 0, by first | rfl | rw [‹(((s[f]'hf).toNat : Int) = _)›], Lib.hid (fun h => absurd (by first | assumption | (apply eq_of_beq; assumption)) h), Lib.hid (BoxL.mk' wr _ _), Lib.hid (HO.out.alloc _), Lib.hid (HBE.out.alloc HBE.out.size _)⟩)
                  | (go_ret3; exact retTks_bad rfl (by decide) (HBE.out.alloc HBE.out.size _))
            · obtain ⟨g, kd, tz, rfl, hc0, hc3⟩ := HLU.out m rfl
              clear HLU
              as_aux_lemma =>
                go_wp2_with (first
                  | (go_at_call 124; ((with_reducible refine (D1.out _).mono ?_); rintro e w' ⟨rfl, rfl⟩))
                  | (go_at_call 126; ((with_reducible refine (D2.out _).mono ?_); rintro e w' ⟨rfl, rfl⟩))
                  | (go_at_call 127; ((with_reducible refine (D3.out _).mono ?_); rintro e w' ⟨rfl, rfl⟩))
                  | (go_at_call 128; ((with_reducible refine (D4.out _).mono ?_); rintro e w' ⟨rfl, rfl⟩))
                  | (go_at_call 129; ((with_reducible refine (D5.out _).mono ?_); rintro e w' ⟨b, rfl, rfl⟩; cases b)))
                all_goals first
                  | (go_meet
                     first
                       | exact ⟨_, _, rfl, Lib.hid (fun _ => ⟨HR.out, h2⟩), Lib.hid (BoxL.mk' wr _ _), Lib.hid (HO.out.alloc _), Lib.hid (HBE.out.alloc HBE.out.size _)⟩
                       | exact ⟨_, f + 1, by first | rfl | rw [‹(((s[f]'hf).toNat : Int) = _)›], Lib.hid (fun _ => ⟨by omega, by omega⟩), Lib.hid (BoxL.mk' wr _ _), Lib.hid (HO.out.alloc _), Lib.hid (HBE.out.alloc HBE.out.size _)⟩
                       | exact ⟨_, s.size, by first | rfl | rw [‹(((s[f]'hf).toNat : Int) = _)›], Lib.hid (fun _ => ⟨by omega, by omega⟩), Lib.hid (BoxL.mk' wr _ _), Lib.hid (HO.out.alloc _), Lib.hid (HBE.out.alloc HBE.out.size _)⟩
                       | exact ⟨_, 0, by first | rfl | rw [‹(((s[f]'hf).toNat : Int) = _)›], Lib.hid (fun h => absurd (by first | assumption | (apply eq_of_beq; assumption)) h), Lib.hid (BoxL.mk' wr _ _), Lib.hid (HO.out.alloc _), Lib.hid (HBE.out.alloc HBE.out.size _)⟩)
                  | (go_ret3; exact retTks_bad rfl (by decide) (HBE.out.alloc HBE.out.size _))
          have h40 : (((s[f]'hf).toNat : Int) == 40) = false := byte_ne hc (by decide)
          clear HLU
          as_aux_lemma =>
            go_wp2_with (first
              | (go_at_call 124; ((with_reducible refine (D1.out _).mono ?_); rintro e w' ⟨rfl, rfl⟩; cases hD1 : smallB (s[f]'hf); all_goals have HD1 := Lib.hid hD1; all_goals clear hD1))
              | (go_at_call 126; ((with_reducible refine (D2.out _).mono ?_); rintro e w' ⟨rfl, rfl⟩; cases hD2 : greatB (s[f]'hf); all_goals have HD2 := Lib.hid hD2; all_goals clear hD2))
              | (go_at_call 127; ((with_reducible refine (D3.out _).mono ?_); rintro e w' ⟨rfl, rfl⟩; cases hD3 : digitB (s[f]'hf); all_goals have HD3 := Lib.hid hD3; all_goals clear hD3))
              | (go_at_call 128; ((with_reducible refine (D4.out _).mono ?_); rintro e w' ⟨rfl, rfl⟩; cases hD4 : signB (s[f]'hf); all_goals have HD4 := Lib.hid hD4; all_goals clear hD4))
              | (go_at_call 129; ((with_reducible refine (D5.out _).mono ?_); rintro e w' ⟨b, rfl, rfl⟩; cases b))
              | (go_at_call 125; ((with_reducible refine (R1.out _).mono ?_); rintro e w' ⟨tz, rfl, h1, h2, h3, rfl⟩; have HR := Lib.hid (h3 hf (by rw [runB_1]; first | (simp [HD2.out]; done) | (simp [HD1.out]; done))); clear h3))
              | (go_at_call 125; ((with_reducible refine (R2.out _).mono ?_); rintro e w' ⟨tz, rfl, h1, h2, h3, rfl⟩; have HR := Lib.hid (h3 hf (by rw [runB_2]; exact HD3.out)); clear h3))
              | (go_at_call 125; ((with_reducible refine (R3.out _).mono ?_); rintro e w' ⟨tz, rfl, h1, h2, h3, rfl⟩; have HR := Lib.hid (h3 hf (by rw [runB_3]; exact HD4.out)); clear h3)))
            all_goals first
              | (go_meet
                 first
                   | exact ⟨_, _, rfl, Lib.hid (fun _ => ⟨HR.out, h2⟩), Lib.hid (BoxL.mk' wr _ _), Lib.hid (HO.out.alloc _), Lib.hid (HBE.out.alloc HBE.out.size _)⟩
                   | exact ⟨_, f + 1, by first | rfl | rw [‹(((s[f]'hf).toNat : Int) = _)›], Lib.hid (fun _ => ⟨by omega, by omega⟩), Lib.hid (BoxL.mk' wr _ _), Lib.hid (HO.out.alloc _), Lib.hid (HBE.out.alloc HBE.out.size _)⟩
                   | exact ⟨_, s.size, by first | rfl | rw [‹(((s[f]'hf).toNat : Int) = _)›], Lib.hid (fun _ => ⟨by omega, by omega⟩), Lib.hid (BoxL.mk' wr _ _), Lib.hid (HO.out.alloc _), Lib.hid (HBE.out.alloc HBE.out.size _)⟩
                   | exact ⟨_, 0, by first | rfl | rw [‹(((s[f]'hf).toNat : Int) = _)›], Lib.hid (fun h => absurd (by first | assumption | (apply eq_of_beq; assumption)) h), Lib.hid (BoxL.mk' wr _ _), Lib.hid (HO.out.alloc _), Lib.hid (HBE.out.alloc HBE.out.size _)⟩)
              | (go_ret3; exact retTks_bad rfl (by decide) (HBE.out.alloc HBE.out.size _))
        case rest =>
          obtain ⟨kd, tz, rfl, HZ, HX, HO2, HB2⟩ := hcut
          have HNE : Hid ((Value.slice oa n oc).ownBlock ≠ some wr.heap.size) := own_far HO.out (Nat.le_refl _)
          clear D1 D2 D3 D4 D5 R1 R2 R3 HO HBE HLU
          obtain ⟨x0, fx0⟩ := HX.out.get 0 rfl
          obtain ⟨x1, fx1⟩ := HX.out.get 1 rfl
          obtain ⟨x2, fx2⟩ := HX.out.get 2 rfl
          obtain ⟨x3, fx3⟩ := HX.out.get 3 rfl
          by_cases hn : n = 1000
          · subst hn
            go_wp2
            go_ret3
            exact retTks_bad rfl (by decide) HB2.out
          · have hnb : ((n : Int) == 1000) = false := by rw [beq_eq_false_iff_ne]; omega
            have hnl : n < 1000 := by omega
            clear hn
            obtain ⟨W2, hW2⟩ : ∃ W2, W2 = wc := ⟨_, rfl⟩
            subst hW2
            by_cases h39 : ((s[f]'hf).toNat : Int) = 39
            · have hb39 : (((s[f]'hf).toNat : Int) == 39) = true := by simp [h39]
              clear h39 HZ
              have CQ := Lib.hid (quoted_c s f hf hs)
              go_wp2_with (first
                | (go_at_call 130; ((with_reducible refine (CQ.out _).mono ?_); rintro e W1 ⟨T, f2, x, rfl, hx, hb⟩; have HXX := Lib.hid hx; have B3 := Lib.hid hb; clear hx hb; obtain ⟨y0, fy0⟩ := (HX.out.below B3.out HX.out.lt4).get 0 rfl; obtain ⟨y1, fy1⟩ := (HX.out.below B3.out HX.out.lt4).get 1 rfl; obtain ⟨y2, fy2⟩ := (HX.out.below B3.out HX.out.lt4).get 2 rfl; obtain ⟨y3, fy3⟩ := (HX.out.below B3.out HX.out.lt4).get 3 rfl; rcases int_or x with rfl | hx0))
                | (at_builtin; refine wpList_appendK rfl (.tmp 179) (.tmp 181) 112 rfl w.heap.size 116 i0 (.agg #[.int .i64 0, .string ByteArray.empty, .int .i64 0, .int .i64 0]) 4 40 Try.underlying112 hi hz0 hz1 hz2 rfl (by decide) _ n (tkCs l) rfl ?_ _ (sl_size2 _ _ _ _ _) rfl (one4 rfl rfl rfl rfl) ⟨by omega, by omega⟩ ?_ ?_; (· exact own_set_ne (own_set_ne (own_below HO2.out B3.out) HNE.out) HNE.out); (· simp; have := HB2.out.size; have := B3.out.size; omega); intro v' w1 hown1 hbel1 hkb _; have y3 := hkb.cell (a := ⟨wr.heap.size, 3, none⟩) (World.cell?_setCell_same _ _ _ ((World.cell?_setCell_other _ _ _ _ (by simp)).trans y3)) HNE.out; have HO3 := Lib.hid hown1; have HB3 := Lib.hid (((HB2.out.trans (B3.out.mono HB2.out.size)).setCell (p := ⟨wr.heap.size, 1, none⟩) HW0.out _ |>.setCell (p := ⟨wr.heap.size, 3, none⟩) HW0.out _).trans hbel1); clear hown1 hbel1 hkb))
              · obtain ⟨q1, q2, q3⟩ := HXX.out (by first | rfl | trivial)
                go_roundg (s.size - f2)
                case measure => have := HN.out; omega
                case rel => exact ⟨f2, l ++ [⟨kd, T, f, f2⟩], q2, rfl, own_snocT HO3.out HNL.out, (by have := HNL.out; simp; omega), Lib.hid (all_snoc HT.out q3), Lib.hid rfl, HB3.out⟩
              · go_ret3
                exact retTks_bad rfl (by simpa using hx0) (HB2.out.trans (B3.out.mono HB2.out.size))
            · have hb39 : (((s[f]'hf).toNat : Int) == 39) = false := by simpa using h39
              obtain ⟨hy1, hy2⟩ := HZ.out h39
              clear h39 HZ
              go_wp2_with (at_builtin; refine wpList_appendK rfl (.tmp 179) (.tmp 181) 112 rfl w.heap.size 116 i0 (.agg #[.int .i64 0, .string ByteArray.empty, .int .i64 0, .int .i64 0]) 4 40 Try.underlying112 hi hz0 hz1 hz2 rfl (by decide) _ n (tkCs l) rfl ?_ _ (sl_size1 _ _ _) rfl (one4 rfl rfl rfl rfl) ⟨by omega, by omega⟩ ?_ ?_; (· exact own_set_ne HO2.out HNE.out); (· simp; have := HB2.out.size; omega); intro v' w1 hown1 hbel1 hkb _; have y3 := hkb.cell (a := ⟨wr.heap.size, 3, none⟩) ((World.cell?_setCell_other _ _ _ _ (by simp)).trans x3) HNE.out; have HO3 := Lib.hid hown1; have HB3 := Lib.hid ((HB2.out.setCell (p := ⟨wr.heap.size, 1, none⟩) HW0.out _).trans hbel1); clear hown1 hbel1 hkb)
              go_roundg (s.size - tz)
              case measure => have := HN.out; omega
              case rel => exact ⟨tz, l ++ [⟨kd, s.extract f tz, f, tz⟩], hy2, rfl, own_snocT HO3.out HNL.out, (by have := HNL.out; simp; omega), Lib.hid (all_snoc HT.out (by simp [ByteArray.size_extract]; omega)), Lib.hid rfl, HB3.out⟩
      · obtain rfl : k = s.size := by omega
        go_wp2
        go_ret3
        exact ⟨_, _, _, l, rfl, fun _ => SlAt.of_own hown, hll, HT.out, ⟨_, _, _, rfl⟩, hbel⟩
  · go_enter Try.func100, Try.ntmps100
    go_wp2
    go_ret3
    exact retTks_bad rfl (by decide) (Below.refl _ _)
end Go.Proofs.Ytmffobadnmkpbaa
namespace Go.Proofs.Ytmffobadnmkpbaa
open Go.RowKit

theorem Try.infoSent : (Try.prog.info? 69).map (fun i => (i.zero, i.size, i.bytes)) = some (some (.agg #[.int .i64 0, .int .i64 0, .string ByteArray.empty, .slice none 0 0, .slice none 0 0]), 5, 80) := by kernel_rfl
def RetRead (w : World) (e : Ending) (w' : World) : Prop := ∃ v pl x l, e = .returned (.tuple #[v, .int .i64 pl, .int .i64 x]) ∧ SnAt w.heap.size w' v l ∧ (∀ t ∈ l, t.ok ∧ t.size ≤ 2001) ∧ l.length ≤ 1000 ∧ Below w.heap.size w w'
theorem retRead_bad {w w' : World} {e : Ending} {pl x : Int} (h : e = .returned (.tuple #[.slice none 0 0, .int .i64 pl, .int .i64 x])) (hb : Below w.heap.size w w') : RetRead w e w' := ⟨_, pl, x, [], h, .nil, by simp, by simp, hb⟩
theorem k6_or (x : Int) : (Hid (x = 6) ∧ (x != 6) = false) ∨ (x != 6) = true := by
  by_cases h : x = 6
  · exact .inl ⟨Lib.hid h, by simp [h]⟩
  · exact .inr (by simpa using h)
theorem news_drew (w : World) (cs : Array Value) (T : TypeId) : ∀ j u, cs.toList[j]? = some u → (w.alloc (.cells cs T)).drew.cell? ⟨w.heap.size, j, none⟩ = some u := fun j u hj => by
  show (w.alloc (.cells cs T)).cell? _ = _
  simpa using hj
theorem one5 {a b c d e : Value} (h : a.oneCell' = true) (h2 : b.oneCell' = true) (h3 : c.oneCell' = true) (h4 : d.oneCell' = true) (h5 : e.oneCell' = true) : ∀ u ∈ (#[a, b, c, d, e] : Array Value).toList, u.oneCell' = true := by
  intro u hu; simp at hu; rcases hu with rfl | rfl | rfl | rfl | rfl <;> assumption
theorem own_made5 (w : World) (o : Obj) (e : TypeId) : ((w.alloc o).alloc (.cells #[] e)).ownsRow (w.heap.size + 1) e 5 (.slice (some ⟨w.heap.size + 1, 0, none⟩) 0 0) 0 [] := by
  have h := World.ownsRow_made (base := w.heap.size + 1) (size := 5) (e := e) (w.alloc o) #[] 0 (by simp) (by decide) rfl
  simpa using h
/-- the reader at its start, with no sentence -/
theorem SnW.start {w W1 : World} {s : ByteArray} {lv : Value} {toks : List Tok} (b1 : Below w.heap.size w W1) (ht : SlAt W1 4 lv toks.length (tkCs toks)) (T : TypeId) :
    SnW W1.heap.size s lv toks w (.slice (some ⟨W1.heap.size + 1, 0, none⟩) 0 0) ((W1.alloc (.cells #[.string s, lv, .int .i64 0, .slice none 0 0, .int .i64 0, .int .i64 0] T)).alloc (.cells #[] 69)) 0 (.slice none 0 0) [] 0 0 [] := by
  have hb := below_new2 W1 (.cells #[.string s, lv, .int .i64 0, .slice none 0 0, .int .i64 0, .int .i64 0] T) (.cells #[] 69)
  refine ⟨⟨?_, (TkAt.of_sl ht (Nat.le_refl _)).mono fun b h1 h2 => hb.block b h2, ⟨by simp, .inl ⟨rfl, rfl⟩⟩, Nat.zero_le _, by simp⟩, b1.trans (hb.mono b1.size), own_made5 _ _ _, fun g _ he => by simp [Value.ownBlock] at he, by simp, by simp, by simp, by simp⟩
  exact (BoxL.mk' W1 #[.string s, lv, .int .i64 0, .slice none 0 0, .int .i64 0, .int .i64 0] T).block (Below.heap_alloc _ _ _ (by simp))
set_option maxRecDepth 100000 in
set_option maxHeartbeats 3200000 in
theorem read_c (hT : TermOk 0) (s : ByteArray) (hs : s.size ≤ 4099) (w : World) : Calls Try.prog 65 #[.string s] w (RetRead w) := by
  obtain ⟨i0, hi, hz0, hz1, hz2⟩ := info_parts Try.infoSent
  have HT := Lib.hid hT
  have CT := Lib.hid (tokens_c s w (by unfold maxLen; omega))
  clear hT
  go_enter Try.func65, Try.ntmps65
  go_wp2_with (go_at_call 100; ((with_reducible refine CT.out.mono ?_); rintro e W1 ⟨tv, tp, tx, toks, rfl, hsl, hlen, htx, ⟨ta, tn, tc, rfl⟩, b1⟩; have B1 := Lib.hid b1; have HSL := Lib.hid hsl; have HTX := Lib.hid htx; clear b1 hsl htx; rcases e_or tx with ⟨HE, heb, hen⟩ | ⟨HE, heb, hen⟩))
  rotate_left
  · go_ret3
    exact retRead_bad rfl B1.out
  · obtain ⟨ta2, tc2, he, _⟩ := (HSL.out HE.out).shape
    simp only [Value.slice.injEq] at he
    obtain ⟨rfl, rfl, rfl⟩ := he
    have HOK : Hid (TksOk s toks) := ⟨hs, hlen, HTX.out⟩
    have SN0 := Lib.hid (SnW.start (s := s) B1.out (HSL.out HE.out) 122)
    have hB := B1.out.size
    clear HSL HTX CT
    go_loopg [9] toks.length (fun n v wr => ∃ (k : Nat) (nv : Value) (ns : List ByteArray) (pl : Int) (L : List ((Tm × Value) × Value)), Hid (SnW W1.heap.size s (.slice ta toks.length tc) toks w v wr k nv ns pl 0 L) ∧ Hid (n = toks.length - k))
    case atStart => exact ⟨0, _, [], 0, [], SN0, Lib.hid rfl⟩
    case round =>
      clear SN0
      obtain ⟨k, nv, ns, pl, L, S, HN⟩ := hrel
      obtain ⟨oa, oc, rfl, _⟩ := (SlAt.of_own S.out.own).shape
      obtain ⟨c0, c1, c2, c3, c4, c5, f2, f3, f4, f5⟩ := S.out.rd.six
      have hkl := S.out.rd.le
      by_cases hk : k < toks.length
      · have SF := Lib.hid (S.out.fresh hB)
        have hkd : decide ((k : Int) < toks.length) = true := by simpa using hk
        go_upto_region 14 with (first
          | (go_at_call 103; ((with_reducible refine (HT.out.call SF.out.rd HOK.out 1200).mono ?_); rintro ex W3 ⟨k3, nv3, ns3, pl3, e3, t, a, rfl, r3, kr3, hle3, hb3, ht3, hs3, ho3⟩; obtain ⟨ao3, cc3, rfl, _⟩ := ht3.shape; have S3 := Lib.hid ((SF.out.call hB r3 kr3 hle3).later hB ((Below.refl _ _).alloc (Nat.le_refl _) (.cells #[.int .i64 t.kind, .int .i64 t.num, .string t.name, .slice ao3 t.args.length cc3] 24))); have T3 := Lib.hid (ht3.nw (KR.of_below ((Below.refl _ _).alloc (Nat.le_refl _) (.cells #[.int .i64 t.kind, .int .i64 t.num, .string t.name, .slice ao3 t.args.length cc3] 24))) (Nat.le_refl _)); have Z3 := Lib.hid hs3; have O3 := Lib.hid ho3; have L3 := Lib.hid hle3; have hW3 := r3.lt; have hk3l := r3.le; have KX := Lib.hid (Kx.new r3.lt r3.own_lt #[.int .i64 t.kind, .int .i64 t.num, .string t.name, .slice ao3 t.args.length cc3] 24); clear r3 kr3 hle3 hb3 ht3 hs3 ho3 c0 c1 c2 c3 c4 c5 f2 f3 f4 f5; obtain ⟨c0, c1, c2, c3, c4, c5, f2, f3, f4, f5⟩ := S3.out.rd.six; unfold tmV; rcases e_or e3 with ⟨HE3, heb3, hen3⟩ | ⟨HE3, heb3, hen3⟩))
          | (go_at_call 104; ((with_reducible refine (next_c S3.out.rd HOK.out).mono ?_); rintro ex W5 ⟨rfl, b5⟩; have S5 := Lib.hid (S3.out.later hB b5); have T5 := Lib.hid (T3.out.nw (KR.of_below b5) (Nat.le_refl _)); have KX5 := Lib.hid (KX.out.later b5); clear c0 c1 c2 c3 c4 c5 f2 f3 f4 f5; obtain ⟨c0, c1, c2, c3, c4, c5, f2, f3, f4, f5⟩ := S5.out.rd.six; have hkt := tokAt_kind (s := s) (toks := toks) (k := k3); obtain ⟨x, hx⟩ : ∃ x, x = tokAt s toks k3 := ⟨_, rfl⟩; rw [← hx] at hkt ⊢; clear hx b5; obtain ⟨kd, tx5, lo5, hi5⟩ := x; dsimp only at hkt ⊢; have HKT := Lib.hid hkt; clear hkt; rcases k6_or kd with ⟨H6, h6b⟩ | h6b))
          | (go_at_call 105; ((with_reducible refine (wrong_c S5.out.rd HOK.out).mono ?_); rintro ex W6 ⟨u6, pl6, e6, rfl, r6, kr6, he6⟩; have S6 := Lib.hid (S5.out.call hB r6 kr6 (Nat.le_refl _)); have hen6 : (e6 != 0) = true := (by simpa using he6); clear c0 c1 c2 c3 c4 c5 f2 f3 f4 f5; obtain ⟨c0, c1, c2, c3, c4, c5, f2, f3, f4, f5⟩ := S6.out.rd.six; clear r6 kr6 he6)))
        rotate_left
        · go_quiet (fail)
          go_wp2
          go_ret3
          exact retRead_bad rfl (below_drewN S6.out.low _)
        · go_quiet (fail)
          go_wp2
          go_ret3
          exact retRead_bad rfl (below_drewN S3.out.low _)
        · have hk3 : k3 < toks.length := HKT.out (by rw [H6.out]; decide)
          have S7 := Lib.hid (S5.out.step hB hk3)
          have T7 := Lib.hid (T5.out.nw (KR.setB W1.heap.size nv3 _ 2 (.int .i64 ((k3 : Int) + 1))) (Nat.le_refl _))
          have KX7 := Lib.hid (KX5.out.kr (KR.setB W1.heap.size nv3 _ 2 (.int .i64 ((k3 : Int) + 1))))
          obtain ⟨oa3, oc3, rfl, _⟩ := (SlAt.of_own S7.out.rd.nms).shape
          clear c0 c1 c2 c3 c4 c5 f2 f3 f4 f5
          obtain ⟨c0, c1, c2, c3, c4, c5, f2, f3, f4, f5⟩ := S7.out.rd.six
          obtain ⟨x0, fx0⟩ := KX7.out.2.get 0 rfl
          obtain ⟨x1, fx1⟩ := KX7.out.2.get 1 rfl
          obtain ⟨x2, fx2⟩ := KX7.out.2.get 2 rfl
          obtain ⟨x3, fx3⟩ := KX7.out.2.get 3 rfl
          obtain ⟨Wx, hWx⟩ : ∃ Wx, Wx = W5.setCell ⟨W1.heap.size, 2, none⟩ (.int .i64 ((k3 : Int) + 1)) := ⟨_, rfl⟩
          rw [← hWx] at S7 T7 KX7 c0 c1 c2 c3 c4 c5 f2 f3 f4 f5 x0 x1 x2 x3 fx0 fx1 fx2 fx3 ⊢
          have HWX := Lib.hid hWx
          clear hWx
          have hLn : L.length + 1 ≤ k3 + 1 := by have := S.out.len; have := L3.out; omega
          have hLl : L.length ≤ 1000 := by omega
          have hZ : Hid (∀ o, Below Wx.heap.size Wx (Wx.alloc o).drew) := fun o => ((Below.refl _ _).alloc (Nat.le_refl _) o).drew
          have hvw : Hid (∀ g, (Value.slice oa L.length oc).ownBlock = some g → g < (wr.setCell ⟨W1.heap.size, 3, none⟩ (.slice none 0 0)).heap.size) := fun g hg => (SF.out.own.lt g hg).2
          have hsx : W1.heap.size + 1 ≤ Wx.heap.size := S7.out.rd.lt
          go_region_law
            ((refine step_appendX rfl (.tmp 71) (.tmp 78) 77 rfl (W1.heap.size + 1) 69 i0 (.agg #[.int .i64 0, .int .i64 0, .string ByteArray.empty, .slice none 0 0, .slice none 0 0]) 5 80 Try.underlying77 hi hz0 hz1 hz2 rfl (by decide) _ L.length (snCs L) rfl (S7.out.later hB (hZ.out _)).own (#[.int .i64 t.kind, .int .i64 t.num, .string t.name, .slice ao3 t.args.length cc3, .slice oa3 ns3.length oc3] : Array Value).toList _ rfl ?_ rfl ?_ ⟨by omega, by omega⟩ ?_ ?_; (· exact news_drew _ _ _); (· exact one5 rfl rfl rfl rfl rfl); (· exact Nat.le_trans hsx (hZ.out _).size); intro g1 cap1 w1 ow bw kw aw))
          all_goals
            have S9 := (S7.out.later hB (hZ.out _)).push hB (T7.out.nw (KR.of_below (hZ.out _)) (Nat.le_refl _)) SF.out.low.size hvw.out (by have := Z3.out; omega) (O3.out HE3.out) hLn ow bw kw aw
            rw [HE3.out] at S9
            have HS9 := Lib.hid S9
            clear S9 ow bw kw aw
            go_wp2
            go_roundg (toks.length - (k3 + 1))
            case measure => have := HN.out; have := L3.out; omega
            case rel => exact ⟨k3 + 1, _, ns3, pl3, _, HS9, Lib.hid rfl⟩
      · have hkd : ¬ (k : Int) < toks.length := by omega
        go_wp2
        go_ret3
        exact ⟨_, 0, 0, _, rfl, S.out.at, by intro t ht; obtain ⟨x, hx, rfl⟩ := List.mem_map.1 ht; exact S.out.ok x hx, by have := S.out.len; have := S.out.rd.le; simp; omega, S.out.low⟩
end Go.Proofs.Ytmffobadnmkpbaa
