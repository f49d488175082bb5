/-
  coneyref05's named, walked over the contract of term.
  coneyref05's operand, walked over the contract of term.
-/
import Derived.Test.YtmffobadnmkpbaaKpars3
namespace Go.Proofs.Ytmffobadnmkpbaa
open Go.RowKit

theorem TsAt.nw {B : Nat} {v v1 : Value} {w w1 w2 : World} {l : List Tm} {a : Value} (h : TsAt (Nw B v w w1) w1 a l) (hk : KR B v w1 v1 w2) : TsAt (Nw B v1 w w2) w2 a l :=
  h.mono fun _ _ hb => ⟨⟨hb.1, (hk.good hb.2).1⟩, (hk.good hb.2).2⟩
theorem TmAt.nws {B : Nat} {v v1 : Value} {w w1 w2 : World} {t : Tm} {a : Value} (h : TmAt (Nw B v w w1) w1 t a) (hk : KR B v w1 v1 w2) : TmAt (Nw B v1 w w2) w2 t a := h.nw hk (Nat.le_refl _)
theorem TmAt.nwb {B : Nat} {v : Value} {w w1 w2 : World} {t : Tm} {a : Value} (h : TmAt (Nw B v w w1) w1 t a) (hb : Below w1.heap.size w1 w2) : TmAt (Nw B v w w2) w2 t a := h.nws (KR.of_below hb)
theorem shape1 {p : Nat → Prop} {w : World} {s : ByteArray} {a : Tm} {v : Value} (h : TmAt p w (.cmp s [a]) v) : ∃ ao cap, v = .slice ao 1 cap := by
  obtain ⟨ao, cap, rfl, _⟩ := h.shapeC
  exact ⟨ao, cap, rfl⟩
theorem one_ok {s : ByteArray} {a : Tm} (hs : s.size ≤ 4096) (ha : a.ok) : (Tm.cmp s [a]).ok := .cmp hs (by simp) (fun t ht => by
  obtain rfl := List.mem_singleton.1 ht; exact ha)
set_option maxRecDepth 100000 in
set_option maxHeartbeats 3200000 in
theorem named_c {d : Int} (hd0 : 0 ≤ d) (hd : d ≤ 64) (hT : TermOk (d + 1)) {w : World} {B : Nat} {s : ByteArray} {lv : Value} {toks : List Tok} {k : Nat} {nv : Value} {ns : List ByteArray} {pl e : Int} (h : RdAt w B s lv toks k nv ns pl e) (hok : TksOk s toks) (t : Tok) (ht : t.text.size ≤ 4096) (most : Int) :
    Calls Try.prog 158 #[.pointer (some ⟨B, 0, none⟩), .agg #[.int .i64 t.kind, .string t.text, .int .i64 t.lo, .int .i64 t.hi], .int .i64 most, .int .i64 d] w (RetOp 3 B s lv toks k nv e w) := by
  obtain ⟨kd, tx, lo, hi⟩ := t
  dsimp only at ht ⊢
  have hB := h.lt
  have hll := hok.len
  have hkl := h.le
  have HOK := Lib.hid hok
  have HT := Lib.hid hT
  have HO0 := Lib.hid (((OpW.begin h).alloc hB #[.int .i64 kd, .string tx, .int .i64 lo, .int .i64 hi] 116 w.heap.size rfl).alloc hB #[.int .i64 0, .int .i64 0, .string ⟨#[]⟩, .slice none 0 0] 24 (w.heap.size + 1) (by simp))
  have CN := Lib.hid (next_c HO0.out.rd hok)
  have hkt := tokAt_kind (s := s) (toks := toks) (k := k)
  have hxt := tokAt_text hok k
  obtain ⟨x, hx⟩ : ∃ x, x = tokAt s toks k := ⟨_, rfl⟩
  rw [← hx] at CN hkt hxt
  clear h hok hT hx
  obtain ⟨kd2, tx2, lo2, hi2⟩ := x
  dsimp only at hkt hxt
  by_cases h4 : kd2 = 4
  · have hkt2 : k < toks.length := hkt (by omega)
    subst h4
    clear hkt
    go_enter Try.func158, Try.ntmps158
    go_wp2_with (first
      | (go_at_call 104; ((with_reducible refine CN.out.mono ?_); rintro ex W1 ⟨rfl, b1⟩; have HO1 := Lib.hid ((HO0.out.later b1).alloc hB #[.int .i64 4, .string tx2, .int .i64 lo2, .int .i64 hi2] 116 W1.heap.size rfl); obtain ⟨c0, c1, c2, c3, c4, c5, f2, f3, f4, f5⟩ := HO1.out.rd.six; clear b1))
      | (go_at_call 175; (have HO2 := Lib.hid (HO1.out.step hkt2); (with_reducible refine (row_c hd0 hd HT.out HO2.out.rd HOK.out).mono ?_); rintro ex W2 ⟨k2, nv2, ns2, pl2, e2, l, v, rfl, r2, kr2, hle2, hb2, ht2, hs2, hp2, ho2⟩; have HO3 := Lib.hid (HO2.out.call r2 kr2 hle2 hb2); have K2 := Lib.hid kr2; have T2 := Lib.hid ht2; have S2 := Lib.hid hs2; have PP2 := Lib.hid hp2; have O2 := Lib.hid ho2; have L2 := Lib.hid hle2; obtain ⟨ao2, cc2, rfl, _⟩ := ht2.shape; clear r2 kr2 hle2 hb2 ht2 hs2 hp2 ho2))
      | (go_at_call 154; ((with_reducible refine (must_c HO3.out.rd HOK.out ⟨#[41]⟩).mono ?_); rintro ex W3 ⟨u3, k3, pl3, e3, rfl, r3, kr3, hle3, hb3⟩; have HO4 := Lib.hid (HO3.out.call r3 kr3 hle3 hb3); have K3 := Lib.hid kr3; have T3 := Lib.hid (T2.out.nw kr3); have L3 := Lib.hid hle3; have O3 := Lib.hid (fun h0 => O2.out (Classical.byContradiction fun h2 => hb3 h2 h0)); obtain ⟨y1, fy1⟩ := (HO4.out.get (.tail _ (.tail _ (.head _)))).get 1 rfl; clear r3 kr3 hle3 hb3))
      | (go_at_call 160; (have hlb : l.length ≤ 100000 := (by have := S2.out; have := HO3.out.rd.le; omega); (refine (cmp_c _ tx _ l _ T3.out PP2.out hlb).mono ?_); rintro ex W4 ⟨a4, rfl, t4, b4⟩; obtain ⟨ao4, cc4, rfl, _⟩ := t4.shapeC; rw [tmV_cmp]; have HO5 := Lib.hid (HO4.out.later b4); have T4 := Lib.hid t4; obtain ⟨x0, fx0⟩ := ((HO4.out.later b4).get (.tail _ (.head _))).get 0 rfl; obtain ⟨x1, fx1⟩ := ((HO4.out.later b4).get (.tail _ (.head _))).get 1 rfl; obtain ⟨x2, fx2⟩ := ((HO4.out.later b4).get (.tail _ (.head _))).get 2 rfl; obtain ⟨x3, fx3⟩ := ((HO4.out.later b4).get (.tail _ (.head _))).get 3 rfl; clear t4 b4)))
    have hr := HO5.out.ret hB (.tail _ (.head _)) (nw_made T4.out (Nat.lt_of_lt_of_le hB HO2.out.kr.size) (Nat.le_trans (by have := HO3.out.kr.size; exact K2.out.size) K3.out.size) HO4.out.rd.own_lt) HO2.out.kr.size (HO2.out.lt (.tail _ (.head _))) (c := 3) (by have := S2.out; have := L2.out; have := L3.out; simp only [Tm.size]; omega) (fun h0 => .cmp ht PP2.out (O3.out h0)) 0
    dsimp only [put4, Tm.kind, Tm.num, Tm.name] at hr
    refine bodyPost_ret (v := .tuple #[tmV (.cmp tx l) (.slice ao4 l.length cc4), .int .i64 0]) (by simp [results, Try.results158, go_sem, tmV_cmp, x0, x1, x2, x3]; try rfl) rfl ?_
    exact hr
  · have h4b : (kd2 == 4) = false := by simpa using h4
    clear h4
    obtain ⟨hk3, hb3⟩ | hb3 : (k < toks.length ∧ (kd2 == 3) = true) ∨ (kd2 == 3) = false := by
      by_cases h3 : kd2 = 3
      · exact .inl ⟨hkt (by omega), by simp [h3]⟩
      · exact .inr (by simpa using h3)
    all_goals
      clear hkt
      go_enter Try.func158, Try.ntmps158
      go_upto_region 12 with (first
        | (go_at_call 104; ((with_reducible refine CN.out.mono ?_); rintro ex W1 ⟨rfl, b1⟩; have hW1 : B < W1.heap.size := (by have := b1.size; simp at this; omega); have HOL := Lib.hid (HO0.out.later b1); have HO1 := Lib.hid ((HO0.out.later b1).alloc hB #[.int .i64 kd2, .string tx2, .int .i64 lo2, .int .i64 hi2] 116 W1.heap.size rfl); obtain ⟨c0, c1, c2, c3, c4, c5, f2, f3, f4, f5⟩ := HO1.out.rd.six; obtain ⟨y0, fy0⟩ := (HO1.out.get (.tail _ (.tail _ (.head _)))).get 0 rfl; obtain ⟨y1, fy1⟩ := (HO1.out.get (.tail _ (.tail _ (.head _)))).get 1 rfl; obtain ⟨y2, fy2⟩ := (HO1.out.get (.tail _ (.tail _ (.head _)))).get 2 rfl; obtain ⟨y3, fy3⟩ := (HO1.out.get (.tail _ (.tail _ (.head _)))).get 3 rfl; clear b1))
        | (go_at_call 152; (have HO2 := Lib.hid ((HOL.out.step hk3).alloc hB #[.int .i64 kd2, .string tx2, .int .i64 lo2, .int .i64 hi2] 116 W1.heap.size (by simp [World.setCell])); (refine (integer_c HO2.out.rd ⟨kd2, tx2, lo2, hi2⟩ hxt true).mono ?_); rintro ex W2 ⟨k2, nv2, ns2, pl2, e2, t2, a2, rfl, r2, kr2, hle2, hb2, ht2, hs2, ho2⟩; obtain ⟨ao2, cc2, rfl, _⟩ := ht2.shape; have HO3 := Lib.hid (HO2.out.call r2 kr2 hle2 hb2); have T2 := Lib.hid ht2; have S2 := Lib.hid hs2; have O2 := Lib.hid ho2; have L2 := Lib.hid hle2; obtain ⟨x0, fx0⟩ := (HO3.out.get (.tail _ (.head _))).get 0 rfl; obtain ⟨x1, fx1⟩ := (HO3.out.get (.tail _ (.head _))).get 1 rfl; obtain ⟨x2, fx2⟩ := (HO3.out.get (.tail _ (.head _))).get 2 rfl; obtain ⟨x3, fx3⟩ := (HO3.out.get (.tail _ (.head _))).get 3 rfl; clear r2 kr2 hle2 hb2 ht2 hs2 ho2; unfold tmV))
        | (go_at_call 176; ((refine (pre_c _ _).mono ?_); rintro ex W2 ⟨pa, pb, pd, rfl, b2⟩; have HP2 := Lib.hid (HO1.out.later b2); clear y0 y1 y2 y3 fy0 fy1 fy2 fy3; obtain ⟨y0, fy0⟩ := (HP2.out.get (.tail _ (.tail _ (.head _)))).get 0 rfl; obtain ⟨y1, fy1⟩ := (HP2.out.get (.tail _ (.tail _ (.head _)))).get 1 rfl; obtain ⟨y2, fy2⟩ := (HP2.out.get (.tail _ (.tail _ (.head _)))).get 2 rfl; obtain ⟨y3, fy3⟩ := (HP2.out.get (.tail _ (.tail _ (.head _)))).get 3 rfl; clear b2; cases pd))
        | (go_at_call 177; ((with_reducible refine (ends_c HP2.out.rd HOK.out).mono ?_); rintro ex W3 ⟨pe, rfl, b3⟩; have HP3 := Lib.hid (HP2.out.later b3); clear y0 y1 y2 y3 fy0 fy1 fy2 fy3; obtain ⟨y0, fy0⟩ := (HP3.out.get (.tail _ (.tail _ (.head _)))).get 0 rfl; obtain ⟨y1, fy1⟩ := (HP3.out.get (.tail _ (.tail _ (.head _)))).get 1 rfl; obtain ⟨y2, fy2⟩ := (HP3.out.get (.tail _ (.tail _ (.head _)))).get 2 rfl; obtain ⟨y3, fy3⟩ := (HP3.out.get (.tail _ (.tail _ (.head _)))).get 3 rfl; clear b3; cases pe))
        | (go_at_call 156; ((refine (atom_c2 _ _).mono ?_); rintro ex W4 ⟨rfl, b4⟩; first | (have HP4 := Lib.hid (HP3.out.later b4); obtain ⟨x0, fx0⟩ := (HP4.out.get (.tail _ (.head _))).get 0 rfl; obtain ⟨x1, fx1⟩ := (HP4.out.get (.tail _ (.head _))).get 1 rfl; obtain ⟨x2, fx2⟩ := (HP4.out.get (.tail _ (.head _))).get 2 rfl; obtain ⟨x3, fx3⟩ := (HP4.out.get (.tail _ (.head _))).get 3 rfl) | (have HP4 := Lib.hid (HP2.out.later b4); obtain ⟨x0, fx0⟩ := (HP4.out.get (.tail _ (.head _))).get 0 rfl; obtain ⟨x1, fx1⟩ := (HP4.out.get (.tail _ (.head _))).get 1 rfl; obtain ⟨x2, fx2⟩ := (HP4.out.get (.tail _ (.head _))).get 2 rfl; obtain ⟨x3, fx3⟩ := (HP4.out.get (.tail _ (.head _))).get 3 rfl))))
      all_goals first
        | (have hr := HO3.out.ret hB (.tail _ (.head _)) T2.out HO2.out.kr.size (HO2.out.lt (.tail _ (.head _))) (c := 3) (by have := S2.out; have := L2.out; omega) O2.out 0
           dsimp only [put4] at hr
           refine bodyPost_ret (v := .tuple #[tmV t2 (.slice ao2 t2.args.length cc2), .int .i64 0]) (by simp [results, Try.results158, go_sem, tmV, x0, x1, x2, x3]; try rfl) rfl ?_
           exact hr)
        | (have hr := HP4.out.ret hB (.tail _ (.head _)) (nw_leaf (B := B) (nv := nv) (w1 := W4) (t := .atom tx) rfl) HP4.out.kr.size (HP4.out.lt (.tail _ (.head _))) (c := 3) (by simp only [Tm.size]; omega) (fun _ => .atom ht) 0
           dsimp only [put4, Tm.kind, Tm.num, Tm.name] at hr
           refine bodyPost_ret (v := .tuple #[tmV (.atom tx) (.slice none 0 0), .int .i64 0]) (by simp [results, Try.results158, go_sem, tmV, Tm.kind, Tm.num, Tm.name, x0, x1, x2, x3]; try rfl) rfl ?_
           exact hr)
        | (refine (id : Code.wp _ _ _ _ _ → Code.wp _ _ _ _ _) ?_)
      all_goals
        have hdw : IntKind.i64.wrap (d + 1) = d + 1 := IntWalk.i64_in _ (by omega)
        go_region_with ((first
          | (go_at_call 103; (have HP5 := Lib.hid (HP3.out.later ((Below.refl _ W3).drew)); (with_reducible refine (HT.out.call HP5.out.rd HOK.out pb).mono ?_); rintro ex W6 ⟨k6, nv6, ns6, pl6, e6, t6, a6, rfl, r6, kr6, hle6, hb6, ht6, hs6, ho6⟩; obtain ⟨ao6, cc6, rfl, _⟩ := ht6.shape; have HP6 := Lib.hid (HP5.out.call r6 kr6 hle6 hb6); have hz6 := kr6.size; have T6 := Lib.hid ht6; have S6 := Lib.hid hs6; have O6 := Lib.hid ho6; have L6 := Lib.hid hle6; obtain ⟨z1, fz1⟩ := (HP6.out.get (.tail _ (.tail _ (.head _)))).get 1 rfl; clear r6 kr6 hle6 hb6 ht6 hs6 ho6; unfold tmV))
          | (go_at_call 157; ((refine (one_c _ tx t6 _ _ T6.out).mono ?_); rintro ex W7 ⟨a7, rfl, t7, b7⟩; obtain ⟨ao7, cc7, rfl⟩ := shape1 t7; rw [tmV_cmp]; have HP7 := Lib.hid (HP6.out.later b7); have T7 := Lib.hid (nw_made t7 (Nat.lt_of_lt_of_le hB HP5.out.kr.size) hz6 HP6.out.rd.own_lt); obtain ⟨x0, fx0⟩ := (HP7.out.get (.tail _ (.head _))).get 0 rfl; obtain ⟨x1, fx1⟩ := (HP7.out.get (.tail _ (.head _))).get 1 rfl; obtain ⟨x2, fx2⟩ := (HP7.out.get (.tail _ (.head _))).get 2 rfl; obtain ⟨x3, fx3⟩ := (HP7.out.get (.tail _ (.head _))).get 3 rfl; clear t7 b7))))
      all_goals
        go_wp2
        have hr := HP7.out.ret hB (.tail _ (.head _)) T7.out HP5.out.kr.size (HP5.out.lt (.tail _ (.head _))) (c := 3) (by have := S6.out; have := L6.out; simp only [Tm.size, Tm.sizes]; omega) (fun h0 => one_ok ht (O6.out h0)) pa
        dsimp only [put4, Tm.kind, Tm.num, Tm.name] at hr
        refine bodyPost_ret (v := .tuple #[tmV (.cmp tx [t6]) (.slice ao7 1 cc7), .int .i64 pa]) (by simp [results, Try.results158, go_sem, tmV_cmp, x0, x1, x2, x3]; try rfl) rfl ?_
        exact hr
end Go.Proofs.Ytmffobadnmkpbaa
namespace Go.Proofs.Ytmffobadnmkpbaa
open Go.RowKit

theorem b_or {b : Bool} {P : Prop} (h : b = true → P) : b = false ∨ (b = true ∧ Hid P) := by
  cases b
  · exact .inl rfl
  · exact .inr ⟨rfl, Lib.hid (h rfl)⟩
set_option maxRecDepth 100000 in
set_option maxHeartbeats 6400000 in
theorem operand_c {d : Int} (hd0 : 0 ≤ d) (hd : d ≤ 64) (hT : TermOk (d + 1)) {w : World} {B : Nat} {s : ByteArray} {lv : Value} {toks : List Tok} {k : Nat} {nv : Value} {ns : List ByteArray} {pl e : Int} (h : RdAt w B s lv toks k nv ns pl e) (hok : TksOk s toks) (most : Int) :
    Calls Try.prog 132 #[.pointer (some ⟨B, 0, none⟩), .int .i64 most, .int .i64 d] w (RetOp 1 B s lv toks k nv e w) := by
  have hB := h.lt
  have hll := hok.len
  have hkl := h.le
  have HNL := Lib.hid h.nle
  have HOK := Lib.hid hok
  have HT := Lib.hid hT
  have HO0 := Lib.hid ((OpW.begin h).alloc hB #[.int .i64 0, .int .i64 0, .string ⟨#[]⟩, .slice none 0 0] 24 w.heap.size rfl)
  have CN := Lib.hid (next_c HO0.out.rd hok)
  have hkt := tokAt_kind (s := s) (toks := toks) (k := k)
  have hxt := tokAt_text hok k
  obtain ⟨x, hx⟩ : ∃ x, x = tokAt s toks k := ⟨_, rfl⟩
  rw [← hx] at CN hkt hxt
  clear h hok hT hx
  obtain ⟨kd, tx, lo, hi⟩ := x
  dsimp only at hkt hxt
  by_cases h3 : kd = 3
  · have hk : k < toks.length := hkt (by omega)
    have hb3 : (kd == 3) = true := by simp [h3]
    clear hkt h3
    as_aux_lemma =>
      go_enter Try.func132, Try.ntmps132
      go_wp2_with (first
        | (go_at_call 104; ((with_reducible refine CN.out.mono ?_); rintro ex W1 ⟨rfl, b1⟩; have hW1 : B < W1.heap.size := (by have := b1.size; simp at this; omega); have HOL := Lib.hid (HO0.out.later b1); have HO1 := Lib.hid (HOL.out.alloc hB #[.int .i64 kd, .string tx, .int .i64 lo, .int .i64 hi] 116 W1.heap.size rfl); obtain ⟨c0, c1, c2, c3, c4, c5, f2, f3, f4, f5⟩ := HO1.out.rd.six; obtain ⟨y0, fy0⟩ := (HO1.out.get (.head _)).get 0 rfl; obtain ⟨y1, fy1⟩ := (HO1.out.get (.head _)).get 1 rfl; obtain ⟨y2, fy2⟩ := (HO1.out.get (.head _)).get 2 rfl; obtain ⟨y3, fy3⟩ := (HO1.out.get (.head _)).get 3 rfl; clear b1; have HS := Lib.hid ((HOL.out.step hk).alloc hB #[.int .i64 kd, .string tx, .int .i64 lo, .int .i64 hi] 116 W1.heap.size (by simp [World.setCell]))))
        | (go_at_call 152; ((refine (integer_c HS.out.rd ⟨kd, tx, lo, hi⟩ hxt false).mono ?_); rintro ex W2 ⟨k2, nv2, ns2, pl2, e2, t2, a2, rfl, r2, kr2, hle2, hb2, ht2, hs2, ho2⟩; obtain ⟨ao2, cc2, rfl, _⟩ := ht2.shape; have HO3 := Lib.hid (HS.out.call r2 kr2 hle2 hb2); have T2 := Lib.hid ht2; have S2 := Lib.hid hs2; have O2 := Lib.hid ho2; have L2 := Lib.hid hle2; obtain ⟨x0, fx0⟩ := (HO3.out.get (.tail _ (.head _))).get 0 rfl; obtain ⟨x1, fx1⟩ := (HO3.out.get (.tail _ (.head _))).get 1 rfl; obtain ⟨x2, fx2⟩ := (HO3.out.get (.tail _ (.head _))).get 2 rfl; obtain ⟨x3, fx3⟩ := (HO3.out.get (.tail _ (.head _))).get 3 rfl; clear r2 kr2 hle2 hb2 ht2 hs2 ho2; unfold tmV)))
      all_goals first
        | (have hr := HO3.out.ret hB (.tail _ (.head _)) T2.out HS.out.kr.size (HS.out.lt (.tail _ (.head _))) (c := 1) (by have := S2.out; have := L2.out; omega) O2.out 0
           dsimp only [put4] at hr
           refine bodyPost_ret (v := .tuple #[tmV t2 (.slice ao2 t2.args.length cc2), .int .i64 0]) (by simp [results, Try.results132, go_sem, tmV, x0, x1, x2, x3]; try rfl) rfl ?_
           exact hr)
  have hb3 : (kd == 3) = false := by simpa using h3
  by_cases h2 : kd = 2
  · have hk : k < toks.length := hkt (by omega)
    have hb2 : (kd == 2) = true := by simp [h2]
    clear hkt h2 h3
    as_aux_lemma =>
      go_enter Try.func132, Try.ntmps132
      go_wp2_with (first
        | (go_at_call 104; ((with_reducible refine CN.out.mono ?_); rintro ex W1 ⟨rfl, b1⟩; have hW1 : B < W1.heap.size := (by have := b1.size; simp at this; omega); have HOL := Lib.hid (HO0.out.later b1); have HO1 := Lib.hid (HOL.out.alloc hB #[.int .i64 kd, .string tx, .int .i64 lo, .int .i64 hi] 116 W1.heap.size rfl); obtain ⟨c0, c1, c2, c3, c4, c5, f2, f3, f4, f5⟩ := HO1.out.rd.six; obtain ⟨y0, fy0⟩ := (HO1.out.get (.head _)).get 0 rfl; obtain ⟨y1, fy1⟩ := (HO1.out.get (.head _)).get 1 rfl; obtain ⟨y2, fy2⟩ := (HO1.out.get (.head _)).get 2 rfl; obtain ⟨y3, fy3⟩ := (HO1.out.get (.head _)).get 3 rfl; clear b1; have HS := Lib.hid ((HOL.out.step hk).alloc hB #[.int .i64 kd, .string tx, .int .i64 lo, .int .i64 hi] 116 W1.heap.size (by simp [World.setCell]))))
        | (go_at_call 153; ((refine (variable_c HS.out.rd HOK.out (Nat.lt_succ_of_le HNL.out) tx hxt).mono ?_); rintro ex W2 ⟨k2, nv2, ns2, pl2, e2, t2, a2, rfl, r2, kr2, hle2, hb2, ht2, hs2, ho2⟩; obtain ⟨ao2, cc2, rfl, _⟩ := ht2.shape; have HO3 := Lib.hid (HS.out.call r2 kr2 hle2 hb2); have T2 := Lib.hid ht2; have S2 := Lib.hid hs2; have O2 := Lib.hid ho2; have L2 := Lib.hid hle2; obtain ⟨x0, fx0⟩ := (HO3.out.get (.tail _ (.head _))).get 0 rfl; obtain ⟨x1, fx1⟩ := (HO3.out.get (.tail _ (.head _))).get 1 rfl; obtain ⟨x2, fx2⟩ := (HO3.out.get (.tail _ (.head _))).get 2 rfl; obtain ⟨x3, fx3⟩ := (HO3.out.get (.tail _ (.head _))).get 3 rfl; clear r2 kr2 hle2 hb2 ht2 hs2 ho2; unfold tmV)))
      all_goals first
        | (have hr := HO3.out.ret hB (.tail _ (.head _)) T2.out HS.out.kr.size (HS.out.lt (.tail _ (.head _))) (c := 1) (by have := S2.out; have := L2.out; omega) O2.out 0
           dsimp only [put4] at hr
           refine bodyPost_ret (v := .tuple #[tmV t2 (.slice ao2 t2.args.length cc2), .int .i64 0]) (by simp [results, Try.results132, go_sem, tmV, x0, x1, x2, x3]; try rfl) rfl ?_
           exact hr)
  have hb2 : (kd == 2) = false := by simpa using h2
  by_cases h4 : kd = 4
  · have hk : k < toks.length := hkt (by omega)
    have hb4 : (kd == 4) = true := by simp [h4]
    clear hkt h2 h3 h4
    as_aux_lemma =>
      go_enter Try.func132, Try.ntmps132
      go_wp2_with (first
        | (go_at_call 104; ((with_reducible refine CN.out.mono ?_); rintro ex W1 ⟨rfl, b1⟩; have hW1 : B < W1.heap.size := (by have := b1.size; simp at this; omega); have HOL := Lib.hid (HO0.out.later b1); have HO1 := Lib.hid (HOL.out.alloc hB #[.int .i64 kd, .string tx, .int .i64 lo, .int .i64 hi] 116 W1.heap.size rfl); obtain ⟨c0, c1, c2, c3, c4, c5, f2, f3, f4, f5⟩ := HO1.out.rd.six; obtain ⟨y0, fy0⟩ := (HO1.out.get (.head _)).get 0 rfl; obtain ⟨y1, fy1⟩ := (HO1.out.get (.head _)).get 1 rfl; obtain ⟨y2, fy2⟩ := (HO1.out.get (.head _)).get 2 rfl; obtain ⟨y3, fy3⟩ := (HO1.out.get (.head _)).get 3 rfl; clear b1; have HS := Lib.hid ((HOL.out.step hk).alloc hB #[.int .i64 kd, .string tx, .int .i64 lo, .int .i64 hi] 116 W1.heap.size (by simp [World.setCell]))))
        | (go_at_call 103; ((with_reducible refine (HT.out.call HS.out.rd HOK.out 1200).mono ?_); rintro ex W3 ⟨k3, nv3, ns3, pl3, e3, t3, a3, rfl, r3, kr3, hle3, hb3, ht3, hs3, ho3⟩; obtain ⟨ao3, cc3, rfl, _⟩ := ht3.shape; have HO4 := Lib.hid ((HS.out.call r3 kr3 hle3 hb3).alloc hB #[.int .i64 t3.kind, .int .i64 t3.num, .string t3.name, .slice ao3 t3.args.length cc3] 24 W3.heap.size rfl); have T3 := Lib.hid (ht3.nwb ((Below.refl _ _).alloc (Nat.le_refl _) (.cells #[.int .i64 t3.kind, .int .i64 t3.num, .string t3.name, .slice ao3 t3.args.length cc3] 24))); have S3 := Lib.hid hs3; have O3 := Lib.hid ho3; have L3 := Lib.hid hle3; have HSz := Lib.hid (And.intro HS.out.kr.size (HS.out.lt (.tail _ (.head _)))); clear r3 kr3 hle3 hb3 ht3 hs3 ho3; unfold tmV))
        | (go_at_call 154; ((with_reducible refine (must_c HO4.out.rd HOK.out ⟨#[41]⟩).mono ?_); rintro ex W5 ⟨u5, k5, pl5, e5, rfl, r5, kr5, hle5, hb5⟩; have HO5 := Lib.hid (HO4.out.call r5 kr5 hle5 hb5); have T5 := Lib.hid (T3.out.nws kr5); have L5 := Lib.hid hle5; have O5 := Lib.hid (fun h0 => O3.out (Classical.byContradiction fun h2 => hb5 h2 h0)); obtain ⟨x0, fx0⟩ := (HO5.out.get (.tail _ (.tail _ (.head _)))).get 0 rfl; obtain ⟨x1, fx1⟩ := (HO5.out.get (.tail _ (.tail _ (.head _)))).get 1 rfl; obtain ⟨x2, fx2⟩ := (HO5.out.get (.tail _ (.tail _ (.head _)))).get 2 rfl; obtain ⟨x3, fx3⟩ := (HO5.out.get (.tail _ (.tail _ (.head _)))).get 3 rfl; obtain ⟨z0, fz0⟩ := (HO5.out.get (.head _)).get 0 rfl; obtain ⟨z1, fz1⟩ := (HO5.out.get (.head _)).get 1 rfl; obtain ⟨z2, fz2⟩ := (HO5.out.get (.head _)).get 2 rfl; obtain ⟨z3, fz3⟩ := (HO5.out.get (.head _)).get 3 rfl; clear r5 kr5 hle5 hb5)))
      all_goals first
        | (have hr := HO5.out.ret hB (.tail _ (.tail _ (.head _))) T5.out HSz.out.1 HSz.out.2 (c := 1) (by have := S3.out; have := L3.out; have := L5.out; omega) O5.out 0
           dsimp only [put4] at hr
           refine bodyPost_ret (v := .tuple #[tmV t3 (.slice ao3 t3.args.length cc3), .int .i64 0]) (by simp [results, Try.results132, go_sem, tmV, x0, x1, x2, x3]; try rfl) rfl ?_
           exact hr)
  have hb4 : (kd == 4) = false := by simpa using h4
  clear h2 h3 h4
  by_cases h1 : kd = 1
  · have hkd : k < toks.length := hkt (by omega)
    have hb1 : (kd == 1) = true := by simp [h1]
    clear hkt h1
    as_aux_lemma =>
      go_enter Try.func132, Try.ntmps132
      go_wp2_with (first
        | (go_at_call 104; ((with_reducible refine CN.out.mono ?_); rintro ex W1 ⟨rfl, b1⟩; have hW1 : B < W1.heap.size := (by have := b1.size; simp at this; omega); have HOL := Lib.hid (HO0.out.later b1); have HO1 := Lib.hid (HOL.out.alloc hB #[.int .i64 kd, .string tx, .int .i64 lo, .int .i64 hi] 116 W1.heap.size rfl); obtain ⟨c0, c1, c2, c3, c4, c5, f2, f3, f4, f5⟩ := HO1.out.rd.six; obtain ⟨y0, fy0⟩ := (HO1.out.get (.head _)).get 0 rfl; obtain ⟨y1, fy1⟩ := (HO1.out.get (.head _)).get 1 rfl; obtain ⟨y2, fy2⟩ := (HO1.out.get (.head _)).get 2 rfl; obtain ⟨y3, fy3⟩ := (HO1.out.get (.head _)).get 3 rfl; clear b1))
        | (go_at_call 133; ((with_reducible refine (mark_c HO1.out.rd HOK.out ⟨#[40]⟩).mono ?_); rintro ex Wm1 ⟨b, rfl, hb, bm⟩; have HM1 := Lib.hid (HO1.out.later bm); clear c0 c1 c2 c3 c4 c5 f2 f3 f4 f5; obtain ⟨c0, c1, c2, c3, c4, c5, f2, f3, f4, f5⟩ := HM1.out.rd.six; clear y0 y1 y2 y3 fy0 fy1 fy2 fy3; obtain ⟨y0, fy0⟩ := (HM1.out.get (.head _)).get 0 rfl; obtain ⟨y1, fy1⟩ := (HM1.out.get (.head _)).get 1 rfl; obtain ⟨y2, fy2⟩ := (HM1.out.get (.head _)).get 2 rfl; obtain ⟨y3, fy3⟩ := (HM1.out.get (.head _)).get 3 rfl; clear bm; rcases b_or hb with rfl | ⟨rfl, hk⟩; all_goals clear hb; all_goals try have HS := Lib.hid (HM1.out.step hk.out)))
        | (go_at_call 133; ((with_reducible refine (mark_c HM1.out.rd HOK.out ⟨#[91]⟩).mono ?_); rintro ex Wm2 ⟨b, rfl, hb, bm⟩; have HM2 := Lib.hid (HM1.out.later bm); clear c0 c1 c2 c3 c4 c5 f2 f3 f4 f5; obtain ⟨c0, c1, c2, c3, c4, c5, f2, f3, f4, f5⟩ := HM2.out.rd.six; clear y0 y1 y2 y3 fy0 fy1 fy2 fy3; obtain ⟨y0, fy0⟩ := (HM2.out.get (.head _)).get 0 rfl; obtain ⟨y1, fy1⟩ := (HM2.out.get (.head _)).get 1 rfl; obtain ⟨y2, fy2⟩ := (HM2.out.get (.head _)).get 2 rfl; obtain ⟨y3, fy3⟩ := (HM2.out.get (.head _)).get 3 rfl; clear bm; rcases b_or hb with rfl | ⟨rfl, hk⟩; all_goals clear hb; all_goals try have HS := Lib.hid (HM2.out.step hk.out)))
        | (go_at_call 133; ((with_reducible refine (mark_c HM2.out.rd HOK.out ⟨#[123]⟩).mono ?_); rintro ex Wm3 ⟨b, rfl, hb, bm⟩; have HM3 := Lib.hid (HM2.out.later bm); clear c0 c1 c2 c3 c4 c5 f2 f3 f4 f5; obtain ⟨c0, c1, c2, c3, c4, c5, f2, f3, f4, f5⟩ := HM3.out.rd.six; clear y0 y1 y2 y3 fy0 fy1 fy2 fy3; obtain ⟨y0, fy0⟩ := (HM3.out.get (.head _)).get 0 rfl; obtain ⟨y1, fy1⟩ := (HM3.out.get (.head _)).get 1 rfl; obtain ⟨y2, fy2⟩ := (HM3.out.get (.head _)).get 2 rfl; obtain ⟨y3, fy3⟩ := (HM3.out.get (.head _)).get 3 rfl; clear bm; rcases b_or hb with rfl | ⟨rfl, hk⟩; all_goals clear hb; all_goals try have HS := Lib.hid (HM3.out.step hk.out)))
        | (go_at_call 133; ((with_reducible refine (mark_c HS.out.rd HOK.out ⟨#[125]⟩).mono ?_); rintro ex Wm4 ⟨b, rfl, hb, bm⟩; have HM4 := Lib.hid (HS.out.later bm); clear c0 c1 c2 c3 c4 c5 f2 f3 f4 f5; obtain ⟨c0, c1, c2, c3, c4, c5, f2, f3, f4, f5⟩ := HM4.out.rd.six; clear y0 y1 y2 y3 fy0 fy1 fy2 fy3; obtain ⟨y0, fy0⟩ := (HM4.out.get (.head _)).get 0 rfl; obtain ⟨y1, fy1⟩ := (HM4.out.get (.head _)).get 1 rfl; obtain ⟨y2, fy2⟩ := (HM4.out.get (.head _)).get 2 rfl; obtain ⟨y3, fy3⟩ := (HM4.out.get (.head _)).get 3 rfl; clear bm; rcases b_or hb with rfl | ⟨rfl, hk⟩; all_goals clear hb; all_goals try have HS2 := Lib.hid (HM4.out.step hk.out)))
        | (go_at_call 103; ((with_reducible refine (HT.out.call HS.out.rd HOK.out 1200).mono ?_); rintro ex W3 ⟨k3, nv3, ns3, pl3, e3, t3, a3, rfl, r3, kr3, hle3, hb3, ht3, hs3, ho3⟩; obtain ⟨ao3, cc3, rfl, _⟩ := ht3.shape; have HO4 := Lib.hid ((HS.out.call r3 kr3 hle3 hb3).alloc hB #[.int .i64 t3.kind, .int .i64 t3.num, .string t3.name, .slice ao3 t3.args.length cc3] 24 W3.heap.size rfl); have T3 := Lib.hid (ht3.nwb ((Below.refl _ _).alloc (Nat.le_refl _) (.cells #[.int .i64 t3.kind, .int .i64 t3.num, .string t3.name, .slice ao3 t3.args.length cc3] 24))); have S3 := Lib.hid hs3; have O3 := Lib.hid ho3; have L3 := Lib.hid hle3; have K3 := Lib.hid kr3.size; have HSz := Lib.hid (And.intro HS.out.kr.size (HS.out.lt (.tail _ (.head _)))); clear r3 kr3 hle3 hb3 ht3 hs3 ho3; unfold tmV))
        | (go_at_call 103; ((with_reducible refine (HT.out.call HM4.out.rd HOK.out 1200).mono ?_); rintro ex W3 ⟨k3, nv3, ns3, pl3, e3, t3, a3, rfl, r3, kr3, hle3, hb3, ht3, hs3, ho3⟩; obtain ⟨ao3, cc3, rfl, _⟩ := ht3.shape; have HO4 := Lib.hid ((HM4.out.call r3 kr3 hle3 hb3).alloc hB #[.int .i64 t3.kind, .int .i64 t3.num, .string t3.name, .slice ao3 t3.args.length cc3] 24 W3.heap.size rfl); have T3 := Lib.hid (ht3.nwb ((Below.refl _ _).alloc (Nat.le_refl _) (.cells #[.int .i64 t3.kind, .int .i64 t3.num, .string t3.name, .slice ao3 t3.args.length cc3] 24))); have S3 := Lib.hid hs3; have O3 := Lib.hid ho3; have L3 := Lib.hid hle3; have K3 := Lib.hid kr3.size; have HSz := Lib.hid (And.intro HM4.out.kr.size (HM4.out.lt (.tail _ (.head _)))); clear r3 kr3 hle3 hb3 ht3 hs3 ho3; unfold tmV))
        | (go_at_call 154; ((with_reducible refine (must_c HO4.out.rd HOK.out ⟨#[41]⟩).mono ?_); rintro ex W5 ⟨u5, k5, pl5, e5, rfl, r5, kr5, hle5, hb5⟩; have HO5 := Lib.hid (HO4.out.call r5 kr5 hle5 hb5); have T5 := Lib.hid (T3.out.nws kr5); have L5 := Lib.hid hle5; have O5 := Lib.hid (fun h0 => O3.out (Classical.byContradiction fun h2 => hb5 h2 h0)); obtain ⟨x0, fx0⟩ := (HO5.out.get (.tail _ (.tail _ (.head _)))).get 0 rfl; obtain ⟨x1, fx1⟩ := (HO5.out.get (.tail _ (.tail _ (.head _)))).get 1 rfl; obtain ⟨x2, fx2⟩ := (HO5.out.get (.tail _ (.tail _ (.head _)))).get 2 rfl; obtain ⟨x3, fx3⟩ := (HO5.out.get (.tail _ (.tail _ (.head _)))).get 3 rfl; obtain ⟨z0, fz0⟩ := (HO5.out.get (.head _)).get 0 rfl; obtain ⟨z1, fz1⟩ := (HO5.out.get (.head _)).get 1 rfl; obtain ⟨z2, fz2⟩ := (HO5.out.get (.head _)).get 2 rfl; obtain ⟨z3, fz3⟩ := (HO5.out.get (.head _)).get 3 rfl; clear r5 kr5 hle5 hb5))
        | (go_at_call 154; ((with_reducible refine (must_c HO4.out.rd HOK.out ⟨#[125]⟩).mono ?_); rintro ex W5 ⟨u5, k5, pl5, e5, rfl, r5, kr5, hle5, hb5⟩; have HO5 := Lib.hid (HO4.out.call r5 kr5 hle5 hb5); have T5 := Lib.hid (T3.out.nws kr5); have L5 := Lib.hid hle5; have O5 := Lib.hid (fun h0 => O3.out (Classical.byContradiction fun h2 => hb5 h2 h0)); obtain ⟨x0, fx0⟩ := (HO5.out.get (.tail _ (.tail _ (.head _)))).get 0 rfl; obtain ⟨x1, fx1⟩ := (HO5.out.get (.tail _ (.tail _ (.head _)))).get 1 rfl; obtain ⟨x2, fx2⟩ := (HO5.out.get (.tail _ (.tail _ (.head _)))).get 2 rfl; obtain ⟨x3, fx3⟩ := (HO5.out.get (.tail _ (.tail _ (.head _)))).get 3 rfl; obtain ⟨z0, fz0⟩ := (HO5.out.get (.head _)).get 0 rfl; obtain ⟨z1, fz1⟩ := (HO5.out.get (.head _)).get 1 rfl; obtain ⟨z2, fz2⟩ := (HO5.out.get (.head _)).get 2 rfl; obtain ⟨z3, fz3⟩ := (HO5.out.get (.head _)).get 3 rfl; clear r5 kr5 hle5 hb5))
        | (go_at_call 155; ((refine (list_c hd0 hd HT.out HS.out.rd HOK.out).mono ?_); rintro ex W2 ⟨k2, nv2, ns2, pl2, e2, t2, a2, rfl, r2, kr2, hle2, hb2, ht2, hs2, ho2⟩; obtain ⟨ao2, cc2, rfl, _⟩ := ht2.shape; have HO3 := Lib.hid (HS.out.call r2 kr2 hle2 hb2); have T2 := Lib.hid ht2; have S2 := Lib.hid hs2; have O2 := Lib.hid ho2; have L2 := Lib.hid hle2; obtain ⟨x0, fx0⟩ := (HO3.out.get (.tail _ (.head _))).get 0 rfl; obtain ⟨x1, fx1⟩ := (HO3.out.get (.tail _ (.head _))).get 1 rfl; obtain ⟨x2, fx2⟩ := (HO3.out.get (.tail _ (.head _))).get 2 rfl; obtain ⟨x3, fx3⟩ := (HO3.out.get (.tail _ (.head _))).get 3 rfl; clear r2 kr2 hle2 hb2 ht2 hs2 ho2; unfold tmV))
        | (go_at_call 157; ((refine (one_c _ ⟨#[123, 125]⟩ t3 _ _ T5.out).mono ?_); rintro ex W7 ⟨a7, rfl, t7, b7⟩; obtain ⟨ao7, cc7, rfl⟩ := shape1 t7; rw [tmV_cmp]; have HO7 := Lib.hid (HO5.out.later b7); have T7 := Lib.hid (nw_made t7 (Nat.lt_of_lt_of_le hB HSz.out.1) (Nat.le_of_lt (Nat.lt_of_le_of_lt K3.out (HO5.out.lt (.head _)))) HO5.out.rd.own_lt); obtain ⟨x0, fx0⟩ := (HO7.out.get (.tail _ (.tail _ (.head _)))).get 0 rfl; obtain ⟨x1, fx1⟩ := (HO7.out.get (.tail _ (.tail _ (.head _)))).get 1 rfl; obtain ⟨x2, fx2⟩ := (HO7.out.get (.tail _ (.tail _ (.head _)))).get 2 rfl; obtain ⟨x3, fx3⟩ := (HO7.out.get (.tail _ (.tail _ (.head _)))).get 3 rfl; clear t7 b7))
        | (go_at_call 156; ((refine (atom_c2 _ _).mono ?_); rintro ex W6 ⟨rfl, b6⟩; have HO6 := Lib.hid (HS2.out.later b6); obtain ⟨x0, fx0⟩ := (HO6.out.get (.tail _ (.head _))).get 0 rfl; obtain ⟨x1, fx1⟩ := (HO6.out.get (.tail _ (.head _))).get 1 rfl; obtain ⟨x2, fx2⟩ := (HO6.out.get (.tail _ (.head _))).get 2 rfl; obtain ⟨x3, fx3⟩ := (HO6.out.get (.tail _ (.head _))).get 3 rfl; clear b6))
        | (go_at_call 105; ((with_reducible refine (wrong_c HM3.out.rd HOK.out).mono ?_); rintro ex W8 ⟨u8, pl8, e8, rfl, r8, kr8, he8⟩; have HO8 := Lib.hid (HM3.out.call r8 kr8 (Nat.le_refl _) (fun _ => he8)); have E8 := Lib.hid he8; obtain ⟨x0, fx0⟩ := (HO8.out.get (.tail _ (.head _))).get 0 rfl; obtain ⟨x1, fx1⟩ := (HO8.out.get (.tail _ (.head _))).get 1 rfl; obtain ⟨x2, fx2⟩ := (HO8.out.get (.tail _ (.head _))).get 2 rfl; obtain ⟨x3, fx3⟩ := (HO8.out.get (.tail _ (.head _))).get 3 rfl; clear r8 kr8 he8))
        | (go_at_call 158; (have HSN := Lib.hid (HM3.out.step hkd); (refine (named_c hd0 hd HT.out HSN.out.rd HOK.out ⟨kd, tx, lo, hi⟩ hxt most).mono ?_); rintro ex W2 ⟨k2, nv2, ns2, pl2, e2, t2, a2, pr2, rfl, r2, kr2, hle2, hb2, ht2, hs2, ho2⟩; obtain ⟨ao2, cc2, rfl, _⟩ := ht2.shape; have HON := Lib.hid (HSN.out.call r2 kr2 hle2 hb2); have T2 := Lib.hid ht2; have S2 := Lib.hid hs2; have O2 := Lib.hid ho2; have L2 := Lib.hid hle2; obtain ⟨x0, fx0⟩ := (HON.out.get (.tail _ (.head _))).get 0 rfl; obtain ⟨x1, fx1⟩ := (HON.out.get (.tail _ (.head _))).get 1 rfl; obtain ⟨x2, fx2⟩ := (HON.out.get (.tail _ (.head _))).get 2 rfl; obtain ⟨x3, fx3⟩ := (HON.out.get (.tail _ (.head _))).get 3 rfl; clear r2 kr2 hle2 hb2 ht2 hs2 ho2; unfold tmV)))
      all_goals first
        | (have hr := HON.out.ret hB (.tail _ (.head _)) T2.out HSN.out.kr.size (HSN.out.lt (.tail _ (.head _))) (c := 1) (by have := S2.out; have := L2.out; omega) O2.out pr2
           dsimp only [put4, Tm.kind, Tm.num, Tm.name] at hr
           refine bodyPost_ret (v := .tuple #[tmV t2 (.slice ao2 t2.args.length cc2), .int .i64 pr2]) (by simp [results, Try.results132, go_sem, tmV, Tm.kind, Tm.num, Tm.name, x0, x1, x2, x3]; try rfl) rfl ?_
           exact hr)
        | (have hr := HO8.out.ret hB (.tail _ (.head _)) (nw_leaf (B := B) (nv := nv) (w1 := W8) (t := .nil) rfl) HO8.out.kr.size (HO8.out.lt (.tail _ (.head _))) (c := 1) (by simp only [Tm.size]; omega) (fun h0 => absurd h0 E8.out) 0
           dsimp only [put4, Tm.kind, Tm.num, Tm.name] at hr
           refine bodyPost_ret (v := .tuple #[tmV .nil (.slice none 0 0), .int .i64 0]) (by simp [results, Try.results132, go_sem, tmV, Tm.kind, Tm.num, Tm.name, x0, x1, x2, x3]; try rfl) rfl ?_
           exact hr)
        | (have hr := HO6.out.ret hB (.tail _ (.head _)) (nw_leaf (B := B) (nv := nv) (w1 := W6) (t := .atom ⟨#[123, 125]⟩) rfl) HO6.out.kr.size (HO6.out.lt (.tail _ (.head _))) (c := 1) (by simp only [Tm.size]; omega) (fun _ => .atom (by decide)) 0
           dsimp only [put4, Tm.kind, Tm.num, Tm.name] at hr
           refine bodyPost_ret (v := .tuple #[tmV (.atom ⟨#[123, 125]⟩) (.slice none 0 0), .int .i64 0]) (by simp [results, Try.results132, go_sem, tmV, Tm.kind, Tm.num, Tm.name, x0, x1, x2, x3]; try rfl) rfl ?_
           exact hr)
        | (have hr := HO7.out.ret hB (.tail _ (.tail _ (.head _))) T7.out HSz.out.1 HSz.out.2 (c := 1) (by have := S3.out; have := L3.out; have := L5.out; simp only [Tm.size, Tm.sizes]; omega) (fun h0 => one_ok (by decide) (O5.out h0)) 0
           dsimp only [put4, Tm.kind, Tm.num, Tm.name] at hr
           refine bodyPost_ret (v := .tuple #[tmV (.cmp ⟨#[123, 125]⟩ [t3]) (.slice ao7 1 cc7), .int .i64 0]) (by simp [results, Try.results132, go_sem, tmV, Tm.kind, Tm.num, Tm.name, x0, x1, x2, x3]; try rfl) rfl ?_
           exact hr)
        | (have hr := HO5.out.ret hB (.tail _ (.tail _ (.head _))) T5.out HSz.out.1 HSz.out.2 (c := 1) (by have := S3.out; have := L3.out; have := L5.out; omega) O5.out 0
           dsimp only [put4] at hr
           refine bodyPost_ret (v := .tuple #[tmV t3 (.slice ao3 t3.args.length cc3), .int .i64 0]) (by simp [results, Try.results132, go_sem, tmV, x0, x1, x2, x3]; try rfl) rfl ?_
           exact hr)
        | (have hr := HO3.out.ret hB (.tail _ (.head _)) T2.out HS.out.kr.size (HS.out.lt (.tail _ (.head _))) (c := 1) (by have := S2.out; have := L2.out; omega) O2.out 0
           dsimp only [put4] at hr
           refine bodyPost_ret (v := .tuple #[tmV t2 (.slice ao2 t2.args.length cc2), .int .i64 0]) (by simp [results, Try.results132, go_sem, tmV, x0, x1, x2, x3]; try rfl) rfl ?_
           exact hr)
  have hb1 : (kd == 1) = false := by simpa using h1
  clear hkt h1
  as_aux_lemma =>
    go_enter Try.func132, Try.ntmps132
    go_wp2_with (first
      | (go_at_call 104; ((with_reducible refine CN.out.mono ?_); rintro ex W1 ⟨rfl, b1⟩; have hW1 : B < W1.heap.size := (by have := b1.size; simp at this; omega); have HOL := Lib.hid (HO0.out.later b1); have HO1 := Lib.hid (HOL.out.alloc hB #[.int .i64 kd, .string tx, .int .i64 lo, .int .i64 hi] 116 W1.heap.size rfl); obtain ⟨c0, c1, c2, c3, c4, c5, f2, f3, f4, f5⟩ := HO1.out.rd.six; obtain ⟨y0, fy0⟩ := (HO1.out.get (.head _)).get 0 rfl; obtain ⟨y1, fy1⟩ := (HO1.out.get (.head _)).get 1 rfl; obtain ⟨y2, fy2⟩ := (HO1.out.get (.head _)).get 2 rfl; obtain ⟨y3, fy3⟩ := (HO1.out.get (.head _)).get 3 rfl; clear b1))
      | (go_at_call 133; ((with_reducible refine (mark_c HO1.out.rd HOK.out ⟨#[40]⟩).mono ?_); rintro ex Wm1 ⟨b, rfl, hb, bm⟩; have HM1 := Lib.hid (HO1.out.later bm); clear c0 c1 c2 c3 c4 c5 f2 f3 f4 f5; obtain ⟨c0, c1, c2, c3, c4, c5, f2, f3, f4, f5⟩ := HM1.out.rd.six; clear y0 y1 y2 y3 fy0 fy1 fy2 fy3; obtain ⟨y0, fy0⟩ := (HM1.out.get (.head _)).get 0 rfl; obtain ⟨y1, fy1⟩ := (HM1.out.get (.head _)).get 1 rfl; obtain ⟨y2, fy2⟩ := (HM1.out.get (.head _)).get 2 rfl; obtain ⟨y3, fy3⟩ := (HM1.out.get (.head _)).get 3 rfl; clear bm; rcases b_or hb with rfl | ⟨rfl, hk⟩; all_goals clear hb; all_goals try have HS := Lib.hid (HM1.out.step hk.out)))
      | (go_at_call 133; ((with_reducible refine (mark_c HM1.out.rd HOK.out ⟨#[91]⟩).mono ?_); rintro ex Wm2 ⟨b, rfl, hb, bm⟩; have HM2 := Lib.hid (HM1.out.later bm); clear c0 c1 c2 c3 c4 c5 f2 f3 f4 f5; obtain ⟨c0, c1, c2, c3, c4, c5, f2, f3, f4, f5⟩ := HM2.out.rd.six; clear y0 y1 y2 y3 fy0 fy1 fy2 fy3; obtain ⟨y0, fy0⟩ := (HM2.out.get (.head _)).get 0 rfl; obtain ⟨y1, fy1⟩ := (HM2.out.get (.head _)).get 1 rfl; obtain ⟨y2, fy2⟩ := (HM2.out.get (.head _)).get 2 rfl; obtain ⟨y3, fy3⟩ := (HM2.out.get (.head _)).get 3 rfl; clear bm; rcases b_or hb with rfl | ⟨rfl, hk⟩; all_goals clear hb; all_goals try have HS := Lib.hid (HM2.out.step hk.out)))
      | (go_at_call 133; ((with_reducible refine (mark_c HM2.out.rd HOK.out ⟨#[123]⟩).mono ?_); rintro ex Wm3 ⟨b, rfl, hb, bm⟩; have HM3 := Lib.hid (HM2.out.later bm); clear c0 c1 c2 c3 c4 c5 f2 f3 f4 f5; obtain ⟨c0, c1, c2, c3, c4, c5, f2, f3, f4, f5⟩ := HM3.out.rd.six; clear y0 y1 y2 y3 fy0 fy1 fy2 fy3; obtain ⟨y0, fy0⟩ := (HM3.out.get (.head _)).get 0 rfl; obtain ⟨y1, fy1⟩ := (HM3.out.get (.head _)).get 1 rfl; obtain ⟨y2, fy2⟩ := (HM3.out.get (.head _)).get 2 rfl; obtain ⟨y3, fy3⟩ := (HM3.out.get (.head _)).get 3 rfl; clear bm; rcases b_or hb with rfl | ⟨rfl, hk⟩; all_goals clear hb; all_goals try have HS := Lib.hid (HM3.out.step hk.out)))
      | (go_at_call 133; ((with_reducible refine (mark_c HS.out.rd HOK.out ⟨#[125]⟩).mono ?_); rintro ex Wm4 ⟨b, rfl, hb, bm⟩; have HM4 := Lib.hid (HS.out.later bm); clear c0 c1 c2 c3 c4 c5 f2 f3 f4 f5; obtain ⟨c0, c1, c2, c3, c4, c5, f2, f3, f4, f5⟩ := HM4.out.rd.six; clear y0 y1 y2 y3 fy0 fy1 fy2 fy3; obtain ⟨y0, fy0⟩ := (HM4.out.get (.head _)).get 0 rfl; obtain ⟨y1, fy1⟩ := (HM4.out.get (.head _)).get 1 rfl; obtain ⟨y2, fy2⟩ := (HM4.out.get (.head _)).get 2 rfl; obtain ⟨y3, fy3⟩ := (HM4.out.get (.head _)).get 3 rfl; clear bm; rcases b_or hb with rfl | ⟨rfl, hk⟩; all_goals clear hb; all_goals try have HS2 := Lib.hid (HM4.out.step hk.out)))
      | (go_at_call 103; ((with_reducible refine (HT.out.call HS.out.rd HOK.out 1200).mono ?_); rintro ex W3 ⟨k3, nv3, ns3, pl3, e3, t3, a3, rfl, r3, kr3, hle3, hb3, ht3, hs3, ho3⟩; obtain ⟨ao3, cc3, rfl, _⟩ := ht3.shape; have HO4 := Lib.hid ((HS.out.call r3 kr3 hle3 hb3).alloc hB #[.int .i64 t3.kind, .int .i64 t3.num, .string t3.name, .slice ao3 t3.args.length cc3] 24 W3.heap.size rfl); have T3 := Lib.hid (ht3.nwb ((Below.refl _ _).alloc (Nat.le_refl _) (.cells #[.int .i64 t3.kind, .int .i64 t3.num, .string t3.name, .slice ao3 t3.args.length cc3] 24))); have S3 := Lib.hid hs3; have O3 := Lib.hid ho3; have L3 := Lib.hid hle3; have K3 := Lib.hid kr3.size; have HSz := Lib.hid (And.intro HS.out.kr.size (HS.out.lt (.tail _ (.head _)))); clear r3 kr3 hle3 hb3 ht3 hs3 ho3; unfold tmV))
      | (go_at_call 103; ((with_reducible refine (HT.out.call HM4.out.rd HOK.out 1200).mono ?_); rintro ex W3 ⟨k3, nv3, ns3, pl3, e3, t3, a3, rfl, r3, kr3, hle3, hb3, ht3, hs3, ho3⟩; obtain ⟨ao3, cc3, rfl, _⟩ := ht3.shape; have HO4 := Lib.hid ((HM4.out.call r3 kr3 hle3 hb3).alloc hB #[.int .i64 t3.kind, .int .i64 t3.num, .string t3.name, .slice ao3 t3.args.length cc3] 24 W3.heap.size rfl); have T3 := Lib.hid (ht3.nwb ((Below.refl _ _).alloc (Nat.le_refl _) (.cells #[.int .i64 t3.kind, .int .i64 t3.num, .string t3.name, .slice ao3 t3.args.length cc3] 24))); have S3 := Lib.hid hs3; have O3 := Lib.hid ho3; have L3 := Lib.hid hle3; have K3 := Lib.hid kr3.size; have HSz := Lib.hid (And.intro HM4.out.kr.size (HM4.out.lt (.tail _ (.head _)))); clear r3 kr3 hle3 hb3 ht3 hs3 ho3; unfold tmV))
      | (go_at_call 154; ((with_reducible refine (must_c HO4.out.rd HOK.out ⟨#[41]⟩).mono ?_); rintro ex W5 ⟨u5, k5, pl5, e5, rfl, r5, kr5, hle5, hb5⟩; have HO5 := Lib.hid (HO4.out.call r5 kr5 hle5 hb5); have T5 := Lib.hid (T3.out.nws kr5); have L5 := Lib.hid hle5; have O5 := Lib.hid (fun h0 => O3.out (Classical.byContradiction fun h2 => hb5 h2 h0)); obtain ⟨x0, fx0⟩ := (HO5.out.get (.tail _ (.tail _ (.head _)))).get 0 rfl; obtain ⟨x1, fx1⟩ := (HO5.out.get (.tail _ (.tail _ (.head _)))).get 1 rfl; obtain ⟨x2, fx2⟩ := (HO5.out.get (.tail _ (.tail _ (.head _)))).get 2 rfl; obtain ⟨x3, fx3⟩ := (HO5.out.get (.tail _ (.tail _ (.head _)))).get 3 rfl; obtain ⟨z0, fz0⟩ := (HO5.out.get (.head _)).get 0 rfl; obtain ⟨z1, fz1⟩ := (HO5.out.get (.head _)).get 1 rfl; obtain ⟨z2, fz2⟩ := (HO5.out.get (.head _)).get 2 rfl; obtain ⟨z3, fz3⟩ := (HO5.out.get (.head _)).get 3 rfl; clear r5 kr5 hle5 hb5))
      | (go_at_call 154; ((with_reducible refine (must_c HO4.out.rd HOK.out ⟨#[125]⟩).mono ?_); rintro ex W5 ⟨u5, k5, pl5, e5, rfl, r5, kr5, hle5, hb5⟩; have HO5 := Lib.hid (HO4.out.call r5 kr5 hle5 hb5); have T5 := Lib.hid (T3.out.nws kr5); have L5 := Lib.hid hle5; have O5 := Lib.hid (fun h0 => O3.out (Classical.byContradiction fun h2 => hb5 h2 h0)); obtain ⟨x0, fx0⟩ := (HO5.out.get (.tail _ (.tail _ (.head _)))).get 0 rfl; obtain ⟨x1, fx1⟩ := (HO5.out.get (.tail _ (.tail _ (.head _)))).get 1 rfl; obtain ⟨x2, fx2⟩ := (HO5.out.get (.tail _ (.tail _ (.head _)))).get 2 rfl; obtain ⟨x3, fx3⟩ := (HO5.out.get (.tail _ (.tail _ (.head _)))).get 3 rfl; obtain ⟨z0, fz0⟩ := (HO5.out.get (.head _)).get 0 rfl; obtain ⟨z1, fz1⟩ := (HO5.out.get (.head _)).get 1 rfl; obtain ⟨z2, fz2⟩ := (HO5.out.get (.head _)).get 2 rfl; obtain ⟨z3, fz3⟩ := (HO5.out.get (.head _)).get 3 rfl; clear r5 kr5 hle5 hb5))
      | (go_at_call 155; ((refine (list_c hd0 hd HT.out HS.out.rd HOK.out).mono ?_); rintro ex W2 ⟨k2, nv2, ns2, pl2, e2, t2, a2, rfl, r2, kr2, hle2, hb2, ht2, hs2, ho2⟩; obtain ⟨ao2, cc2, rfl, _⟩ := ht2.shape; have HO3 := Lib.hid (HS.out.call r2 kr2 hle2 hb2); have T2 := Lib.hid ht2; have S2 := Lib.hid hs2; have O2 := Lib.hid ho2; have L2 := Lib.hid hle2; obtain ⟨x0, fx0⟩ := (HO3.out.get (.tail _ (.head _))).get 0 rfl; obtain ⟨x1, fx1⟩ := (HO3.out.get (.tail _ (.head _))).get 1 rfl; obtain ⟨x2, fx2⟩ := (HO3.out.get (.tail _ (.head _))).get 2 rfl; obtain ⟨x3, fx3⟩ := (HO3.out.get (.tail _ (.head _))).get 3 rfl; clear r2 kr2 hle2 hb2 ht2 hs2 ho2; unfold tmV))
      | (go_at_call 157; ((refine (one_c _ ⟨#[123, 125]⟩ t3 _ _ T5.out).mono ?_); rintro ex W7 ⟨a7, rfl, t7, b7⟩; obtain ⟨ao7, cc7, rfl⟩ := shape1 t7; rw [tmV_cmp]; have HO7 := Lib.hid (HO5.out.later b7); have T7 := Lib.hid (nw_made t7 (Nat.lt_of_lt_of_le hB HSz.out.1) (Nat.le_of_lt (Nat.lt_of_le_of_lt K3.out (HO5.out.lt (.head _)))) HO5.out.rd.own_lt); obtain ⟨x0, fx0⟩ := (HO7.out.get (.tail _ (.tail _ (.head _)))).get 0 rfl; obtain ⟨x1, fx1⟩ := (HO7.out.get (.tail _ (.tail _ (.head _)))).get 1 rfl; obtain ⟨x2, fx2⟩ := (HO7.out.get (.tail _ (.tail _ (.head _)))).get 2 rfl; obtain ⟨x3, fx3⟩ := (HO7.out.get (.tail _ (.tail _ (.head _)))).get 3 rfl; clear t7 b7))
      | (go_at_call 156; ((refine (atom_c2 _ _).mono ?_); rintro ex W6 ⟨rfl, b6⟩; have HO6 := Lib.hid (HS2.out.later b6); obtain ⟨x0, fx0⟩ := (HO6.out.get (.tail _ (.head _))).get 0 rfl; obtain ⟨x1, fx1⟩ := (HO6.out.get (.tail _ (.head _))).get 1 rfl; obtain ⟨x2, fx2⟩ := (HO6.out.get (.tail _ (.head _))).get 2 rfl; obtain ⟨x3, fx3⟩ := (HO6.out.get (.tail _ (.head _))).get 3 rfl; clear b6))
      | (go_at_call 105; ((with_reducible refine (wrong_c HM3.out.rd HOK.out).mono ?_); rintro ex W8 ⟨u8, pl8, e8, rfl, r8, kr8, he8⟩; have HO8 := Lib.hid (HM3.out.call r8 kr8 (Nat.le_refl _) (fun _ => he8)); have E8 := Lib.hid he8; obtain ⟨x0, fx0⟩ := (HO8.out.get (.tail _ (.head _))).get 0 rfl; obtain ⟨x1, fx1⟩ := (HO8.out.get (.tail _ (.head _))).get 1 rfl; obtain ⟨x2, fx2⟩ := (HO8.out.get (.tail _ (.head _))).get 2 rfl; obtain ⟨x3, fx3⟩ := (HO8.out.get (.tail _ (.head _))).get 3 rfl; clear r8 kr8 he8))
      | (go_at_call 158; (have HSN := Lib.hid (HM3.out.step hkd); (refine (named_c hd0 hd HT.out HSN.out.rd HOK.out ⟨kd, tx, lo, hi⟩ hxt most).mono ?_); rintro ex W2 ⟨k2, nv2, ns2, pl2, e2, t2, a2, pr2, rfl, r2, kr2, hle2, hb2, ht2, hs2, ho2⟩; obtain ⟨ao2, cc2, rfl, _⟩ := ht2.shape; have HON := Lib.hid (HSN.out.call r2 kr2 hle2 hb2); have T2 := Lib.hid ht2; have S2 := Lib.hid hs2; have O2 := Lib.hid ho2; have L2 := Lib.hid hle2; obtain ⟨x0, fx0⟩ := (HON.out.get (.tail _ (.head _))).get 0 rfl; obtain ⟨x1, fx1⟩ := (HON.out.get (.tail _ (.head _))).get 1 rfl; obtain ⟨x2, fx2⟩ := (HON.out.get (.tail _ (.head _))).get 2 rfl; obtain ⟨x3, fx3⟩ := (HON.out.get (.tail _ (.head _))).get 3 rfl; clear r2 kr2 hle2 hb2 ht2 hs2 ho2; unfold tmV)))
    all_goals first
      | (have hr := HON.out.ret hB (.tail _ (.head _)) T2.out HSN.out.kr.size (HSN.out.lt (.tail _ (.head _))) (c := 1) (by have := S2.out; have := L2.out; omega) O2.out pr2
         dsimp only [put4, Tm.kind, Tm.num, Tm.name] at hr
         refine bodyPost_ret (v := .tuple #[tmV t2 (.slice ao2 t2.args.length cc2), .int .i64 pr2]) (by simp [results, Try.results132, go_sem, tmV, Tm.kind, Tm.num, Tm.name, x0, x1, x2, x3]; try rfl) rfl ?_
         exact hr)
      | (have hr := HO8.out.ret hB (.tail _ (.head _)) (nw_leaf (B := B) (nv := nv) (w1 := W8) (t := .nil) rfl) HO8.out.kr.size (HO8.out.lt (.tail _ (.head _))) (c := 1) (by simp only [Tm.size]; omega) (fun h0 => absurd h0 E8.out) 0
         dsimp only [put4, Tm.kind, Tm.num, Tm.name] at hr
         refine bodyPost_ret (v := .tuple #[tmV .nil (.slice none 0 0), .int .i64 0]) (by simp [results, Try.results132, go_sem, tmV, Tm.kind, Tm.num, Tm.name, x0, x1, x2, x3]; try rfl) rfl ?_
         exact hr)
      | (have hr := HO6.out.ret hB (.tail _ (.head _)) (nw_leaf (B := B) (nv := nv) (w1 := W6) (t := .atom ⟨#[123, 125]⟩) rfl) HO6.out.kr.size (HO6.out.lt (.tail _ (.head _))) (c := 1) (by simp only [Tm.size]; omega) (fun _ => .atom (by decide)) 0
         dsimp only [put4, Tm.kind, Tm.num, Tm.name] at hr
         refine bodyPost_ret (v := .tuple #[tmV (.atom ⟨#[123, 125]⟩) (.slice none 0 0), .int .i64 0]) (by simp [results, Try.results132, go_sem, tmV, Tm.kind, Tm.num, Tm.name, x0, x1, x2, x3]; try rfl) rfl ?_
         exact hr)
      | (have hr := HO7.out.ret hB (.tail _ (.tail _ (.head _))) T7.out HSz.out.1 HSz.out.2 (c := 1) (by have := S3.out; have := L3.out; have := L5.out; simp only [Tm.size, Tm.sizes]; omega) (fun h0 => one_ok (by decide) (O5.out h0)) 0
         dsimp only [put4, Tm.kind, Tm.num, Tm.name] at hr
         refine bodyPost_ret (v := .tuple #[tmV (.cmp ⟨#[123, 125]⟩ [t3]) (.slice ao7 1 cc7), .int .i64 0]) (by simp [results, Try.results132, go_sem, tmV, Tm.kind, Tm.num, Tm.name, x0, x1, x2, x3]; try rfl) rfl ?_
         exact hr)
      | (have hr := HO5.out.ret hB (.tail _ (.tail _ (.head _))) T5.out HSz.out.1 HSz.out.2 (c := 1) (by have := S3.out; have := L3.out; have := L5.out; omega) O5.out 0
         dsimp only [put4] at hr
         refine bodyPost_ret (v := .tuple #[tmV t3 (.slice ao3 t3.args.length cc3), .int .i64 0]) (by simp [results, Try.results132, go_sem, tmV, x0, x1, x2, x3]; try rfl) rfl ?_
         exact hr)
      | (have hr := HO3.out.ret hB (.tail _ (.head _)) T2.out HS.out.kr.size (HS.out.lt (.tail _ (.head _))) (c := 1) (by have := S2.out; have := L2.out; omega) O2.out 0
         dsimp only [put4] at hr
         refine bodyPost_ret (v := .tuple #[tmV t2 (.slice ao2 t2.args.length cc2), .int .i64 0]) (by simp [results, Try.results132, go_sem, tmV, x0, x1, x2, x3]; try rfl) rfl ?_
         exact hr)
end Go.Proofs.Ytmffobadnmkpbaa
