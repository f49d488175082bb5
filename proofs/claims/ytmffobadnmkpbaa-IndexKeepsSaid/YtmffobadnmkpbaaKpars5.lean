/-
  A TERM that grows by operators: what holds at its loop's head.
  coneyref05's term, walked over the contracts of operand and of itself one deeper.
  coneyref05's term, walked; its contract at all depths.
  SENTENCES: a list of them in memory, and what holds while they are read.
  coneyref03: what a byte is, walked.
  coneyref03.between and run, walked.
-/
import Derived.Test.YtmffobadnmkpbaaKpars3
import Derived.Test.YtmffobadnmkpbaaKpars4
import Derived.Test.YtmffobadnmkpbaaRows
import Derived.Test.YtmffobadnmkpbaaKlib1
import Derived.WalkKit
import Derived.WalkSpells
import Derived.WalkLawsBesides
import Derived.Lib.Hide
import Derived.Deep.LoopGhost
namespace Go.Proofs.Ytmffobadnmkpbaa
open Go.RowKit

def Kx (B : Nat) (nv : Value) (wr : World) (R : Nat) (cs : List Value) : Prop := Gd B nv wr R ∧ BoxL wr R cs
theorem Kx.kr {B R : Nat} {nv nv' : Value} {wr W : World} {cs : List Value} (h : Kx B nv wr R cs) (hk : KR B nv wr nv' W) : Kx B nv' W R cs := ⟨(hk.good h.1).1, h.2.block (hk.good h.1).2⟩
theorem Kx.later {B R : Nat} {nv : Value} {wr W : World} {cs : List Value} (h : Kx B nv wr R cs) (hb : Below wr.heap.size wr W) : Kx B nv W R cs := h.kr (KR.of_below hb)
theorem Kx.new {B : Nat} {nv : Value} {wr : World} (hB : B < wr.heap.size) (hv : ∀ g, nv.ownBlock = some g → g < wr.heap.size) (cs : Array Value) (T : TypeId) : Kx B nv (wr.alloc (.cells cs T)) wr.heap.size cs.toList :=
  ⟨⟨by simp, by omega, fun he => by have := hv _ he; omega⟩, BoxL.mk' wr cs T⟩
section
variable {B : Nat} {s : ByteArray} {lv : Value} {toks : List Tok} {k0 : Nat} {nv0 : Value} {e0 : Int} {w : World} {R0 R1 : Nat} {v : Value} {l : List Tm} {wr : World} {k : Nat} {nv : Value} {ns : List ByteArray} {pl e : Int} {rest : Tm} {a : Value}
theorem LsW.start2 (h : OpW B s lv toks k0 nv0 e0 w [(R0, tmC (.nil, .slice none 0 0))] wr k nv ns pl e) (hB : B < w.heap.size) {w1 : World} {t : Tm} {c : Value} (ht : TmAt (Nw B nv w1 wr) wr t c) (_hw : w.heap.size ≤ w1.heap.size) (hR : R0 < w1.heap.size) (hok : e = 0 → t.ok) (T : TypeId) :
    LsW B s lv toks k0 nv0 e0 w R0 wr.heap.size (.slice none 0 0) [] (wr.alloc (.cells #[.int .i64 t.kind, .int .i64 t.num, .string t.name, c] T)) k nv ns pl e t c := by
  obtain ⟨h1, h2, h3⟩ := h.box _ (.head _)
  dsimp only at h1 h2 h3
  have hb : Below wr.heap.size wr (wr.alloc (.cells #[.int .i64 t.kind, .int .i64 t.num, .string t.name, c] T)) := (Below.refl _ _).alloc (Nat.le_refl _) _
  have hk : KR B nv wr nv (wr.alloc (.cells #[.int .i64 t.kind, .int .i64 t.num, .string t.name, c] T)) := KR.of_below hb
  have hs := h.kr.size
  have hR0 := h2.1
  refine ⟨h.rd.later hb, h.kr.trans hk, h1, hs, by omega, (hk.good h2).1, ⟨by simp, by omega, fun he => by have := h.rd.own_lt _ he; omega⟩, h3.block (hk.good h2).2, BoxL.mk' wr #[.int .i64 t.kind, .int .i64 t.num, .string t.name, c] T, ⟨none, 0, rfl, Nat.le_refl _, by simp [maxLen], fun _ => rfl, fun h => by simp at h⟩, ?_, h.le, h.bad, (fun _ t ht => (by cases ht)), hok⟩
  exact ht.mono fun b hbl hp => ⟨⟨⟨by have := hp.1; omega, (hk.good hp.2).1⟩, by have := hp.1; omega, by omega⟩, (hk.good hp.2).2⟩
theorem LsW.retT (h : LsW B s lv toks k0 nv0 e0 w R0 R1 v l wr k nv ns pl e rest a) (hB : B < w.heap.size) (hs : rest.size ≤ 2 * (k - k0) + 1) : RetTm B s lv toks k0 nv0 e0 w (.returned (tmV rest a)) (put4 wr R0 rest a) := by
  refine ⟨k, nv, ns, pl, e, rest, a, rfl, h.rd.put (by have := h.new0; omega) h.g0.2.2 _ _, h.kr.put h.new0 _ _, h.le, h.bad, ?_, hs, h.okr⟩
  exact h.tm.mono fun b _ hb => ⟨⟨hb.1.1, ⟨by rw [put4_size]; exact hb.1.2.1, hb.1.2.2⟩⟩, put4_heap _ _ _ _ _ hb.2.1⟩
end
end Go.Proofs.Ytmffobadnmkpbaa
namespace Go.Proofs.Ytmffobadnmkpbaa
open Go.RowKit

def OperandOk (d : Int) : Prop := ∀ (w : World) (B : Nat) (s : ByteArray) (lv : Value) (toks : List Tok) (k : Nat) (nv : Value) (ns : List ByteArray) (pl e : Int), RdAt w B s lv toks k nv ns pl e → TksOk s toks → ∀ most : Int,
  Calls Try.prog 132 #[.pointer (some ⟨B, 0, none⟩), .int .i64 most, .int .i64 d] w (RetOp 1 B s lv toks k nv e w)
theorem OperandOk.call {d : Int} (hT : OperandOk d) {w : World} {B : Nat} {s : ByteArray} {lv : Value} {toks : List Tok} {k : Nat} {nv : Value} {ns : List ByteArray} {pl e : Int} (h : RdAt w B s lv toks k nv ns pl e) (hok : TksOk s toks) (most : Int) :
    Calls Try.prog 132 #[.pointer (some ⟨B, 0, none⟩), .int .i64 most, .int .i64 d] w (RetOp 1 B s lv toks k nv e w) := hT w B s lv toks k nv ns pl e h hok most
theorem b_or2 {b : Bool} {P : Prop} (h : b = true → P) : b = false ∨ (b = true ∧ Hid P) := by
  cases b
  · exact .inl rfl
  · exact .inr ⟨rfl, Lib.hid (h rfl)⟩
set_option maxRecDepth 100000 in
set_option maxHeartbeats 6400000 in
theorem term_step {d : Int} (hd0 : 0 ≤ d) (hd : d ≤ 64) (hO : OperandOk d) (hT : TermOk (d + 1)) : TermOk d := by
  intro w B s lv toks k nv ns pl e h hok most
  have hB := h.lt
  have hll := hok.len
  have HOK := Lib.hid hok
  have HT := Lib.hid hT
  have HO0 := Lib.hid ((OpW.begin h).alloc hB #[.int .i64 0, .int .i64 0, .string ⟨#[]⟩, .slice none 0 0] 24 w.heap.size rfl)
  have CO := Lib.hid (hO.call HO0.out.rd hok most)
  have hdd : decide (64 < d) = false := by simpa using hd
  obtain ⟨c0, c1, c2, c3, c4, c5, f2, f3, f4, f5⟩ := HO0.out.rd.six
  clear h hok hT hO
  rcases e_or e with ⟨HE, heb, hen⟩ | ⟨HE, heb, hen⟩
  rotate_left
  · go_enter Try.func103, Try.ntmps103
    go_wp2
    refine bodyPost_ret (v := tmV .nil (.slice none 0 0)) (by simp [results, Try.results103, go_sem, tmV, Tm.kind, Tm.num, Tm.name]; try rfl) rfl ?_
    exact ⟨k, nv, ns, pl, e, .nil, _, rfl, HO0.out.rd, HO0.out.kr, Nat.le_refl _, fun h => h, .leaf rfl, by simp only [Tm.size]; omega, fun h => absurd h HE.out⟩
  go_enter Try.func103, Try.ntmps103
  go_wp2_with (go_at_call 132; ((with_reducible refine CO.out.mono ?_); rintro ex W1 ⟨k1, nv1, ns1, pl1, e1, t, a, pr, rfl, r1, kr1, hle1, hb1, ht1, hs1, ho1⟩; obtain ⟨ao1, cc1, rfl, _⟩ := ht1.shape; have LS0 := Lib.hid (LsW.start2 (HO0.out.call r1 kr1 hle1 hb1) hB ht1 HO0.out.kr.size (HO0.out.lt (.head _)) ho1 24); have S1 := Lib.hid hs1; have hs0 := kr1.size; clear r1 kr1 hle1 hb1 ht1 hs1 ho1 c0 c1 c2 c3 c4 c5 f2 f3 f4 f5; unfold tmV))
  have hBW : B < W1.heap.size := by simp at hs0; omega
  go_loopg [8] (toks.length - k1) (fun n v wr => ∃ (pr : Int) (k2 : Nat) (nv2 : Value) (ns2 : List ByteArray) (pl2 e2 : Int) (T : Tm) (a : Value), v = .int .i64 pr ∧ Hid (LsW B s lv toks k nv e w w.heap.size W1.heap.size (.slice none 0 0) [] wr k2 nv2 ns2 pl2 e2 T a) ∧ Hid (n = toks.length - k2) ∧ Hid (T.size ≤ 2 * (k2 - k) + 1))
  case atStart => exact ⟨pr, k1, nv1, ns1, pl1, e1, t, _, rfl, LS0, Lib.hid rfl, S1⟩
  case round =>
    clear LS0 S1
    obtain ⟨pr2, k2, nv2, ns2, pl2, e2, T, a, rfl, LS, HN, HS⟩ := hrel
    obtain ⟨ao, cc, rfl, _⟩ := LS.out.tm.shape
    obtain ⟨c0, c1, c2, c3, c4, c5, f2, f3, f4, f5⟩ := LS.out.rd.six
    obtain ⟨z0, fz0⟩ := LS.out.box1.get 0 rfl
    obtain ⟨z1, fz1⟩ := LS.out.box1.get 1 rfl
    obtain ⟨z2, fz2⟩ := LS.out.box1.get 2 rfl
    obtain ⟨z3, fz3⟩ := LS.out.box1.get 3 rfl
    obtain ⟨y0, fy0⟩ := LS.out.box0.get 0 rfl
    obtain ⟨y1, fy1⟩ := LS.out.box0.get 1 rfl
    obtain ⟨y2, fy2⟩ := LS.out.box0.get 2 rfl
    obtain ⟨y3, fy3⟩ := LS.out.box0.get 3 rfl
    rcases e_or e2 with ⟨HE2, heb2, hen2⟩ | ⟨HE2, heb2, hen2⟩
    rotate_left
    · go_wp2
      have hr := LS.out.retT hB HS.out
      dsimp only [put4] at hr
      refine bodyPost_ret (v := tmV T (.slice ao T.args.length cc)) (by simp [results, Try.results103, go_sem, tmV, y0, y1, y2, y3]; try rfl) rfl ?_
      exact hr
    · have CN := Lib.hid (next_c LS.out.rd HOK.out)
      have hkt := tokAt_kind (s := s) (toks := toks) (k := k2)
      have hxt := tokAt_text HOK.out k2
      obtain ⟨x, hx⟩ : ∃ x, x = tokAt s toks k2 := ⟨_, rfl⟩
      rw [← hx] at CN hkt hxt
      clear hx
      obtain ⟨kd, tx, lo, hi⟩ := x
      dsimp only at hkt hxt
      have hkl := LS.out.rd.le
      by_cases h1 : kd = 1
      · have HK : Hid (k2 < toks.length) := hkt (by omega)
        have hb1 : (kd != 1) = false := by simp [h1]
        clear hkt h1
        go_upto_region 14 with (first
          | (go_at_call 104; ((with_reducible refine CN.out.mono ?_); rintro ex W2 ⟨rfl, b2⟩; have hW2 : B < W2.heap.size := (by have := b2.size; have := LS.out.rd.lt; omega); have LSa := Lib.hid ((LS.out.later b2).later ((Below.refl _ W2).alloc (Nat.le_refl _) (.cells #[.int .i64 kd, .string tx, .int .i64 lo, .int .i64 hi] 116))); have KXa := Lib.hid (Kx.new hW2 (LS.out.later b2).rd.own_lt #[.int .i64 kd, .string tx, .int .i64 lo, .int .i64 hi] 116); clear c0 c1 c2 c3 c4 c5 f2 f3 f4 f5 z0 z1 z2 z3 y0 y1 y2 y3 fz0 fz1 fz2 fz3 fy0 fy1 fy2 fy3; obtain ⟨c0, c1, c2, c3, c4, c5, f2, f3, f4, f5⟩ := LSa.out.rd.six; obtain ⟨z0, fz0⟩ := LSa.out.box1.get 0 rfl; obtain ⟨y0, fy0⟩ := LSa.out.box0.get 0 rfl; obtain ⟨z1, fz1⟩ := LSa.out.box1.get 1 rfl; obtain ⟨y1, fy1⟩ := LSa.out.box0.get 1 rfl; obtain ⟨z2, fz2⟩ := LSa.out.box1.get 2 rfl; obtain ⟨y2, fy2⟩ := LSa.out.box0.get 2 rfl; obtain ⟨z3, fz3⟩ := LSa.out.box1.get 3 rfl; obtain ⟨y3, fy3⟩ := LSa.out.box0.get 3 rfl; clear b2))
          | (go_at_call 133; ((with_reducible refine (mark_c LSa.out.rd HOK.out ⟨#[44]⟩).mono ?_); rintro ex W3 ⟨b, rfl, hb, b3⟩; have LSm := Lib.hid (LSa.out.later b3); have KXm := Lib.hid (KXa.out.later b3); clear c0 c1 c2 c3 c4 c5 f2 f3 f4 f5 z0 z1 z2 z3 y0 y1 y2 y3 fz0 fz1 fz2 fz3 fy0 fy1 fy2 fy3; obtain ⟨c0, c1, c2, c3, c4, c5, f2, f3, f4, f5⟩ := LSm.out.rd.six; obtain ⟨z0, fz0⟩ := LSm.out.box1.get 0 rfl; obtain ⟨y0, fy0⟩ := LSm.out.box0.get 0 rfl; obtain ⟨z1, fz1⟩ := LSm.out.box1.get 1 rfl; obtain ⟨y1, fy1⟩ := LSm.out.box0.get 1 rfl; obtain ⟨z2, fz2⟩ := LSm.out.box1.get 2 rfl; obtain ⟨y2, fy2⟩ := LSm.out.box0.get 2 rfl; obtain ⟨z3, fz3⟩ := LSm.out.box1.get 3 rfl; obtain ⟨y3, fy3⟩ := LSm.out.box0.get 3 rfl; obtain ⟨q0, fq0⟩ := KXm.out.2.get 0 rfl; obtain ⟨q1, fq1⟩ := KXm.out.2.get 1 rfl; clear b3; rcases b_or2 hb with rfl | ⟨rfl, HK⟩; all_goals clear hb))
          | (go_at_call 134; ((refine (inf_c _ _).mono ?_); rintro ex W4 ⟨pa, pb, pc, pd, rfl, b4⟩; clear c0 c1 c2 c3 c4 c5 f2 f3 f4 f5 z0 z1 z2 z3 y0 y1 y2 y3 fz0 fz1 fz2 fz3 fy0 fy1 fy2 fy3; first | (have LSi := Lib.hid (LSm.out.later b4); have KXi := Lib.hid (KXm.out.later b4)) | (have LSi := Lib.hid (LSa.out.later b4); have KXi := Lib.hid (KXa.out.later b4))); obtain ⟨c0, c1, c2, c3, c4, c5, f2, f3, f4, f5⟩ := LSi.out.rd.six; obtain ⟨z0, fz0⟩ := LSi.out.box1.get 0 rfl; obtain ⟨y0, fy0⟩ := LSi.out.box0.get 0 rfl; obtain ⟨z1, fz1⟩ := LSi.out.box1.get 1 rfl; obtain ⟨y1, fy1⟩ := LSi.out.box0.get 1 rfl; obtain ⟨z2, fz2⟩ := LSi.out.box1.get 2 rfl; obtain ⟨y2, fy2⟩ := LSi.out.box0.get 2 rfl; obtain ⟨z3, fz3⟩ := LSi.out.box1.get 3 rfl; obtain ⟨y3, fy3⟩ := LSi.out.box0.get 3 rfl; (first | clear q0 q1 fq0 fq1 | skip); obtain ⟨q0, fq0⟩ := KXi.out.2.get 0 rfl; obtain ⟨q1, fq1⟩ := KXi.out.2.get 1 rfl; clear b4; cases pd))
        all_goals first
          | (refine (id : Code.wp _ _ _ _ _ → Code.wp _ _ _ _ _) ?_)
          | (have hr := LSi.out.retT hB HS.out
             dsimp only [put4] at hr
             refine bodyPost_ret (v := tmV T (.slice ao T.args.length cc)) (by simp [results, Try.results103, go_sem, tmV, y0, y1, y2, y3]; try rfl) rfl ?_
             exact hr)
          | (have hr := LSm.out.retT hB HS.out
             dsimp only [put4] at hr
             refine bodyPost_ret (v := tmV T (.slice ao T.args.length cc)) (by simp [results, Try.results103, go_sem, tmV, y0, y1, y2, y3]; try rfl) rfl ?_
             exact hr)
        have hdw : IntKind.i64.wrap (d + 1) = d + 1 := IntWalk.i64_in _ (by omega)
        have LSs := Lib.hid ((LSi.out.step HK.out).later ((Below.refl _ _).drew))
        have KXs := Lib.hid ((KXi.out.kr (KR.setB B nv2 _ 2 (.int .i64 ((k2 : Int) + 1)))).later ((Below.refl _ _).drew))
        go_region_with ((first
          | (go_at_call 103; ((with_reducible refine (HT.out.call LSs.out.rd HOK.out pc).mono ?_); rintro ex W6 ⟨k6, nv6, ns6, pl6, e6, t6, a6, rfl, r6, kr6, hle6, hb6, ht6, hs6, ho6⟩; obtain ⟨ao6, cc6, rfl, _⟩ := ht6.shape; have LS6 := Lib.hid (LSs.out.call r6 kr6 hle6 hb6); have KX6 := Lib.hid (KXs.out.kr kr6); have T6 := Lib.hid ht6; have S6 := Lib.hid hs6; have O6 := Lib.hid ho6; have L6 := Lib.hid hle6; obtain ⟨q1', fq1'⟩ := KX6.out.2.get 1 rfl; obtain ⟨w0, fw0⟩ := LS6.out.box1.get 0 rfl; obtain ⟨w1, fw1⟩ := LS6.out.box1.get 1 rfl; obtain ⟨w2, fw2⟩ := LS6.out.box1.get 2 rfl; obtain ⟨w3, fw3⟩ := LS6.out.box1.get 3 rfl; clear r6 kr6 hle6 hb6 ht6 hs6 ho6; unfold tmV))
          | (go_at_call 135; ((refine (two_c (P2 B nv6 w W6 w.heap.size W1.heap.size) tx T t6 _ _ W6 LS6.out.tm (LS6.out.new T6.out LSs.out.kr.size LSs.out.g0.1 LSs.out.g1.1)).mono ?_); rintro ex W7 ⟨a7, rfl, t7, b7⟩; obtain ⟨ao7, cc7, rfl⟩ := shape2 t7; rw [tmV_cmp]; have LS7 := Lib.hid (LS6.out.later b7); have T7 := Lib.hid (LS6.out.made t7 b7 hB); obtain ⟨x0, fx0⟩ := LS7.out.box1.get 0 rfl; obtain ⟨x1, fx1⟩ := LS7.out.box1.get 1 rfl; obtain ⟨x2, fx2⟩ := LS7.out.box1.get 2 rfl; obtain ⟨x3, fx3⟩ := LS7.out.box1.get 3 rfl; clear t7 b7))))
        all_goals
          go_wp2
          go_roundg (toks.length - k6)
          case measure => have := HN.out; have := L6.out; have := LS6.out.rd.le; have := HK.out; omega
          case rel =>
            have LSF := LS7.out.store hB T7.out (fun h0 => two_ok hxt (LS7.out.okr h0) (O6.out h0))
            dsimp only [put4, Tm.kind, Tm.num, Tm.name] at LSF
            exact ⟨pa, k6, nv6, ns6, pl6, e6, .cmp tx [T, t6], _, rfl, Lib.hid LSF, Lib.hid rfl, Lib.hid (by have := HS.out; have := S6.out; have := L6.out; have := LS.out.le; simp only [Tm.size, Tm.sizes]; omega)⟩
      · have hb1 : (kd != 1) = true := by simpa using h1
        clear hkt h1
        go_upto_region 14 with (first
          | (go_at_call 104; ((with_reducible refine CN.out.mono ?_); rintro ex W2 ⟨rfl, b2⟩; have hW2 : B < W2.heap.size := (by have := b2.size; have := LS.out.rd.lt; omega); have LSa := Lib.hid ((LS.out.later b2).later ((Below.refl _ W2).alloc (Nat.le_refl _) (.cells #[.int .i64 kd, .string tx, .int .i64 lo, .int .i64 hi] 116))); have KXa := Lib.hid (Kx.new hW2 (LS.out.later b2).rd.own_lt #[.int .i64 kd, .string tx, .int .i64 lo, .int .i64 hi] 116); clear c0 c1 c2 c3 c4 c5 f2 f3 f4 f5 z0 z1 z2 z3 y0 y1 y2 y3 fz0 fz1 fz2 fz3 fy0 fy1 fy2 fy3; obtain ⟨c0, c1, c2, c3, c4, c5, f2, f3, f4, f5⟩ := LSa.out.rd.six; obtain ⟨z0, fz0⟩ := LSa.out.box1.get 0 rfl; obtain ⟨y0, fy0⟩ := LSa.out.box0.get 0 rfl; obtain ⟨z1, fz1⟩ := LSa.out.box1.get 1 rfl; obtain ⟨y1, fy1⟩ := LSa.out.box0.get 1 rfl; obtain ⟨z2, fz2⟩ := LSa.out.box1.get 2 rfl; obtain ⟨y2, fy2⟩ := LSa.out.box0.get 2 rfl; obtain ⟨z3, fz3⟩ := LSa.out.box1.get 3 rfl; obtain ⟨y3, fy3⟩ := LSa.out.box0.get 3 rfl; clear b2))
          | (go_at_call 133; ((with_reducible refine (mark_c LSa.out.rd HOK.out ⟨#[44]⟩).mono ?_); rintro ex W3 ⟨b, rfl, hb, b3⟩; have LSm := Lib.hid (LSa.out.later b3); have KXm := Lib.hid (KXa.out.later b3); clear c0 c1 c2 c3 c4 c5 f2 f3 f4 f5 z0 z1 z2 z3 y0 y1 y2 y3 fz0 fz1 fz2 fz3 fy0 fy1 fy2 fy3; obtain ⟨c0, c1, c2, c3, c4, c5, f2, f3, f4, f5⟩ := LSm.out.rd.six; obtain ⟨z0, fz0⟩ := LSm.out.box1.get 0 rfl; obtain ⟨y0, fy0⟩ := LSm.out.box0.get 0 rfl; obtain ⟨z1, fz1⟩ := LSm.out.box1.get 1 rfl; obtain ⟨y1, fy1⟩ := LSm.out.box0.get 1 rfl; obtain ⟨z2, fz2⟩ := LSm.out.box1.get 2 rfl; obtain ⟨y2, fy2⟩ := LSm.out.box0.get 2 rfl; obtain ⟨z3, fz3⟩ := LSm.out.box1.get 3 rfl; obtain ⟨y3, fy3⟩ := LSm.out.box0.get 3 rfl; obtain ⟨q0, fq0⟩ := KXm.out.2.get 0 rfl; obtain ⟨q1, fq1⟩ := KXm.out.2.get 1 rfl; clear b3; rcases b_or2 hb with rfl | ⟨rfl, HK⟩; all_goals clear hb))
          | (go_at_call 134; ((refine (inf_c _ _).mono ?_); rintro ex W4 ⟨pa, pb, pc, pd, rfl, b4⟩; clear c0 c1 c2 c3 c4 c5 f2 f3 f4 f5 z0 z1 z2 z3 y0 y1 y2 y3 fz0 fz1 fz2 fz3 fy0 fy1 fy2 fy3; first | (have LSi := Lib.hid (LSm.out.later b4); have KXi := Lib.hid (KXm.out.later b4)) | (have LSi := Lib.hid (LSa.out.later b4); have KXi := Lib.hid (KXa.out.later b4))); obtain ⟨c0, c1, c2, c3, c4, c5, f2, f3, f4, f5⟩ := LSi.out.rd.six; obtain ⟨z0, fz0⟩ := LSi.out.box1.get 0 rfl; obtain ⟨y0, fy0⟩ := LSi.out.box0.get 0 rfl; obtain ⟨z1, fz1⟩ := LSi.out.box1.get 1 rfl; obtain ⟨y1, fy1⟩ := LSi.out.box0.get 1 rfl; obtain ⟨z2, fz2⟩ := LSi.out.box1.get 2 rfl; obtain ⟨y2, fy2⟩ := LSi.out.box0.get 2 rfl; obtain ⟨z3, fz3⟩ := LSi.out.box1.get 3 rfl; obtain ⟨y3, fy3⟩ := LSi.out.box0.get 3 rfl; (first | clear q0 q1 fq0 fq1 | skip); obtain ⟨q0, fq0⟩ := KXi.out.2.get 0 rfl; obtain ⟨q1, fq1⟩ := KXi.out.2.get 1 rfl; clear b4; cases pd))
        all_goals first
          | (refine (id : Code.wp _ _ _ _ _ → Code.wp _ _ _ _ _) ?_)
          | (have hr := LSi.out.retT hB HS.out
             dsimp only [put4] at hr
             refine bodyPost_ret (v := tmV T (.slice ao T.args.length cc)) (by simp [results, Try.results103, go_sem, tmV, y0, y1, y2, y3]; try rfl) rfl ?_
             exact hr)
          | (have hr := LSm.out.retT hB HS.out
             dsimp only [put4] at hr
             refine bodyPost_ret (v := tmV T (.slice ao T.args.length cc)) (by simp [results, Try.results103, go_sem, tmV, y0, y1, y2, y3]; try rfl) rfl ?_
             exact hr)
        have hdw : IntKind.i64.wrap (d + 1) = d + 1 := IntWalk.i64_in _ (by omega)
        have LSs := Lib.hid ((LSi.out.step HK.out).later ((Below.refl _ _).drew))
        have KXs := Lib.hid ((KXi.out.kr (KR.setB B nv2 _ 2 (.int .i64 ((k2 : Int) + 1)))).later ((Below.refl _ _).drew))
        go_region_with ((first
          | (go_at_call 103; ((with_reducible refine (HT.out.call LSs.out.rd HOK.out pc).mono ?_); rintro ex W6 ⟨k6, nv6, ns6, pl6, e6, t6, a6, rfl, r6, kr6, hle6, hb6, ht6, hs6, ho6⟩; obtain ⟨ao6, cc6, rfl, _⟩ := ht6.shape; have LS6 := Lib.hid (LSs.out.call r6 kr6 hle6 hb6); have KX6 := Lib.hid (KXs.out.kr kr6); have T6 := Lib.hid ht6; have S6 := Lib.hid hs6; have O6 := Lib.hid ho6; have L6 := Lib.hid hle6; obtain ⟨q1', fq1'⟩ := KX6.out.2.get 1 rfl; obtain ⟨w0, fw0⟩ := LS6.out.box1.get 0 rfl; obtain ⟨w1, fw1⟩ := LS6.out.box1.get 1 rfl; obtain ⟨w2, fw2⟩ := LS6.out.box1.get 2 rfl; obtain ⟨w3, fw3⟩ := LS6.out.box1.get 3 rfl; clear r6 kr6 hle6 hb6 ht6 hs6 ho6; unfold tmV))
          | (go_at_call 135; ((refine (two_c (P2 B nv6 w W6 w.heap.size W1.heap.size) tx T t6 _ _ W6 LS6.out.tm (LS6.out.new T6.out LSs.out.kr.size LSs.out.g0.1 LSs.out.g1.1)).mono ?_); rintro ex W7 ⟨a7, rfl, t7, b7⟩; obtain ⟨ao7, cc7, rfl⟩ := shape2 t7; rw [tmV_cmp]; have LS7 := Lib.hid (LS6.out.later b7); have T7 := Lib.hid (LS6.out.made t7 b7 hB); obtain ⟨x0, fx0⟩ := LS7.out.box1.get 0 rfl; obtain ⟨x1, fx1⟩ := LS7.out.box1.get 1 rfl; obtain ⟨x2, fx2⟩ := LS7.out.box1.get 2 rfl; obtain ⟨x3, fx3⟩ := LS7.out.box1.get 3 rfl; clear t7 b7))))
        all_goals
          go_wp2
          go_roundg (toks.length - k6)
          case measure => have := HN.out; have := L6.out; have := LS6.out.rd.le; have := HK.out; omega
          case rel =>
            have LSF := LS7.out.store hB T7.out (fun h0 => two_ok hxt (LS7.out.okr h0) (O6.out h0))
            dsimp only [put4, Tm.kind, Tm.num, Tm.name] at LSF
            exact ⟨pa, k6, nv6, ns6, pl6, e6, .cmp tx [T, t6], _, rfl, Lib.hid LSF, Lib.hid rfl, Lib.hid (by have := HS.out; have := S6.out; have := L6.out; have := LS.out.le; simp only [Tm.size, Tm.sizes]; omega)⟩
end Go.Proofs.Ytmffobadnmkpbaa
namespace Go.Proofs.Ytmffobadnmkpbaa
open Go.RowKit

set_option maxRecDepth 100000 in
set_option maxHeartbeats 3200000 in
theorem term_deep : TermOk 65 := by
  intro w B s lv toks k nv ns pl e h hok most
  have hB := h.lt
  have HO0 := Lib.hid ((OpW.begin h).alloc hB #[.int .i64 0, .int .i64 0, .string ⟨#[]⟩, .slice none 0 0] 24 w.heap.size rfl)
  have CN := Lib.hid (next_c HO0.out.rd hok)
  obtain ⟨x, hx⟩ : ∃ x, x = tokAt s toks k := ⟨_, rfl⟩
  rw [← hx] at CN
  clear hx h hok
  obtain ⟨kd2, tx2, lo2, hi2⟩ := x
  obtain ⟨c0, c1, c2, c3, c4, c5, f2, f3, f4, f5⟩ := HO0.out.rd.six
  rcases e_or e with ⟨HE, heb, hen⟩ | ⟨HE, heb, hen⟩
  all_goals
    go_enter Try.func103, Try.ntmps103
    go_wp2_with (first
      | (go_at_call 104; ((with_reducible refine CN.out.mono ?_); rintro ex W1 ⟨rfl, b1⟩; have HO1 := Lib.hid (HO0.out.later b1); clear b1))
      | (go_at_call 131; ((with_reducible refine (fail_c HO1.out.rd _ 52 (by decide)).mono ?_); rintro ex W2 ⟨u, pl1, e1, rfl, r2, k2, he⟩; have HO2 := Lib.hid (HO1.out.call r2 k2 (Nat.le_refl _) (fun _ => he)); have E2 := Lib.hid he; clear c0 c1 c2 c3 c4 c5 f2 f3 f4 f5; have hen1 : (e1 != 0) = true := (by simpa using he); obtain ⟨c0, c1, c2, c3, c4, c5, f2, f3, f4, f5⟩ := r2.six; obtain ⟨x0, fx0⟩ := (HO2.out.get (.head _)).get 0 rfl; obtain ⟨x1, fx1⟩ := (HO2.out.get (.head _)).get 1 rfl; obtain ⟨x2, fx2⟩ := (HO2.out.get (.head _)).get 2 rfl; obtain ⟨x3, fx3⟩ := (HO2.out.get (.head _)).get 3 rfl; clear r2 k2 he)))
  · have hr := HO2.out.ret1 hB (.head _) (nw_leaf (B := B) (nv := nv) (w1 := W2) (t := .nil) rfl) HO2.out.kr.size (HO2.out.lt (.head _)) (by simp only [Tm.size]; omega) (fun h => absurd h E2.out)
    dsimp only [put4, Tm.kind, Tm.num, Tm.name] at hr
    refine bodyPost_ret (v := tmV .nil (.slice none 0 0)) (by simp [results, Try.results103, go_sem, tmV, Tm.kind, Tm.num, Tm.name, x0, x1, x2, x3]; try rfl) rfl ?_
    exact hr
  · refine bodyPost_ret (v := tmV .nil (.slice none 0 0)) (by simp [results, Try.results103, go_sem, tmV, Tm.kind, Tm.num, Tm.name]; try rfl) rfl ?_
    exact ⟨k, nv, ns, pl, e, .nil, _, rfl, HO0.out.rd, HO0.out.kr, Nat.le_refl _, fun h => h, .leaf rfl, by simp only [Tm.size]; omega, fun h => absurd h HE.out⟩
end Go.Proofs.Ytmffobadnmkpbaa
namespace Go.Proofs.Ytmffobadnmkpbaa
open Go.RowKit

def snC (x : (Tm × Value) × Value) : List Value := tmC x.1 ++ [x.2]
def snCs (l : List ((Tm × Value) × Value)) : List Value := l.flatMap snC
theorem snCs_len (l : List ((Tm × Value) × Value)) : (snCs l).length = l.length * 5 := by
  induction l with
  | nil => rfl
  | cons a l ih => simp only [snCs, List.flatMap_cons, List.length_append, List.length_cons] at *; rw [ih]; simp [snC, tmC]; omega
theorem snCs_at (l : List ((Tm × Value) × Value)) (i : Nat) (h : i < l.length) : ∀ j, j < 5 → (snCs l)[i * 5 + j]? = (snC l[i])[j]? := by
  induction l generalizing i with
  | nil => simp at h
  | cons a l ih =>
    intro j hj
    have e : snCs (a :: l) = snC a ++ snCs l := by simp [snCs]
    have hl : (snC a).length = 5 := rfl
    cases i with
    | zero => rw [e, List.getElem?_append_left (by omega)]; simp
    | succ i =>
      rw [e, List.getElem?_append_right (by omega), hl, show (i + 1) * 5 + j - 5 = i * 5 + j by omega, ih i (by simpa using h) j hj]
      simp
/-- a list of sentences in memory: their terms -/
def SnAt (B0 : Nat) (w : World) (v : Value) (l : List Tm) : Prop :=
  ∃ ao cap, v = .slice ao l.length cap ∧ l.length ≤ cap ∧ cap ≤ maxLen ∧ (0 < l.length → ∃ b off, ∃ av ns : Nat → Value, ao = some ⟨b, off, none⟩ ∧ b < w.heap.size ∧
    ∀ i, (h : i < l.length) → CellsT w b (off + i * 5) l[i] (av i) ∧ w.cell? ⟨b, off + i * 5 + 4, none⟩ = some (ns i) ∧ (∃ a n c, ns i = .slice a n c) ∧ TmAt (fun b => B0 ≤ b) w l[i] (av i))
theorem SnAt.shape {B0 : Nat} {w : World} {v : Value} {l : List Tm} (h : SnAt B0 w v l) : ∃ ao cap, v = .slice ao l.length cap ∧ l.length ≤ cap ∧ cap ≤ maxLen := by
  obtain ⟨ao, cap, rfl, h1, h2, _⟩ := h; exact ⟨ao, cap, rfl, h1, h2⟩
theorem SnAt.nil {B0 : Nat} {w : World} : SnAt B0 w (.slice none 0 0) [] := ⟨none, 0, rfl, Nat.le_refl _, by simp [maxLen], fun h => by simp at h⟩
theorem SnAt.later {B0 : Nat} {w w' : World} {v : Value} {l : List Tm} (h : SnAt B0 w v l) (hb : Below w.heap.size w w') : SnAt B0 w' v l := by
  obtain ⟨ao, cap, rfl, h1, h2, h3⟩ := h
  refine ⟨ao, cap, rfl, h1, h2, fun h0 => ?_⟩
  obtain ⟨b, off, av, ns, rfl, hl, hc⟩ := h3 h0
  refine ⟨b, off, av, ns, rfl, Nat.lt_of_lt_of_le hl hb.size, fun i h => ?_⟩
  obtain ⟨c, n, sh, t⟩ := hc i h
  exact ⟨c.block (hb.block b hl), (hb.cell (p := ⟨b, off + i * 5 + 4, none⟩) hl).trans n, sh, t.grow hb (fun _ _ h => h)⟩
theorem SnAt.get {B0 : Nat} {w : World} {ao : Option Addr} {n cap : Nat} {l : List Tm} (h : SnAt B0 w (.slice ao n cap) l) (i : Nat) (hi : i < l.length) :
    ∃ b off a an nn cn, ao = some ⟨b, off, none⟩ ∧ b < w.heap.size ∧ CellsT w b (off + i * 5) l[i] a ∧ w.cell? ⟨b, off + i * 5 + 4, none⟩ = some (.slice an nn cn) ∧ TmAt (fun b => B0 ≤ b) w l[i] a := by
  obtain ⟨ao', cap', he, h1, h2, h3⟩ := h
  simp only [Value.slice.injEq] at he
  obtain ⟨rfl, rfl, rfl⟩ := he
  obtain ⟨b, off, av, ns, rfl, hl, hc⟩ := h3 (by omega)
  obtain ⟨c, n, ⟨a1, n1, c1, e1⟩, t⟩ := hc i hi
  exact ⟨b, off, av i, a1, n1, c1, rfl, hl, c, by rw [n, e1], t⟩
structure SnW (B : Nat) (s : ByteArray) (lv : Value) (toks : List Tok) (w : World) (v : Value) (wr : World) (k : Nat) (nv : Value) (ns : List ByteArray) (pl e : Int) (L : List ((Tm × Value) × Value)) : Prop where
  rd : RdAt wr B s lv toks k nv ns pl e
  low : Below w.heap.size w wr
  own : wr.ownsRow (B + 1) 69 5 v L.length (snCs L)
  ne : ∀ g, v.ownBlock = some g → nv.ownBlock ≠ some g
  tms : ∀ x ∈ L, TmAt (fun b => Nw B nv w wr b ∧ v.ownBlock ≠ some b) wr x.1.1 x.1.2
  nms : ∀ x ∈ L, ∃ a n c, x.2 = .slice a n c
  ok : ∀ x ∈ L, x.1.1.ok ∧ x.1.1.size ≤ 2001
  len : L.length ≤ k
section
variable {B : Nat} {s : ByteArray} {lv : Value} {toks : List Tok} {w : World} {v : Value} {wr : World} {k : Nat} {nv : Value} {ns : List ByteArray} {pl e : Int} {L : List ((Tm × Value) × Value)}
theorem SnW.call (h : SnW B s lv toks w v wr k nv ns pl e L) (hB : w.heap.size ≤ B) {W : World} {k1 : Nat} {nv1 : Value} {ns1 : List ByteArray} {pl1 e1 : Int} (hr : RdAt W B s lv toks k1 nv1 ns1 pl1 e1) (hk : KR B nv wr nv1 W) (hle : k ≤ k1) : SnW B s lv toks w v W k1 nv1 ns1 pl1 e1 L := by
  have hgood : ∀ g, v.ownBlock = some g → Gd B nv wr g := fun g hg => by
    have := h.own.lt g hg
    exact ⟨this.2, by omega, h.ne g hg⟩
  refine ⟨hr, h.low.trans (hk.below h.low.size hB (fun g hg => by have := h.rd.own_ge g hg; omega)), ?_, fun g hg => (hk.good (hgood g hg)).1.2.2, fun x hx => ?_, h.nms, h.ok, Nat.le_trans h.len hle⟩
  · refine ⟨h.own.1, ?_⟩
    rcases h.own.2 with hx | ⟨g, cap, cur, rfl, hg, hgg, rest⟩
    · exact .inl hx
    · exact .inr ⟨g, cap, cur, rfl, hg, by rw [(hk.good (hgood g rfl)).2]; exact hgg, rest⟩
  · exact (h.tms x hx).mono fun b _ hb => ⟨⟨⟨hb.1.1, (hk.good hb.1.2).1⟩, hb.2⟩, (hk.good hb.1.2).2⟩
theorem SnW.later (h : SnW B s lv toks w v wr k nv ns pl e L) (hB : w.heap.size ≤ B) {W : World} (hb : Below wr.heap.size wr W) : SnW B s lv toks w v W k nv ns pl e L := h.call hB (h.rd.later hb) (KR.of_below hb) (Nat.le_refl _)
theorem SnW.step (h : SnW B s lv toks w v wr k nv ns pl e L) (hB : w.heap.size ≤ B) (hk : k < toks.length) : SnW B s lv toks w v (wr.setCell ⟨B, 2, none⟩ (.int .i64 ((k : Int) + 1))) (k + 1) nv ns pl e L := h.call hB (h.rd.setAt hk) (KR.setB _ _ _ _ _) (Nat.le_succ _)
theorem KR.nil (B : Nat) (v : Value) (w : World) : KR B v w (.slice none 0 0) (w.setCell ⟨B, 3, none⟩ (.slice none 0 0)) :=
  ⟨rfl, rfl, rfl, by simp [World.setCell], fun b _ hB _ => Below.heap_setCell _ _ _ _ hB, .inr fun g hg => by simp [Value.ownBlock] at hg⟩
theorem SnW.fresh (h : SnW B s lv toks w v wr k nv ns pl e L) (hB : w.heap.size ≤ B) : SnW B s lv toks w v (wr.setCell ⟨B, 3, none⟩ (.slice none 0 0)) k (.slice none 0 0) [] pl e L := h.call hB h.rd.setNil (KR.nil _ _ _) (Nat.le_refl _)
/-- one more sentence -/
theorem SnW.push (h : SnW B s lv toks w v wr k nv ns pl e L) (hB : w.heap.size ≤ B) {t : Tm} {a : Value} {w1 : World} (ht : TmAt (Nw B nv w1 wr) wr t a) (hw1 : w.heap.size ≤ w1.heap.size) (hv1 : ∀ g, v.ownBlock = some g → g < w1.heap.size) (hs : t.size ≤ 2001) (hok : t.ok) (hlen : L.length + 1 ≤ k) {an : Option Addr} {nn cn : Nat}
    {W : World} {g cap : Nat} (ho : W.ownsRow (B + 1) 69 5 (.slice (some ⟨g, 0, none⟩) (L.length + 1) cap) (L.length + 1) (snCs L ++ (#[.int .i64 t.kind, .int .i64 t.num, .string t.name, a, .slice an nn cn] : Array Value).toList))
    (hb : Below (B + 1) wr W) (hk : KeepsBut wr W v) (hl : v.ownBlock = some g ∨ wr.heap.size ≤ g) : SnW B s lv toks w (.slice (some ⟨g, 0, none⟩) (L.length + 1) cap) W k nv ns pl e (L ++ [((t, a), .slice an nn cn)]) := by
  have hge : ∀ b, v.ownBlock = some b → B + 1 ≤ b := fun b hb => (h.own.lt b hb).1
  have hnv : nv.ownBlock ≠ some g := by
    rcases hl with hl | hl
    · exact h.ne g hl
    · intro he; have := h.rd.own_lt g he; omega
  have key : ∀ b, b < wr.heap.size → v.ownBlock ≠ some b → (Value.slice (some ⟨g, 0, none⟩) (L.length + 1) cap).ownBlock ≠ some b := fun b hb hv he => by
    simp only [Value.ownBlock, Option.some.injEq] at he
    subst he
    rcases hl with hl | hl
    · exact hv hl
    · omega
  refine ⟨h.rd.kept hk (fun he => by have := hge _ he; omega) (fun b hb he => by have := hge _ he; omega) h.ne, h.low.trans (hb.mono (by omega)), ?_, ?_, ?_, ?_, ?_, by simpa using hlen⟩
  · have e : snCs (L ++ [((t, a), .slice an nn cn)]) = snCs L ++ (#[.int .i64 t.kind, .int .i64 t.num, .string t.name, a, .slice an nn cn] : Array Value).toList := by simp [snCs, snC, tmC]
    rw [e, List.length_append]; exact ho
  · intro g' hg'
    simp only [Value.ownBlock, Option.some.injEq] at hg'
    subst hg'; exact hnv
  · intro x hx
    rcases List.mem_append.1 hx with hx | hx
    · exact (h.tms x hx).mono fun b hbl hp => ⟨⟨⟨hp.1.1, Nat.lt_of_lt_of_le hp.1.2.1 hb.size, hp.1.2.2⟩, key b hbl hp.2⟩, hk b hbl hp.2⟩
    · obtain rfl := List.mem_singleton.1 hx
      refine ht.mono fun b hbl hp => ?_
      have hv : v.ownBlock ≠ some b := fun he => by have := hv1 b he; have := hp.1; omega
      exact ⟨⟨⟨by have := hp.1; omega, Nat.lt_of_lt_of_le hp.2.1 hb.size, hp.2.2⟩, key b hbl hv⟩, hk b hbl hv⟩
  · intro x hx
    rcases List.mem_append.1 hx with hx | hx
    · exact h.nms x hx
    · obtain rfl := List.mem_singleton.1 hx; exact ⟨_, _, _, rfl⟩
  · intro x hx
    rcases List.mem_append.1 hx with hx | hx
    · exact h.ok x hx
    · obtain rfl := List.mem_singleton.1 hx; exact ⟨hok, hs⟩
theorem SnW.at (h : SnW B s lv toks w v wr k nv ns pl e L) : SnAt w.heap.size wr v (L.map fun x => x.1.1) := by
  obtain ⟨_, ao, cap, rfl, h2, h3, h5, h4⟩ := SlAt.of_own h.own
  refine ⟨ao, cap, by simp, by simpa using h2, h3, fun h0 => ?_⟩
  obtain ⟨b, off, rfl, hlt, hc⟩ := h4 (by simp at h0; omega)
  refine ⟨b, off, fun i => (L[i]?.map fun x => x.1.2).getD default, fun i => (L[i]?.map Prod.snd).getD default, rfl, hlt, fun i hi => ?_⟩
  have hi : i < L.length := by simpa using hi
  have hq := snCs_at L i hi
  have e0 := hc (i * 5) (by omega)
  have e1 := hc (i * 5 + 1) (by omega)
  have e2 := hc (i * 5 + 2) (by omega)
  have e3 := hc (i * 5 + 3) (by omega)
  have e4 := hc (i * 5 + 4) (by omega)
  have q0 := hq 0 (by omega)
  rw [Nat.add_zero] at q0
  rw [q0] at e0
  rw [hq 1 (by omega)] at e1
  rw [hq 2 (by omega)] at e2
  rw [hq 3 (by omega)] at e3
  rw [hq 4 (by omega)] at e4
  refine ⟨⟨?_, ?_, ?_, ?_⟩, ?_, ?_, ?_⟩
  · rw [e0]; simp [snC, tmC]
  · rw [Nat.add_assoc, e1]; simp [snC, tmC]
  · rw [Nat.add_assoc, e2]; simp [snC, tmC]
  · rw [Nat.add_assoc, e3]; simp [snC, tmC, hi]
  · rw [Nat.add_assoc, e4]; simp [snC, tmC, hi]
  · simpa [hi] using h.nms L[i] (List.getElem_mem hi)
  · have : TmAt (fun b => w.heap.size ≤ b) wr L[i].1.1 L[i].1.2 := (h.tms L[i] (List.getElem_mem hi)).mono fun b _ hb => ⟨hb.1.1, rfl⟩
    simpa [hi] using this
end
end Go.Proofs.Ytmffobadnmkpbaa
namespace Go.Proofs.Ytmffobadnmkpbaa
open Go.RowKit

def smallB (c : UInt8) : Bool := decide (97 ≤ (c.toNat : Int)) && decide ((c.toNat : Int) ≤ 122)
def greatB (c : UInt8) : Bool := decide (65 ≤ (c.toNat : Int)) && decide ((c.toNat : Int) ≤ 90) || ((c.toNat : Int) == 95)
def digitB (c : UInt8) : Bool := decide (48 ≤ (c.toNat : Int)) && decide ((c.toNat : Int) ≤ 57)
def signs : ByteArray := ⟨#[43, 45, 42, 47, 92, 94, 60, 62, 61, 58, 46, 63, 64, 35, 36, 38, 126]⟩
def signB (c : UInt8) : Bool := signs.data.toList.contains c

/-- it tells some truth, and changes nothing -/
def SomeB (w : World) (e : Ending) (w' : World) : Prop := ∃ b : Bool, e = .returned (.bool b) ∧ w = w'

def RetTwo (s : ByteArray) (k : Nat) (w : World) (e : Ending) (w' : World) : Prop := ∃ b : Bool, e = .returned (.bool b) ∧ (b = true → k + 1 < s.size) ∧ w = w'

set_option maxRecDepth 100000 in
theorem small3_c (c : UInt8) (w : World) : Calls Try.prog 124 #[.int .u8 c.toNat] w fun e w' => e = .returned (.bool (smallB c)) ∧ w = w' := by
  unfold smallB
  by_cases h : 97 ≤ (c.toNat : Int) <;> by_cases h2 : (c.toNat : Int) ≤ 122
  all_goals
    go_enter Try.func124, Try.ntmps124
    go_wp2
    go_ret
    exact ⟨ret_bool (by simp <;> omega), rfl⟩
set_option maxRecDepth 100000 in
theorem digit3_c (c : UInt8) (w : World) : Calls Try.prog 127 #[.int .u8 c.toNat] w fun e w' => e = .returned (.bool (digitB c)) ∧ w = w' := by
  unfold digitB
  by_cases h : 48 ≤ (c.toNat : Int) <;> by_cases h2 : (c.toNat : Int) ≤ 57
  all_goals
    go_enter Try.func127, Try.ntmps127
    go_wp2
    go_ret
    exact ⟨ret_bool (by simp <;> omega), rfl⟩
set_option maxRecDepth 100000 in
theorem great3_c (c : UInt8) (w : World) : Calls Try.prog 126 #[.int .u8 c.toNat] w fun e w' => e = .returned (.bool (greatB c)) ∧ w = w' := by
  unfold greatB
  by_cases h : 65 ≤ (c.toNat : Int) <;> by_cases h2 : (c.toNat : Int) ≤ 90 <;> by_cases h3 : (c.toNat : Int) = 95
  all_goals
    go_enter Try.func126, Try.ntmps126
    go_wp2
    go_ret
    exact ⟨ret_bool (by simp <;> omega), rfl⟩
set_option maxRecDepth 100000 in
set_option maxHeartbeats 800000 in
theorem blank3_c (c : UInt8) (w : World) : Calls Try.prog 123 #[.int .u8 c.toNat] w (SomeB w) := by
  go_enter Try.func123, Try.ntmps123
  go_wp2
  all_goals
    go_ret
    exact ⟨_, rfl, rfl⟩
set_option maxRecDepth 100000 in
set_option maxHeartbeats 800000 in
theorem mark3_c (c : UInt8) (w : World) : Calls Try.prog 129 #[.int .u8 c.toNat] w (SomeB w) := by
  go_enter Try.func129, Try.ntmps129
  go_wp2
  all_goals
    go_ret
    exact ⟨_, rfl, rfl⟩
set_option maxRecDepth 100000 in
set_option maxHeartbeats 800000 in
theorem two3_c (s : ByteArray) (k : Nat) (a b : UInt8) (hk : k ≤ 5000) (w : World) : Calls Try.prog 150 #[.string s, .int .i64 k, .int .u8 a.toNat, .int .u8 b.toNat] w (RetTwo s k w) := by
  by_cases h : k + 1 < s.size
  · go_enter Try.func150, Try.ntmps150
    go_wp2
    all_goals
      go_ret
      exact ⟨_, rfl, fun _ => h, rfl⟩
  · go_enter Try.func150, Try.ntmps150
    go_wp2
    all_goals
      go_ret
      exact ⟨_, rfl, (fun h => by simp at h), rfl⟩
set_option maxRecDepth 100000 in
set_option maxHeartbeats 800000 in
theorem named3_c (c : UInt8) (w : World) : Calls Try.prog 151 #[.int .u8 c.toNat] w fun e w' => e = .returned (.bool (smallB c || greatB c || digitB c)) ∧ w = w' := by
  have C1 := Lib.hid (small3_c c)
  have C2 := Lib.hid (great3_c c)
  have C3 := Lib.hid (digit3_c c)
  generalize smallB c = x at *
  generalize greatB c = y at *
  generalize digitB c = z at *
  cases x <;> cases y <;> cases z
  all_goals
    go_enter Try.func151, Try.ntmps151
    go_wp2_with (first | (go_at_call 124; ((with_reducible refine (C1.out _).mono ?_); rintro e w' ⟨rfl, rfl⟩)) | (go_at_call 126; ((with_reducible refine (C2.out _).mono ?_); rintro e w' ⟨rfl, rfl⟩)) | (go_at_call 127; ((with_reducible refine (C3.out _).mono ?_); rintro e w' ⟨rfl, rfl⟩)))
    go_ret
    exact ⟨rfl, rfl⟩
theorem sign_at (c : UInt8) (k : Nat) (hk : k < 17) (h : (signs.data.toList.take k).contains c = false) :
    if (((signs[k]'hk).toNat : Int) == (c.toNat : Int)) = true then signB c = true else (signs.data.toList.take (k + 1)).contains c = false := by
  have hl : k < signs.data.toList.length := hk
  have e : signs[k]'hk = signs.data.toList[k] := rfl
  rw [e]
  split
  · rename_i hc
    have hcc : signs.data.toList[k] = c := by
      apply UInt8.toNat_inj.1
      have := eq_of_beq hc
      omega
    unfold signB
    rw [List.contains_iff_mem, ← hcc]
    exact List.getElem_mem hl
  · rename_i hc
    rw [List.take_succ_eq_append_getElem hl, List.contains_eq_any_beq, List.any_append, ← List.contains_eq_any_beq, h]
    simp only [List.any_cons, List.any_nil, Bool.or_false, Bool.false_or]
    rw [beq_eq_false_iff_ne]
    intro h2
    apply hc
    rw [← h2]
    simp
set_option maxRecDepth 100000 in
set_option maxHeartbeats 400000 in
theorem sign3_c (c : UInt8) (w : World) : Calls Try.prog 128 #[.int .u8 c.toNat] w fun e w' => e = .returned (.bool (signB c)) ∧ w = w' := by
  go_enter Try.func128, Try.ntmps128
  go_wp2
  go_loop [4] (fun i => ∃ k : Nat, k ≤ 17 ∧ i = .int .i64 k ∧ Hid ((signs.data.toList.take k).contains c = false)) (fun i => 17 - (intOf i).toNat)
  case atStart => exact ⟨0, by omega, rfl, Lib.hid (by simp)⟩
  case round =>
    obtain ⟨k, hk, rfl, HN⟩ := hrel
    by_cases hlt : k < 17
    · have HA := Lib.hid (sign_at c k hlt HN.out)
      cases hj : ((signs[k]'hlt).toNat : Int) == (c.toNat : Int) with
      | true =>
        have HF := Lib.hid (by have := HA.out; rwa [if_pos hj] at this : signB c = true)
        unfold signs at hj
        clear HA HN
        go_wp2
        go_ret
        exact ⟨ret_bool HF.out.symm, rfl⟩
      | false =>
        have HF := Lib.hid (by have := HA.out; rwa [if_neg (by rw [hj]; decide)] at this : (signs.data.toList.take (k + 1)).contains c = false)
        unfold signs at hj
        clear HA HN
        go_wp2
        go_round
        case rel => exact ⟨k + 1, by omega, by go_num, HF⟩
        case measure => simp [intOf]; omega
    · have HF : Hid (signB c = false) := by
        have := HN.out
        rwa [List.take_of_length_le (by show 17 ≤ k; omega)] at this
      clear HN
      obtain rfl : k = 17 := by omega
      go_wp2
      go_ret
      exact ⟨ret_bool HF.out.symm, rfl⟩
end Go.Proofs.Ytmffobadnmkpbaa
namespace Go.Proofs.Ytmffobadnmkpbaa
open Go.RowKit

def RetBet (s : ByteArray) (k0 : Nat) (w : World) (e : Ending) (w' : World) : Prop := ∃ (f : Nat) (b : Bool), e = .returned (.tuple #[.int .i64 f, .bool b]) ∧ (b = true → k0 ≤ f ∧ f ≤ s.size) ∧ w = w'

set_option maxRecDepth 100000 in
set_option maxHeartbeats 1600000 in
theorem between_c (s : ByteArray) (k0 : Nat) (hk0 : k0 ≤ s.size) (hs : s.size ≤ 4096) (w : World) : Calls Try.prog 122 #[.string s, .int .i64 k0] w (RetBet s k0 w) := by
  go_enter Try.func122, Try.ntmps122
  go_wp2
  go_loopg [1] (s.size - k0) (fun n i wr => ∃ k : Nat, k0 ≤ k ∧ k ≤ s.size ∧ i = .int .i64 k ∧ Hid (n = s.size - k) ∧ w = wr)
  case atStart => exact ⟨k0, by omega, hk0, rfl, Lib.hid rfl, rfl⟩
  case round =>
    obtain ⟨k, hk1, hk2, rfl, HN, rfl⟩ := hrel
    by_cases hlt : k < s.size
    · have C1 := Lib.hid (blank3_c (s[k]'hlt))
      have C2 : Hid (∀ w, Calls Try.prog 150 #[.string s, .int .i64 k, .int .u8 47, .int .u8 42] w (RetTwo s k w)) := fun w => two3_c s k 47 42 (by omega) w
      have C3 : Hid (∀ j, j ≤ s.size → ∀ w, Calls Try.prog 150 #[.string s, .int .i64 j, .int .u8 42, .int .u8 47] w (RetTwo s j w)) := fun j hj w => two3_c s j 42 47 (by omega) w
      by_cases h37 : ((s[k]'hlt).toNat : Int) = 37
      · have hne : Hid (((s[k]'hlt).toNat : Int) ≠ 10) := by show _ ≠ _; omega
        have hb37 : (((s[k]'hlt).toNat : Int) == 37) = true := by simpa using h37
        clear h37
        go_wp2_with (first | (go_at_call 123; ((with_reducible refine (C1.out _).mono ?_); rintro e w' ⟨b, rfl, rfl⟩; cases b)) | (go_at_call 150; ((with_reducible refine (C2.out _).mono ?_); rintro e w' ⟨b, rfl, hb, rfl⟩; clear hb; cases b)))
        · clear hb37
          go_loopg [1] (s.size - k) (fun n i wr => ∃ j : Nat, k ≤ j ∧ j ≤ s.size ∧ i = .int .i64 j ∧ Hid (n = s.size - j) ∧ w = wr)
          case atStart => exact ⟨k, by omega, by omega, rfl, Lib.hid rfl, rfl⟩
          case round =>
            obtain ⟨j, hj1, hj2, rfl, HM, rfl⟩ := hrel
            by_cases hjt : j < s.size
            · by_cases h10 : ((s[j]'hjt).toNat : Int) = 10
              · have hb10 : (((s[j]'hjt).toNat : Int) != 10) = false := by simp [h10]
                have hjk : k < j := by
                  rcases Nat.lt_or_ge k j with h | h
                  · exact h
                  · obtain rfl : k = j := by omega
                    exact absurd h10 hne.out
                clear h10
                go_wp2
                go_roundg (s.size - j)
                case measure => have := HN.out; omega
                case rel => exact ⟨j, by omega, by omega, rfl, Lib.hid rfl, rfl⟩
              · have hb10 : (((s[j]'hjt).toNat : Int) != 10) = true := by simpa using h10
                clear h10
                go_wp2
                go_roundg (s.size - (j + 1))
                case measure => have := HM.out; omega
                case rel => exact ⟨j + 1, by omega, by omega, by go_num, Lib.hid rfl, rfl⟩
            · obtain rfl : j = s.size := by omega
              go_wp2
              go_roundg 0
              case measure => have := HN.out; omega
              case rel => exact ⟨s.size, by omega, by omega, rfl, Lib.hid (by omega), rfl⟩
        · go_roundg (s.size - (k + 1))
          case measure => have := HN.out; omega
          case rel => exact ⟨k + 1, by omega, by omega, by go_num, Lib.hid rfl, rfl⟩
      · have hb37 : (((s[k]'hlt).toNat : Int) == 37) = false := by simpa using h37
        clear h37
        go_wp2_with (first | (go_at_call 123; ((with_reducible refine (C1.out _).mono ?_); rintro e w' ⟨b, rfl, rfl⟩; cases b)) | (go_at_call 150; ((with_reducible refine (C2.out _).mono ?_); rintro e w' ⟨b, rfl, hb, rfl⟩; clear hb; cases b)))
        · go_ret2
          exact ⟨_, _, rfl, fun _ => ⟨by omega, by omega⟩, rfl⟩
        · go_loopg [6] (s.size + 1 - (k + 2)) (fun n i wr => ∃ j : Nat, k < j ∧ j ≤ s.size + 1 ∧ i = .int .i64 j ∧ Hid (n = s.size + 1 - j) ∧ w = wr)
          case atStart => exact ⟨k + 2, by omega, by omega, by go_num, Lib.hid (by omega), rfl⟩
          case round =>
            obtain ⟨j, hj1, hj2, rfl, HM, rfl⟩ := hrel
            by_cases hjt : j < s.size
            · have CJ := Lib.hid (C3.out j (by omega))
              go_wp2_with (go_at_call 150; ((with_reducible refine (CJ.out _).mono ?_); rintro e w' ⟨b, rfl, hb, rfl⟩; have HBB := Lib.hid hb; clear hb; cases b))
              · go_roundg (s.size + 1 - (j + 1))
                case measure => have := HM.out; omega
                case rel => exact ⟨j + 1, by omega, by omega, by go_num, Lib.hid rfl, rfl⟩
              · have hj3 : j + 1 < s.size := (by first | exact HBB.out rfl | exact HBB.out trivial)
                go_roundg (s.size - (j + 2))
                case measure => have := HN.out; omega
                case rel => exact ⟨j + 2, by omega, by omega, by go_num, Lib.hid rfl, rfl⟩
            · go_wp2
              go_ret2
              exact ⟨_, _, rfl, (fun h => by cases h), rfl⟩
        · go_roundg (s.size - (k + 1))
          case measure => have := HN.out; omega
          case rel => exact ⟨k + 1, by omega, by omega, by go_num, Lib.hid rfl, rfl⟩
    · obtain rfl : k = s.size := by omega
      go_wp2
      go_ret2
      exact ⟨_, _, rfl, fun _ => ⟨by omega, by omega⟩, rfl⟩
def runB (kind : Int) (c : UInt8) : Bool := (kind == 1 && (smallB c || greatB c || digitB c)) || (kind == 2 && digitB c) || (kind == 3 && signB c)
def RetRun (s : ByteArray) (k0 : Nat) (kind : Int) (w : World) (e : Ending) (w' : World) : Prop := ∃ f : Nat, e = .returned (.int .i64 f) ∧ k0 ≤ f ∧ f ≤ s.size ∧ ((h : k0 < s.size) → runB kind s[k0] = true → k0 < f) ∧ w = w'
theorem runB_1 (c : UInt8) : runB 1 c = (smallB c || greatB c || digitB c) := by simp [runB]
theorem runB_2 (c : UInt8) : runB 2 c = digitB c := by simp [runB]
theorem runB_3 (c : UInt8) : runB 3 c = signB c := by simp [runB]
set_option maxRecDepth 100000 in
set_option maxHeartbeats 1600000 in
theorem run_c (s : ByteArray) (k0 : Nat) (kind : Int) (hkind : kind = 1 ∨ kind = 2 ∨ kind = 3) (hk0 : k0 ≤ s.size) (hs : s.size ≤ 4096) (w : World) : Calls Try.prog 125 #[.string s, .int .i64 k0, .int .i64 kind] w (RetRun s k0 kind w) := by
  rcases hkind with rfl | rfl | rfl
  all_goals
    go_enter Try.func125, Try.ntmps125
    go_wp2
    go_loopg [1] (s.size - k0) (fun n i wr => ∃ k : Nat, k0 ≤ k ∧ k ≤ s.size ∧ i = .int .i64 k ∧ Hid (n = s.size - k) ∧ w = wr)
    case atStart => exact ⟨k0, by omega, hk0, rfl, Lib.hid rfl, rfl⟩
    case round =>
      obtain ⟨k, hk1, hk2, rfl, HN, rfl⟩ := hrel
      by_cases hlt : k < s.size
      · have C1 : Hid (∀ w, Calls Try.prog 151 #[.int .u8 (s[k]'hlt).toNat] w fun e w' => e = .returned (.bool (runB 1 (s[k]'hlt))) ∧ w = w') := by rw [runB_1]; exact named3_c _
        have C2 : Hid (∀ w, Calls Try.prog 127 #[.int .u8 (s[k]'hlt).toNat] w fun e w' => e = .returned (.bool (runB 2 (s[k]'hlt))) ∧ w = w') := by rw [runB_2]; exact digit3_c _
        have C3 : Hid (∀ w, Calls Try.prog 128 #[.int .u8 (s[k]'hlt).toNat] w fun e w' => e = .returned (.bool (runB 3 (s[k]'hlt))) ∧ w = w') := by rw [runB_3]; exact sign3_c _
        have HE : ∀ kd, runB kd (s[k]'hlt) = false → Hid ((h : k0 < s.size) → runB kd s[k0] = true → k0 < k) := fun kd h hh hr => by
          rcases Nat.lt_or_ge k0 k with g | g
          · exact g
          · obtain rfl : k = k0 := by omega
            rw [h] at hr; cases hr
        have HE1 := HE 1
        have HE2 := HE 2
        have HE3 := HE 3
        clear HE
        generalize runB 1 (s[k]'hlt) = b1 at *
        generalize runB 2 (s[k]'hlt) = b2 at *
        generalize runB 3 (s[k]'hlt) = b3 at *
        go_wp2_with (first | (go_at_call 151; ((with_reducible refine (C1.out _).mono ?_); rintro e w' ⟨rfl, rfl⟩)) | (go_at_call 127; ((with_reducible refine (C2.out _).mono ?_); rintro e w' ⟨rfl, rfl⟩)) | (go_at_call 128; ((with_reducible refine (C3.out _).mono ?_); rintro e w' ⟨rfl, rfl⟩)))
        · go_roundg (s.size - (k + 1))
          case measure => have := HN.out; omega
          case rel => exact ⟨k + 1, by omega, by omega, by go_num, Lib.hid rfl, rfl⟩
        · go_ret
          exact ⟨_, rfl, by omega, by omega, by first | exact (HE1 (by first | assumption | exact Bool.eq_false_iff.2 ‹_›)).out | exact (HE2 (by first | assumption | exact Bool.eq_false_iff.2 ‹_›)).out | exact (HE3 (by first | assumption | exact Bool.eq_false_iff.2 ‹_›)).out, rfl⟩
      · obtain rfl : k = s.size := by omega
        go_wp2
        go_ret
        exact ⟨_, rfl, by omega, by omega, fun h _ => h, rfl⟩
end Go.Proofs.Ytmffobadnmkpbaa
