/-
  container/heap's down, walked.
  container/heap's Push and Pop, walked.
  (*fix.queue).wait and next, walked: the queue with its map.
  WHICH CONSTRAINTS NAME A VARIABLE: a list of rows of integers, each row of its own, grown by append.
  PLAIN LAWS of the walk through the constraints that wait: what is woken, what rests; no program.
-/
import Derived.Test.YtaekdgikgbdnnaaGreatKonce4
namespace Go.Proofs.YtaekdgikgbdnnaaGreat
open Go.RowKit

set_option maxRecDepth 100000 in
set_option maxHeartbeats 1600000 in
theorem qdown_c (qb mb B : Nat) (pl vp : Value) (L : List Int) (ps : List PL) (i0 n : Nat) (w : World) (h : QAt w qb mb B pl vp L) (hp : Kept qb w pl (fun W => PsAt W vp ps)) (hps : ∀ p ∈ ps, p.vs.length ≤ 4096) (hpl : ps.length ≤ 4096) (hin : InPs L ps) (hi : i0 ≤ n) (hn : n ≤ L.length) (hl : L.length ≤ 4097) :
    Calls Tryz.prog 103 #[.iface 99 (.pointer (some ⟨qb, 0, none⟩)), .int .i64 i0, .int .i64 n] w
      fun e w' => (∃ u, e = .returned u) ∧ ∃ L', L'.Perm L ∧ QAt w' qb mb B pl vp L' ∧ QSt qb w pl w' pl := by
  have H := Lib.hid h
  have HP := Lib.hid hp
  have HI := Lib.hid hin
  have HS := Lib.hid hps
  have ml := fun n W => me_less (some ⟨qb, 0, none⟩) n W
  clear h hp hin hps
  go_enter Tryz.func103, Tryz.ntmps103
  go_wp2
  go_loopw [7] (fun s wr => ∃ (i : Nat) (L' : List Int), s = .int .i64 i ∧ i ≤ n ∧ Hid (L'.Perm L ∧ QAt wr qb mb B pl vp L' ∧ QSt qb w pl wr pl)) (fun s _ => n - (intOf s).toNat)
  case atStart => exact ⟨i0, L, rfl, hi, List.Perm.refl _, H.out, QSt.refl _ _ _⟩
  case round =>
    obtain ⟨i, L1, rfl, hin, HR⟩ := hrel
    have hi64 : (i : Int) < 4098 := by omega
    have hn64 : (n : Int) < 4098 := by omega
    by_cases h1 : n ≤ 2 * i + 1
    · have g1 : (n : Int) ≤ 2 * i + 1 := by omega
      clear h1
      go_wp2
      go_ret
      exact ⟨⟨_, rfl⟩, L1, HR.out⟩
    have g1 : (2 : Int) * i + 1 < n := by omega
    have hl1 : Hid (L1.length = L.length) := HR.out.1.length_eq
    have CL : Hid (∀ a b : Nat, a < n → b < n → ∀ W, Below wr.heap.size wr W → Calls Tryz.prog 149 #[.pointer (some ⟨qb, 0, none⟩), .int .i64 a, .int .i64 b] W fun e w' => e = .returned (.bool (qLess ps L1 a b)) ∧ Below W.heap.size W w') := fun a b ha hb W hW =>
      qless_c qb mb B pl vp L1 ps a b W (HR.out.2.1.below hW) ((HP.out.on HR.out.2.2).on (QSt.of_below hW)).here HS.out hpl (HI.out.perm HR.out.1) (by rw [hl1.out]; omega) (by rw [hl1.out]; omega) (by rw [hl1.out]; exact hl)
    have CS : Hid (∀ a b : Nat, a < n → b < n → ∀ W, Below wr.heap.size wr W → Calls Tryz.prog 152 #[pl, .int .i64 a, .int .i64 b] W fun e w' => (∃ u, e = .returned u) ∧ QAt w' qb mb B pl vp (swapL L1 a b) ∧ QSt qb w pl w' pl) := fun a b ha hb W hW =>
      (qswap_c B pl L1 a b W (HR.out.2.1.below hW).own (by rw [hl1.out]; omega) (by rw [hl1.out]; omega) (by rw [hl1.out]; exact hl)).mono (fun e w' ⟨hu, bo, bs⟩ =>
        have q := (HR.out.2.1.below hW).swapped (by rw [hl1.out]; omega) bo bs
        ⟨hu, q.1, (HR.out.2.2.trans (QSt.of_below hW)).trans q.2⟩)
    have HZ : Hid (Below wr.heap.size wr wr) := Below.refl _ _
    have m1 : ((2 * i + 1 : Nat) : Int) = 2 * i + 1 := by omega
    have m2 : ((2 * i + 2 : Nat) : Int) = 2 * i + 1 + 1 := by omega
    by_cases h2 : n ≤ 2 * i + 2
    · have g2 : (n : Int) ≤ 2 * i + 1 + 1 := by omega
      have D := Lib.hid (CL.out (2 * i + 1) i (by omega) (by omega))
      have E := Lib.hid (CS.out i (2 * i + 1) (by omega) (by omega))
      rw [m1] at D E
      cases hc : qLess ps L1 (2 * i + 1) i
      · rw [hc] at D
        go_wp2_with ((go_at_call 149; (with_reducible refine (D.out _ HZ.out).mono ?_); rintro e W2 ⟨rfl, bb⟩; have B2 := Lib.hid (HZ.out.trans (bb.mono HZ.out.size)); clear bb))
        go_ret
        exact ⟨⟨_, rfl⟩, L1, HR.out.1, HR.out.2.1.below B2.out, HR.out.2.2.trans (QSt.of_below B2.out)⟩
      · rw [hc] at D
        go_wp2_with (first | (go_at_call 149; (with_reducible refine (D.out _ HZ.out).mono ?_); rintro e W2 ⟨rfl, bb⟩; have B2 := Lib.hid (HZ.out.trans (bb.mono HZ.out.size)); clear bb; have ms := fun n => me_swap qb n W2 pl (HR.out.2.1.below B2.out).c0) | (go_at_call 152; (with_reducible refine (E.out _ B2.out).mono ?_); rintro e W3 ⟨⟨u, rfl⟩, qa, qs⟩; have Q := Lib.hid (And.intro qa qs); clear qa qs))
        exact ⟨⟨2 * i + 1, swapL L1 i (2 * i + 1), by go_num, by omega, (swapL_perm L1 i (2 * i + 1) (by rw [hl1.out]; omega) (by rw [hl1.out]; omega)).trans HR.out.1, Q.out.1, Q.out.2⟩, by simp [intOf]; omega⟩
    have g2 : (2 : Int) * i + 1 + 1 < n := by omega
    cases hb : qLess ps L1 (2 * i + 2) (2 * i + 1)
    · have D := Lib.hid (CL.out (2 * i + 1) i (by omega) (by omega))
      have E := Lib.hid (CS.out i (2 * i + 1) (by omega) (by omega))
      rw [m1] at D E
      have C := Lib.hid (CL.out (2 * i + 2) (2 * i + 1) (by omega) (by omega) wr HZ.out)
      rw [m1, m2, hb] at C
      cases hc : qLess ps L1 (2 * i + 1) i
      · rw [hc] at D
        go_wp2_with (first | (go_at_call 149; (with_reducible refine C.out.mono ?_); rintro e W1 ⟨rfl, bb⟩; have B1 := Lib.hid bb; clear bb C) | (go_at_call 149; (with_reducible refine (D.out _ B1.out).mono ?_); rintro e W2 ⟨rfl, bb⟩; have B2 := Lib.hid (B1.out.trans (bb.mono B1.out.size)); clear bb))
        go_ret
        exact ⟨⟨_, rfl⟩, L1, HR.out.1, HR.out.2.1.below B2.out, HR.out.2.2.trans (QSt.of_below B2.out)⟩
      · rw [hc] at D
        go_wp2_with (first | (go_at_call 149; (with_reducible refine C.out.mono ?_); rintro e W1 ⟨rfl, bb⟩; have B1 := Lib.hid bb; clear bb C) | (go_at_call 149; (with_reducible refine (D.out _ B1.out).mono ?_); rintro e W2 ⟨rfl, bb⟩; have B2 := Lib.hid (B1.out.trans (bb.mono B1.out.size)); clear bb; have ms := fun n => me_swap qb n W2 pl (HR.out.2.1.below B2.out).c0) | (go_at_call 152; (with_reducible refine (E.out _ B2.out).mono ?_); rintro e W3 ⟨⟨u, rfl⟩, qa, qs⟩; have Q := Lib.hid (And.intro qa qs); clear qa qs))
        exact ⟨⟨2 * i + 1, swapL L1 i (2 * i + 1), by go_num, by omega, (swapL_perm L1 i (2 * i + 1) (by rw [hl1.out]; omega) (by rw [hl1.out]; omega)).trans HR.out.1, Q.out.1, Q.out.2⟩, by simp [intOf]; omega⟩
    · have D := Lib.hid (CL.out (2 * i + 2) i (by omega) (by omega))
      have E := Lib.hid (CS.out i (2 * i + 2) (by omega) (by omega))
      rw [m2] at D E
      have C := Lib.hid (CL.out (2 * i + 2) (2 * i + 1) (by omega) (by omega) wr HZ.out)
      rw [m1, m2, hb] at C
      cases hc : qLess ps L1 (2 * i + 2) i
      · rw [hc] at D
        go_wp2_with (first | (go_at_call 149; (with_reducible refine C.out.mono ?_); rintro e W1 ⟨rfl, bb⟩; have B1 := Lib.hid bb; clear bb C) | (go_at_call 149; (with_reducible refine (D.out _ B1.out).mono ?_); rintro e W2 ⟨rfl, bb⟩; have B2 := Lib.hid (B1.out.trans (bb.mono B1.out.size)); clear bb))
        go_ret
        exact ⟨⟨_, rfl⟩, L1, HR.out.1, HR.out.2.1.below B2.out, HR.out.2.2.trans (QSt.of_below B2.out)⟩
      · rw [hc] at D
        go_wp2_with (first | (go_at_call 149; (with_reducible refine C.out.mono ?_); rintro e W1 ⟨rfl, bb⟩; have B1 := Lib.hid bb; clear bb C) | (go_at_call 149; (with_reducible refine (D.out _ B1.out).mono ?_); rintro e W2 ⟨rfl, bb⟩; have B2 := Lib.hid (B1.out.trans (bb.mono B1.out.size)); clear bb; have ms := fun n => me_swap qb n W2 pl (HR.out.2.1.below B2.out).c0) | (go_at_call 152; (with_reducible refine (E.out _ B2.out).mono ?_); rintro e W3 ⟨⟨u, rfl⟩, qa, qs⟩; have Q := Lib.hid (And.intro qa qs); clear qa qs))
        exact ⟨⟨2 * i + 2, swapL L1 i (2 * i + 2), by go_num, by omega, (swapL_perm L1 i (2 * i + 2) (by rw [hl1.out]; omega) (by rw [hl1.out]; omega)).trans HR.out.1, Q.out.1, Q.out.2⟩, by simp [intOf]; omega⟩
end Go.Proofs.YtaekdgikgbdnnaaGreat
namespace Go.Proofs.YtaekdgikgbdnnaaGreat
open Go.RowKit

theorem slice_len {B e n : Nat} {w : World} {pl : Value} {xs : List Value} (h : w.ownsRow B e 1 pl n xs) : ∃ ao cap, pl = .slice ao n cap := by
  obtain ⟨ao, cap, he, _⟩ := (SlAt.of_own h).shape
  exact ⟨ao, cap, he⟩
theorem last_split {L : List Int} {m : Nat} (h : L.length = m + 1) : ∃ L' x, L = L' ++ [x] ∧ L'.length = m := by
  have hne : L ≠ [] := fun e => by rw [e] at h; simp at h
  exact ⟨L.dropLast, L.getLast hne, (List.dropLast_concat_getLast hne).symm, by rw [List.length_dropLast, h]; omega⟩
set_option maxRecDepth 100000 in
set_option maxHeartbeats 1600000 in
theorem hpush_c (qb mb B : Nat) (pl vp : Value) (L : List Int) (ps : List PL) (i : Int) (w : World) (h : QAt w qb mb B pl vp L) (hp : Kept qb w pl (fun W => PsAt W vp ps)) (hps : ∀ p ∈ ps, p.vs.length ≤ 4096) (hpl : ps.length ≤ 4096) (hin : InPs (L ++ [i]) ps) (hl : L.length ≤ 4096) (hB : B ≤ w.heap.size) :
    Calls Tryz.prog 87 #[.iface 99 (.pointer (some ⟨qb, 0, none⟩)), .iface 3 (.int .i64 i)] w
      fun e w' => (∃ u, e = .returned u) ∧ ∃ pl' L', L'.Perm (L ++ [i]) ∧ QAt w' qb mb B pl' vp L' ∧ QSt qb w pl w' pl' := by
  have HP := Lib.hid hp
  have HI := Lib.hid hin
  have HS := Lib.hid hps
  have CP := Lib.hid (qpush_c qb mb B pl vp L i w h hl hB)
  have ml := fun n W => me_push qb n W
  obtain ⟨M, hM⟩ : ∃ M, M = L ++ [i] := ⟨_, rfl⟩
  have hML : Hid (M.length = L.length + 1) := by show _ = _; rw [hM]; simp
  rw [← hM] at CP HI ⊢
  clear hp hin hps h hM hB
  go_enter Tryz.func87, Tryz.ntmps87
  go_wp2_with (first
    | (go_at_call 151; (with_reducible refine CP.out.mono ?_); rintro e W1 ⟨⟨u, rfl⟩, pl1, q1, s1⟩; have Q1 := Lib.hid q1; have S1 := Lib.hid s1; clear q1 s1; obtain ⟨ao, cap, rfl⟩ := slice_len Q1.out.own; rw [hML.out] at Q1 S1; have m1 := fun n => me_len qb n W1 _ Q1.out.c0)
    | (go_at_call 64; (with_reducible refine (qlen_c _ _ _ _).mono ?_); rintro e W2 ⟨rfl, rfl⟩; have CU := Lib.hid (qup_c qb mb B _ vp M ps L.length W1 Q1.out (HP.out.on S1.out) HS.out hpl HI.out (by rw [hML.out]; omega) (by rw [hML.out]; omega)))
    | (go_at_call 102; (with_reducible refine CU.out.mono ?_); rintro e W3 ⟨⟨u3, rfl⟩, L3, p3, q3, s3⟩; have Q3 := Lib.hid q3; have S3 := Lib.hid s3; have P3 := Lib.hid p3; clear q3 s3 p3))
  go_end0
  exact ⟨⟨_, rfl⟩, _, L3, P3.out, Q3.out, S1.out.trans S3.out⟩

set_option maxRecDepth 100000 in
set_option maxHeartbeats 1600000 in
theorem hpop_c (qb mb B : Nat) (pl vp : Value) (L : List Int) (ps : List PL) (m : Nat) (w : World) (h : QAt w qb mb B pl vp L) (hp : Kept qb w pl (fun W => PsAt W vp ps)) (hps : ∀ p ∈ ps, p.vs.length ≤ 4096) (hpl : ps.length ≤ 4096) (hin : InPs L ps) (hm : L.length = m + 1) (hl : m ≤ 4095) :
    Calls Tryz.prog 89 #[.iface 99 (.pointer (some ⟨qb, 0, none⟩))] w
      fun e w' => ∃ x, e = .returned (.iface 3 (.int .i64 x)) ∧ ∃ pl' L', (x :: L').Perm L ∧ QAt w' qb mb B pl' vp L' ∧ QSt qb w pl w' pl' := by
  have H := Lib.hid h
  have HP := Lib.hid hp
  have HI := Lib.hid hin
  have HS := Lib.hid hps
  have HM := Lib.hid hm
  have ml := fun n W => me_pop qb n W
  have m1 := fun n => me_len qb n w _ h.c0
  have m2 := fun n => me_swap qb n w _ h.c0
  have z0 : ((0 : Nat) : Int) = 0 := rfl
  have CS := Lib.hid (qswap_c B pl L 0 m w h.own (by omega) (by omega) (by omega))
  rw [z0] at CS
  obtain ⟨ao, cap, rfl⟩ := slice_len h.own
  rw [hm] at m1 m2
  clear h hp hin hps hm
  go_enter Tryz.func89, Tryz.ntmps89
  go_wp2_with (first
    | (go_at_call 64; (with_reducible refine (qlen_c _ _ _ _).mono ?_); rintro e W2 ⟨rfl, rfl⟩; rw [HM.out] at CS)
    | (go_at_call 152; (with_reducible refine CS.out.mono ?_); rintro e W2 ⟨⟨u, rfl⟩, bo, bs⟩; have Q1 := Lib.hid (H.out.swapped (by rw [HM.out]; omega) (by rw [HM.out]; exact bo) (by rw [HM.out]; exact bs)); clear bo bs; have P1 := Lib.hid (swapL_perm L 0 m (by rw [HM.out]; omega) (by rw [HM.out]; omega)); have CD := Lib.hid (qdown_c qb mb B _ vp (swapL L 0 m) ps 0 m W2 Q1.out.1 (HP.out.on Q1.out.2) HS.out hpl (HI.out.perm P1.out) (by omega) (by rw [swapL_len, HM.out]; omega) (by rw [swapL_len, HM.out]; omega)); rw [z0] at CD)
    | (go_at_call 103; (with_reducible refine CD.out.mono ?_); rintro e W3 ⟨⟨u3, rfl⟩, L3, p3, q3, s3⟩; have S3 := Lib.hid s3; obtain ⟨L4, x, rfl, h4⟩ := last_split ((p3.trans P1.out).length_eq.trans HM.out); have P3 := Lib.hid (p3.trans P1.out); have CQ := Lib.hid (qpop_c qb mb B _ vp L4 x W3 q3 (by omega)); clear q3 s3 p3 h4)    | (go_at_call 150; (with_reducible refine CQ.out.mono ?_); rintro e W4 ⟨rfl, pl5, q5, s5⟩; have Q5 := Lib.hid q5; have S5 := Lib.hid s5; clear q5 s5))
  go_ret
  exact ⟨x, rfl, pl5, L4, (List.perm_append_comm (l₁ := [x]) (l₂ := L4)).trans P3.out, Q5.out, (Q1.out.2.trans S3.out).trans S5.out⟩
end Go.Proofs.YtaekdgikgbdnnaaGreat
namespace Go.Proofs.YtaekdgikgbdnnaaGreat
open Go.RowKit

/-- as QSt, and the map's block -/
structure QSm (qb mb : Nat) (w : World) (pl : Value) (w' : World) (pl' : Value) : Prop where
  b0 : Below 0 w w'
  blk : ∀ b, b < w.heap.size → b ≠ qb → b ≠ mb → pl.ownBlock ≠ some b → w'.heap[b]? = w.heap[b]?
  row : ∀ b, pl'.ownBlock = some b → pl.ownBlock = some b ∨ w.heap.size ≤ b
theorem QSm.refl (qb mb : Nat) (w : World) (pl : Value) : QSm qb mb w pl w pl := ⟨Below.refl _ _, fun _ _ _ _ _ => rfl, fun _ h => .inl h⟩
theorem QSm.trans {qb mb : Nat} {w1 w2 w3 : World} {p1 p2 p3 : Value} (h : QSm qb mb w1 p1 w2 p2) (g : QSm qb mb w2 p2 w3 p3) : QSm qb mb w1 p1 w3 p3 where
  b0 := h.b0.trans g.b0
  blk := fun b hb hq hm hp => by
    refine (g.blk b (Nat.lt_of_lt_of_le hb h.b0.size) hq hm (fun e => ?_)).trans (h.blk b hb hq hm hp)
    rcases h.row b e with h1 | h1
    · exact hp h1
    · omega
  row := fun b hb => by
    rcases g.row b hb with h1 | h1
    · exact h.row b h1
    · exact .inr (Nat.le_trans h.b0.size h1)
theorem QSt.toM {qb mb : Nat} {w w' : World} {pl pl' : Value} (h : QSt qb w pl w' pl') : QSm qb mb w pl w' pl' := ⟨h.b0, fun b h1 h2 _ h3 => h.blk b h1 h2 h3, h.row⟩
theorem QSm.of_grown {qb mb : Nat} {w w' : World} {pl : Value} (h : w.grownBy w' (some mb)) : QSm qb mb w pl w' pl := ⟨⟨h.os, h.tape, h.output, h.size, fun k hk => absurd hk (Nat.not_lt_zero _)⟩, fun b hb _ hm _ => h.block b hb (fun e => hm (by injection e)), fun _ h => .inl h⟩
theorem QSm.below {qb mb B : Nat} {w w' : World} {pl pl' : Value} (h : QSm qb mb w pl w' pl') (hq : B ≤ qb) (hm : B ≤ mb) (hp : ∀ b, pl.ownBlock = some b → B ≤ b) (hB : B ≤ w.heap.size) : Below B w w' :=
  ⟨h.b0.os, h.b0.tape, h.b0.output, h.b0.size, fun k hk => h.blk k (by omega) (by omega) (by omega) (fun e => by have := hp k e; omega)⟩
/-- what holds in each world that wait and next come to -/
def KeptM (qb mb : Nat) (w : World) (pl : Value) (P : World → Prop) : Prop := ∀ w' pl', QSm qb mb w pl w' pl' → P w'
theorem KeptM.here {qb mb : Nat} {w : World} {pl : Value} {P : World → Prop} (h : KeptM qb mb w pl P) : P w := h w pl (QSm.refl _ _ _ _)
theorem KeptM.on {qb mb : Nat} {w w' : World} {pl pl' : Value} {P : World → Prop} (h : KeptM qb mb w pl P) (g : QSm qb mb w pl w' pl') : KeptM qb mb w' pl' P := fun _ _ q => h _ _ (g.trans q)
theorem KeptM.st {qb mb : Nat} {w : World} {pl : Value} {P : World → Prop} (h : KeptM qb mb w pl P) : Kept qb w pl P := fun _ _ q => h _ _ q.toM

theorem own_apart {w : World} {B e size n : Nat} {v : Value} {xs : List Value} (h : w.ownsRow B e size v n xs) {b : Nat} (hb : b < B) : v.ownBlock ≠ some b := by
  rcases h.2 with ⟨rfl, _⟩ | ⟨g, cap, cur, rfl, hg, hgg, rest⟩
  · simp [Value.ownBlock]
  · intro e
    simp [Value.ownBlock] at e
    omega
theorem own_grown {w w' : World} {B e size n mb : Nat} {v : Value} {xs : List Value} (h : w.ownsRow B e size v n xs) (hb : w.grownBy w' (some mb)) (hm : mb < B) : w'.ownsRow B e size v n xs := by
  refine ⟨h.1, ?_⟩
  rcases h.2 with hn | ⟨g, cap, cur, rfl, hg, hgg, rest⟩
  · exact .inl hn
  · exact .inr ⟨g, cap, cur, rfl, hg, by rw [hb.block g (Array.getElem?_eq_some_iff.1 hgg).1 (fun e => by injection e with e; omega)]; exact hgg, rest⟩
theorem QAt.grown {w w' : World} {qb mb B : Nat} {pl vp : Value} {L : List Int} (h : QAt w qb mb B pl vp L) (hb : w.grownBy w' (some mb)) (hq : qb ≠ mb) : QAt w' qb mb B pl vp L :=
  have e := hb.block qb h.lt (fun e => hq (by injection e))
  ⟨(World.cell?_of_block (a := ⟨qb, 0, none⟩) e).trans h.c0, (World.cell?_of_block (a := ⟨qb, 1, none⟩) e).trans h.c1, (World.cell?_of_block (a := ⟨qb, 2, none⟩) e).trans h.c2, (World.frozen?_of_block (a := ⟨qb, 0, none⟩) e).trans h.f0, own_grown h.own hb h.lm, h.lq, h.lm⟩

/-- the queue and its map: the waiting places, each once -/
structure QF (w : World) (qb mb B : Nat) (pl vp : Value) (L : List Int) (n : Nat) : Prop where
  q : QAt w qb mb B pl vp L
  s : SetAt Tryz.prog 3 4 w mb n (fun i => decide (i ∈ L))
  nd : L.Nodup
  ne : qb ≠ mb

set_option maxRecDepth 100000 in
set_option maxHeartbeats 1600000 in
theorem wait_c (qb mb B : Nat) (pl vp : Value) (L : List Int) (ps : List PL) (i : Int) (n : Nat) (w : World) (h : QF w qb mb B pl vp L n) (hp : KeptM qb mb w pl (fun W => PsAt W vp ps)) (hps : ∀ p ∈ ps, p.vs.length ≤ 4096) (hpl : ps.length ≤ 4096) (hin : InPs L ps) (hi : 0 ≤ i ∧ i.toNat < ps.length) (hl : L.length ≤ 4096) (hn : n < maxLen) (hB : B ≤ w.heap.size) :
    Calls Tryz.prog 62 #[.pointer (some ⟨qb, 0, none⟩), .int .i64 i] w
      fun e w' => (∃ u, e = .returned u) ∧ ∃ pl' L', L'.Perm (if i ∈ L then L else L ++ [i]) ∧ QF w' qb mb B pl' vp L' (if i ∈ L then n else n + 1) ∧ QSm qb mb w pl w' pl' := by
  have H := Lib.hid h
  have HP := Lib.hid hp
  have HS := Lib.hid hps
  have c2 := h.q.c2
  by_cases hm : i ∈ L
  · rw [if_pos hm, if_pos hm]
    have hd : Hid (decide (i ∈ L) = true) := decide_eq_true hm
    clear h hp hps hm hn hin
    go_enter Tryz.func62, Tryz.ntmps62
    go_wp2_with (at_lookup; refine wpList_lookup_set _ rfl _ _ 100 rfl 3 4 Tryz.underlying3 Tryz.underlying100 Tryz.underlying4 (Tryz.zeroValue4 _) mb n _ rfl H.out.s i rfl (by omega) ?_; rw [hd.out])
    go_end0
    exact ⟨⟨_, rfl⟩, pl, L, List.Perm.refl _, H.out, QSm.refl _ _ _ _⟩
  · rw [if_neg hm, if_neg hm]
    have hd : Hid (decide (i ∈ L) = false) := decide_eq_false hm
    have HM := Lib.hid hm
    have HI : Hid (InPs (L ++ [i]) ps) := fun k hk => by
      rcases List.mem_append.mp hk with h1 | h1
      · exact hin k h1
      · rw [List.mem_singleton.mp h1]; exact hi
    have HN := Lib.hid hn
    clear h hp hps hm hin hn
    go_enter Tryz.func62, Tryz.ntmps62
    go_wp2_with (first
      | (at_lookup; refine wpList_lookup_set _ rfl _ _ 100 rfl 3 4 Tryz.underlying3 Tryz.underlying100 Tryz.underlying4 (Tryz.zeroValue4 _) mb n _ rfl H.out.s i rfl (by omega) ?_; rw [hd.out])
      | (at_mapUpdate; refine wpList_mapUpdate_set _ rfl _ _ _ 100 rfl 3 4 Tryz.underlying3 Tryz.underlying100 Tryz.underlying4 mb n _ rfl H.out.s HN.out i rfl (by omega) true rfl ?_; intro w5 hs5 hg5; have S5 := Lib.hid hs5; have G5 := Lib.hid hg5; have CH := Lib.hid (hpush_c qb mb B pl vp L ps i w5 (H.out.q.grown hg5 H.out.ne) (HP.out.on (QSm.of_grown hg5)).st HS.out hpl HI.out hl (Nat.le_trans hB hg5.size)); clear hs5 hg5)
      | (go_at_call 87; (with_reducible refine CH.out.mono ?_); rintro e W1 ⟨⟨u, rfl⟩, pl1, L1, p1, q1, s1⟩; have Q1 := Lib.hid q1; have S1 := Lib.hid s1; have P1 := Lib.hid p1; clear q1 s1 p1))
    go_end0
    refine ⟨⟨_, rfl⟩, pl1, L1, P1.out, ⟨Q1.out, ?_, ?_, H.out.ne⟩, (QSm.of_grown G5.out).trans S1.out.toM⟩
    · have hb := S1.out.blk mb S5.out.lt (Ne.symm H.out.ne) (own_apart H.out.q.own H.out.q.lm)
      refine (S5.out.block hb).congr (fun j => ?_)
      have hmem : j ∈ L1 ↔ j ∈ L ∨ j = i := by rw [P1.out.mem_iff]; simp
      by_cases e : j = i
      · subst e; simp [hmem]
      · simp [hmem, e]
    · rw [P1.out.nodup_iff]
      exact List.nodup_append.mpr ⟨H.out.nd, by simp, fun a ha b hb => by rw [List.mem_singleton.mp hb]; exact fun e => HM.out (e ▸ ha)⟩

set_option maxRecDepth 100000 in
set_option maxHeartbeats 1600000 in
theorem next_c (qb mb B : Nat) (pl vp : Value) (L : List Int) (ps : List PL) (m n : Nat) (w : World) (h : QF w qb mb B pl vp L n) (hp : KeptM qb mb w pl (fun W => PsAt W vp ps)) (hps : ∀ p ∈ ps, p.vs.length ≤ 4096) (hpl : ps.length ≤ 4096) (hin : InPs L ps) (hm : L.length = m + 1) (hl : m ≤ 4095) :
    Calls Tryz.prog 65 #[.pointer (some ⟨qb, 0, none⟩)] w
      fun e w' => ∃ x, e = .returned (.int .i64 x) ∧ ∃ pl' L', (x :: L').Perm L ∧ QF w' qb mb B pl' vp L' n ∧ QSm qb mb w pl w' pl' := by
  have H := Lib.hid h
  have HI := Lib.hid hin
  have CP := Lib.hid (hpop_c qb mb B pl vp L ps m w h.q hp.st hps hpl hin hm hl)
  clear h hp hps hin hm
  go_enter Tryz.func65, Tryz.ntmps65
  go_wp2_with (first
    | (go_at_call 89; (with_reducible refine CP.out.mono ?_); rintro e W1 ⟨x, rfl, pl1, L1, p1, q1, s1⟩; have c2 := q1.c2; have Q1 := Lib.hid q1; have S1 := Lib.hid s1; have P1 := Lib.hid p1; have hx := HI.out x (p1.mem_iff.mp List.mem_cons_self); have T1 := Lib.hid (H.out.s.block (s1.blk mb H.out.s.lt (Ne.symm H.out.ne) (own_apart H.out.q.own H.out.q.lm))); clear q1 s1 p1)
    | (at_delete; refine wpList_delete_set _ rfl _ _ 100 3 rfl 4 Tryz.underlying3 Tryz.underlying100 mb n _ rfl T1.out x rfl (by omega) ?_; intro w5 hs5 hg5; have S5 := Lib.hid hs5; have G5 := Lib.hid hg5; clear hs5 hg5))
  go_ret
  have nd := P1.out.nodup_iff.mpr H.out.nd
  rw [List.nodup_cons] at nd
  refine ⟨x, rfl, pl1, L1, P1.out, ⟨Q1.out.grown G5.out H.out.ne, S5.out.congr (fun j => ?_), nd.2, H.out.ne⟩, S1.out.toM.trans (QSm.of_grown G5.out)⟩
  have hmem : j ∈ L ↔ j = x ∨ j ∈ L1 := by rw [← P1.out.mem_iff]; simp
  by_cases e : j = x
  · subst e; simp [nd.1]
  · simp [hmem, e]
end Go.Proofs.YtaekdgikgbdnnaaGreat
namespace Go.Proofs.YtaekdgikgbdnnaaGreat
open Go.RowKit

/-- block ub: n rows of integers, in blocks apart from one another -/
structure UsAt (w : World) (ub B n : Nat) (vals : Nat → Value) (us : Nat → List Int) : Prop where
  cell : ∀ v, v < n → w.cell? ⟨ub, v, none⟩ = some (vals v)
  fz : ∀ v, v < n → w.frozen? ⟨ub, v, none⟩ = false
  own : ∀ v, v < n → w.ownsRow B 3 1 (vals v) (us v).length ((us v).map (Value.int .i64))
  ap : ∀ u v b, u < n → v < n → u ≠ v → (vals u).ownBlock = some b → (vals v).ownBlock ≠ some b
  lu : ub < B
theorem own_lt {w : World} {B e size n : Nat} {v : Value} {xs : List Value} (h : w.ownsRow B e size v n xs) {b : Nat} (hb : v.ownBlock = some b) : b < w.heap.size ∧ B ≤ b := by
  rcases h.2 with ⟨rfl, _⟩ | ⟨g, cap, cur, rfl, hg, hgg, rest⟩
  · simp [Value.ownBlock] at hb
  · simp [Value.ownBlock] at hb
    subst hb
    exact ⟨(Array.getElem?_eq_some_iff.1 hgg).1, hg⟩
theorem own_block {w w' : World} {B e size n : Nat} {v : Value} {xs : List Value} (h : w.ownsRow B e size v n xs) (hb : ∀ b, v.ownBlock = some b → w'.heap[b]? = w.heap[b]?) : w'.ownsRow B e size v n xs := by
  refine ⟨h.1, ?_⟩
  rcases h.2 with hn | ⟨g, cap, cur, rfl, hg, hgg, rest⟩
  · exact .inl hn
  · exact .inr ⟨g, cap, cur, rfl, hg, by rw [hb g rfl]; exact hgg, rest⟩
theorem UsAt.frame {w w' : World} {ub B n : Nat} {vals : Nat → Value} {us : Nat → List Int} (h : UsAt w ub B n vals us) (hu : w'.heap[ub]? = w.heap[ub]?) (hb : ∀ v b, v < n → (vals v).ownBlock = some b → w'.heap[b]? = w.heap[b]?) : UsAt w' ub B n vals us :=
  ⟨fun v hv => (World.cell?_of_block (a := ⟨ub, v, none⟩) hu).trans (h.cell v hv), fun v hv => (World.frozen?_of_block (a := ⟨ub, v, none⟩) hu).trans (h.fz v hv), fun v hv => own_block (h.own v hv) (fun b => hb v b hv), h.ap, h.lu⟩
theorem UsAt.below {w w' : World} {ub B n : Nat} {vals : Nat → Value} {us : Nat → List Int} (h : UsAt w ub B n vals us) (hl : ub < w.heap.size) (hb : Below w.heap.size w w') : UsAt w' ub B n vals us :=
  h.frame (hb.block ub hl) (fun v b hv e => hb.block b (own_lt (h.own v hv) e).1)
/-- apart from the queue's row -/
def UsAp (n : Nat) (vals : Nat → Value) (pl : Value) : Prop := ∀ v b, v < n → (vals v).ownBlock = some b → pl.ownBlock ≠ some b
theorem UsAt.turn {w w' : World} {ub B n qb mb : Nat} {vals : Nat → Value} {us : Nat → List Int} {pl pl' : Value} (h : UsAt w ub B n vals us) (hl : ub < w.heap.size) (hs : QSm qb mb w pl w' pl') (hq : ub ≠ qb) (hm : ub ≠ mb) (hqB : qb < B) (hmB : mb < B) (hp : pl.ownBlock ≠ some ub) (ha : UsAp n vals pl) : UsAt w' ub B n vals us ∧ UsAp n vals pl' := by
  refine ⟨h.frame (hs.blk ub hl hq hm hp) (fun v b hv e => ?_), fun v b hv e e' => ?_⟩
  · have := own_lt (h.own v hv) e
    exact hs.blk b this.1 (by omega) (by omega) (ha v b hv e)
  · rcases hs.row b e' with h1 | h1
    · exact ha v b hv e h1
    · have := own_lt (h.own v hv) e
      omega
/-- row v grown by one, its new value stored -/
theorem UsAt.push {w w1 : World} {ub B n : Nat} {vals : Nat → Value} {us : Nat → List Int} (h : UsAt w ub B n vals us) (_hB : B ≤ w.heap.size) {v : Nat} (hv : v < n) {i : Int} {r : Value} {k : Nat} (hk : k = (us v).length + 1) (ow : w1.ownsRow B 3 1 r k ((us v ++ [i]).map (Value.int .i64))) (bw : Below B w w1)
    (kw : ∀ b, b < w.heap.size → (vals v).ownBlock ≠ some b → w1.heap[b]? = w.heap[b]?) (aw : ∀ b, r.ownBlock = some b → (vals v).ownBlock = some b ∨ w.heap.size ≤ b) :
    UsAt (w1.setCell ⟨ub, v, none⟩ r) ub B n (fun u => if u = v then r else vals u) (fun u => if u = v then us v ++ [i] else us u) where
  cell := fun u hu => by
    have hub := bw.block ub h.lu
    by_cases e : u = v
    · subst e
      rw [if_pos rfl]
      exact World.cell?_setCell_same _ _ _ ((World.cell?_of_block (a := ⟨ub, u, none⟩) hub).trans (h.cell u hu))
    · rw [if_neg e, World.cell?_setCell_other _ _ _ _ (fun he => e (by injection he with _ h2 _; exact h2.symm))]
      exact (World.cell?_of_block (a := ⟨ub, u, none⟩) hub).trans (h.cell u hu)
  fz := fun u hu => by
    rw [World.frozen?_setCell]
    exact (World.frozen?_of_block (a := ⟨ub, u, none⟩) (bw.block ub h.lu)).trans (h.fz u hu)
  own := fun u hu => by
    by_cases e : u = v
    · subst e
      rw [if_pos rfl, if_pos rfl, List.length_append, List.length_singleton, ← hk]
      exact own_setCell ow h.lu _
    · rw [if_neg e, if_neg e]
      exact own_setCell (own_block (h.own u hu) (fun b hb => kw b (own_lt (h.own u hu) hb).1 (h.ap u v b hu hv e hb))) h.lu _
  ap := fun u1 u2 b h1 h2 hne e => by
    by_cases e1 : u1 = v
    · rw [if_pos e1] at e
      have e2 : ¬ u2 = v := fun e2 => hne (e1.trans e2.symm)
      rw [if_neg e2]
      rcases aw b e with hb | hb
      · exact h.ap v u2 b hv h2 (fun e => e2 e.symm) hb
      · exact fun e' => by have := own_lt (h.own u2 h2) e'; omega
    · rw [if_neg e1] at e
      by_cases e2 : u2 = v
      · rw [if_pos e2]
        intro e'
        rcases aw b e' with hb | hb
        · exact h.ap u1 v b h1 hv (fun x => e1 x) e hb
        · have := own_lt (h.own u1 h1) e; omega
      · rw [if_neg e2]
        exact h.ap u1 u2 b h1 h2 hne e
  lu := h.lu
theorem UsAp.push {w : World} {ub B n : Nat} {vals : Nat → Value} {us : Nat → List Int} (_h : UsAt w ub B n vals us) {pl : Value} (hp : ∀ b, pl.ownBlock = some b → b < w.heap.size) (ha : UsAp n vals pl) {v : Nat} (hv : v < n) {r : Value} (aw : ∀ b, r.ownBlock = some b → (vals v).ownBlock = some b ∨ w.heap.size ≤ b) : UsAp n (fun u => if u = v then r else vals u) pl := by
  intro u b hu e e'
  dsimp only at e
  by_cases e1 : u = v
  · rw [if_pos e1] at e
    rcases aw b e with hb | hb
    · exact ha v b hv hb e'
    · have := hp b e'; omega
  · rw [if_neg e1] at e
    exact ha u b hu e e'
theorem QF.frame {w w' : World} {qb mb B : Nat} {pl vp : Value} {L : List Int} {n : Nat} (h : QF w qb mb B pl vp L n) (hq : w'.heap[qb]? = w.heap[qb]?) (hm : w'.heap[mb]? = w.heap[mb]?) (hp : ∀ b, pl.ownBlock = some b → w'.heap[b]? = w.heap[b]?) : QF w' qb mb B pl vp L n :=
  ⟨⟨(World.cell?_of_block (a := ⟨qb, 0, none⟩) hq).trans h.q.c0, (World.cell?_of_block (a := ⟨qb, 1, none⟩) hq).trans h.q.c1, (World.cell?_of_block (a := ⟨qb, 2, none⟩) hq).trans h.q.c2, (World.frozen?_of_block (a := ⟨qb, 0, none⟩) hq).trans h.q.f0, own_block h.q.own hp, h.q.lq, h.q.lm⟩, h.s.block hm, h.nd, h.ne⟩
theorem QF.below {w w' : World} {qb mb B : Nat} {pl vp : Value} {L : List Int} {n : Nat} (h : QF w qb mb B pl vp L n) (hb : Below w.heap.size w w') : QF w' qb mb B pl vp L n :=
  h.frame (hb.block qb h.q.lt) (hb.block mb h.s.lt) (fun b e => hb.block b (own_lt h.q.own e).1)
end Go.Proofs.YtaekdgikgbdnnaaGreat
namespace Go.Proofs.YtaekdgikgbdnnaaGreat

theorem mem_uniq {acc : List Int} {v x : Int} : x ∈ uniq acc v ↔ x ∈ acc ∨ x = v := by
  unfold uniq
  by_cases h : v ∈ acc
  · rw [if_pos (by simpa using h)]
    exact ⟨.inl, fun h' => h'.elim id (fun e => e ▸ h)⟩
  · rw [if_neg (by simpa using h)]; simp
theorem mem_uniqL {l : List Int} {x : Int} : x ∈ uniqL l ↔ x ∈ l := by
  suffices h : ∀ (l acc : List Int), x ∈ l.foldl uniq acc ↔ x ∈ acc ∨ x ∈ l by simpa [uniqL] using h l []
  intro l
  induction l with
  | nil => simp
  | cons v l ih => intro acc; rw [List.foldl_cons, ih, mem_uniq, List.mem_cons, or_assoc]
/-- places, each once -/
theorem len_places : ∀ (P : Nat) (L : List Int), L.Nodup → (∀ i ∈ L, 0 ≤ i ∧ i.toNat < P) → L.length ≤ P
  | 0, [], _, _ => Nat.le_refl _
  | 0, x :: L, _, h => by have := h x List.mem_cons_self; omega
  | P + 1, L, hn, h => by
    by_cases hm : (P : Int) ∈ L
    · have h1 := len_places P (L.erase P) (hn.erase _) (fun i hi => by
        have h2 := (hn.mem_erase_iff).1 hi
        have h3 := h i h2.2
        have : i ≠ P := h2.1
        omega)
      rw [List.length_erase_of_mem hm] at h1
      omega
    · have h1 := len_places P L hn (fun i hi => by
        have h3 := h i hi
        have : i ≠ P := fun e => hm (e ▸ hi)
        omega)
      omega
/-- the constraints that wait not say nothing new -/
def Rest (ps : List PL) (now : Ds) (L : List Int) : Prop := ∀ k, (hk : k < ps.length) → (k : Int) ∉ L → onceP ps[k] now = some now
/-- which of the first m constraints name a variable -/
structure UsOk (ps : List PL) (m : Nat) (us : Nat → List Int) : Prop where
  all : ∀ k, (hk : k < ps.length) → k < m → ∀ v ∈ ps[k].all, (k : Int) ∈ us v.toNat
  ins : ∀ v, InPs (us v) ps
/-- of the first t of the changed variables each constraint that names one waits -/
structure Woken (ps : List PL) (now d : Ds) (vs L1 L2 : List Int) (t : Nat) : Prop where
  ins : InPs L2 ps
  nd : L2.Nodup
  sub : ∀ k ∈ L1, k ∈ L2
  all : ∀ j, j < t → ∀ v, vs[j]? = some v → domOf d v ≠ domOf now v → ∀ k, (hk : k < ps.length) → v ∈ ps[k].all → (k : Int) ∈ L2
  same : (∀ j, j < t → ∀ v, vs[j]? = some v → domOf d v = domOf now v) → L2.length = L1.length
theorem Woken.start {ps : List PL} {now d : Ds} {vs L1 : List Int} (h : InPs L1 ps) (hn : L1.Nodup) : Woken ps now d vs L1 L1 0 := ⟨h, hn, fun _ h => h, fun _ hj => absurd hj (Nat.not_lt_zero _), fun _ => rfl⟩
theorem Woken.skip {ps : List PL} {now d : Ds} {vs L1 L2 : List Int} {t : Nat} {v : Int} (h : Woken ps now d vs L1 L2 t) (hv : vs[t]? = some v) (e : domOf d v = domOf now v) : Woken ps now d vs L1 L2 (t + 1) :=
  ⟨h.ins, h.nd, h.sub, fun j hj u hu hne => by
    by_cases hjt : j < t
    · exact h.all j hjt u hu hne
    · obtain rfl : j = t := by omega
      rw [hv] at hu; injection hu with hu; subst hu
      exact absurd e hne, fun hs => h.same (fun j hj => hs j (by omega))⟩
theorem Woken.more {ps : List PL} {now d : Ds} {vs L1 L2 L3 : List Int} {t : Nat} {v : Int} {us : Nat → List Int} (h : Woken ps now d vs L1 L2 t) (hv : vs[t]? = some v) (hne : domOf d v ≠ domOf now v) (hu : UsOk ps ps.length us) (h3 : InPs L3 ps) (hn : L3.Nodup) (hs : ∀ k ∈ L2, k ∈ L3) (ha : ∀ k ∈ us v.toNat, k ∈ L3) : Woken ps now d vs L1 L3 (t + 1) :=
  ⟨h3, hn, fun k hk => hs k (h.sub k hk), fun j hj u hu' hne' k hk hm => by
    by_cases hjt : j < t
    · exact hs _ (h.all j hjt u hu' hne' k hk hm)
    · obtain rfl : j = t := by omega
      rw [hv] at hu'; injection hu' with hu'; subst hu'
      exact ha _ (hu.all k hk hk v hm), fun hs => absurd (hs t (Nat.lt_succ_self t) v hv) hne⟩
/-- the round's end: what rests yet, and that there is less to do -/
theorem woken_end {ps : List PL} {now d : Ds} {x : Nat} {L L1 L2 : List Int} (hg : ∀ p ∈ ps, p.Good now.length) (hn : AllN now) (hx : x < ps.length) (ho : onceP ps[x] now = some d) (hp : ((x : Int) :: L1).Perm L) (hr : Rest ps now L) (hw : Woken ps now d (uniqL ps[x].all) L1 L2 (uniqL ps[x].all).length) :
    Rest ps d L2 ∧ tot d * (ps.length + 1) + L2.length < tot now * (ps.length + 1) + L.length := by
  have hL : L.length = L1.length + 1 := by have := hp.length_eq; simpa using this.symm
  have hgx : ps[x].Good now.length := hg _ (List.getElem_mem hx)
  have hin : ∀ v ∈ ps[x].all, ∃ j, j < (uniqL ps[x].all).length ∧ (uniqL ps[x].all)[j]? = some v := fun v hv => by
    obtain ⟨j, hj, e⟩ := List.mem_iff_getElem.1 (mem_uniqL.2 hv)
    exact ⟨j, hj, by rw [List.getElem?_eq_getElem hj, e]⟩
  constructor
  · intro k hk hkn
    by_cases e : k = x
    · subst e
      have hsame : ∀ v ∈ ps[k].all, domOf d v = domOf now v := fun v hv => Classical.byContradiction fun hne => by
        obtain ⟨j, hj, e⟩ := hin v hv
        exact hkn (hw.all j hj v e hne k hk hv)
      have hd := same_of hn hgx ho hsame
      rw [hd] at ho ⊢
      exact ho
    · have hkL : (k : Int) ∉ L := fun hm => by
        rcases List.mem_cons.1 (hp.mem_iff.2 hm) with h | h
        · omega
        · exact hkn (hw.sub _ h)
      refine stable_on hn hgx (hg _ (List.getElem_mem hk)) ho (hr k hk hkL) (fun v hv hvx => Classical.byContradiction fun hne => ?_)
      obtain ⟨j, hj, e⟩ := hin v hvx
      exact hkn (hw.all j hj v e hne k hk hv)
  · have h2 := len_places ps.length L2 hw.nd hw.ins
    obtain ⟨t1, t2⟩ := once_tot hn ho
    by_cases e : d = now
    · have := hw.same (fun j _ v _ => by rw [e])
      rw [e]; omega
    · have h3 := t2 e
      have h4 : (tot d + 1) * (ps.length + 1) ≤ tot now * (ps.length + 1) := Nat.mul_le_mul_right _ h3
      rw [Nat.add_mul] at h4
      omega
theorem rest_start {ps : List PL} {now : Ds} {L : List Int} (h : ∀ k, k < ps.length → (k : Int) ∈ L) : Rest ps now L := fun k hk hn => absurd (h k hk) hn
theorem rest_end {ps : List PL} {D now : Ds} (h : OnWay ps D now) (hr : Rest ps now []) : FixOf ps D (some now) := onWay_end h fun p hp => by
  obtain ⟨k, hk, rfl⟩ := List.mem_iff_getElem.1 hp
  exact hr k hk (by simp)
theorem allE_of {ds : Ds} (h : ∀ j, (hj : j < ds.length) → norm ds[j] ≠ []) : AllE (ds.map norm) := fun j hj => by
  rw [List.length_map] at hj
  rw [getD_map_norm, List.getD_eq_getElem?_getD, List.getElem?_eq_getElem hj]
  exact h j hj
end Go.Proofs.YtaekdgikgbdnnaaGreat
