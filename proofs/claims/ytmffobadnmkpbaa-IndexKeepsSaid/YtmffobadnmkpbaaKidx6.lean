/-
  coneyref08.occurs, walked.
  coneyref08.Unified: its frame.
  coneyref08.Unified, walked.
  coneyref08.New, (*Env).Unify, walked.
  coneylaw12.some, walked.
-/
import Derived.Test.YtmffobadnmkpbaaKidx5
import Derived.Test.YtmffobadnmkpbaaKtm3
import Derived.IntWalk
namespace Go.Proofs.Ytmffobadnmkpbaa
open Go.RowKit

theorem isAt_nil (w : World) : IsAt w (.slice none 0 0) [] := ⟨rfl, none, 0, rfl, Nat.le_refl _, by simp [maxLen], fun _ => rfl, fun h => by simp at h⟩
theorem metOk_nil : MetOk [] := ⟨List.nodup_nil, by simp⟩
set_option maxRecDepth 100000 in
set_option maxHeartbeats 1600000 in
theorem occurs_c (v : Value) (L : List (Int × Tm × Value)) (n : Int) (t : Tm) (a : Value) (w : World) (h : BsAt w v L) (hl : L.length ≤ 1000000) (hL : OkB L) (ht : TmAt (fun _ => True) w t a) (hv : t.vsOk) (hs : t.size ≤ 1000000) :
    Calls Try.prog 117 #[v, .int .i64 n, tmV t a] w fun e w' => ∃ b, e = .returned (.bool b) ∧ Below w.heap.size w w' := by
  obtain ⟨lo, lc, rfl, _⟩ := h.shape
  obtain ⟨ao, cc, rfl, _⟩ := ht.shape
  obtain ⟨V, hV⟩ : ∃ V, V = w.alloc (.cells #[.int .i64 t.kind, .int .i64 t.num, .string t.name, .slice ao t.args.length cc] 24) := ⟨_, rfl⟩
  have BV : Hid (Below w.heap.size w V) := by rw [hV]; exact (Below.refl _ _).alloc (Nat.le_refl _) _
  have XV : Hid (BoxL V w.heap.size [.int .i64 t.kind, .int .i64 t.num, .string t.name, .slice ao t.args.length cc]) := by rw [hV]; exact BoxL.mk' w #[.int .i64 t.kind, .int .i64 t.num, .string t.name, .slice ao t.args.length cc] 24
  have CR : Hid (Calls Try.prog 147 #[.slice lo L.length lc, .agg #[.int .i64 t.kind, .int .i64 t.num, .string t.name, .slice ao t.args.length cc], .slice none 0 0] V (RetMet [] V)) :=
    reach_all L _ hl hL vsOk_args _ t hv hs _ _ [] V (h.later BV.out) (ht.later BV.out) (isAt_nil V) metOk_nil (Nat.le_refl _)
  have HV := Lib.hid hV
  unfold tmV
  clear h ht hL hV
  go_enter Try.func117, Try.ntmps117
  go_upto_region 1 with fail
  rw [← HV.out]
  clear HV
  obtain ⟨x0, _⟩ := XV.out.get 0 rfl
  obtain ⟨x1, _⟩ := XV.out.get 1 rfl
  obtain ⟨x2, _⟩ := XV.out.get 2 rfl
  obtain ⟨x3, _⟩ := XV.out.get 3 rfl
  go_wp2_with (first | (go_at_call 147; ((with_reducible refine CR.out.mono ?_); rintro e W8 ⟨M8, a8, c8, rfl, i8, ok8, -, bb⟩; have I8 := Lib.hid i8; have K8 := Lib.hid ok8; have B8 := Lib.hid (BV.out.trans (bb.mono BV.out.size)); clear i8 ok8 bb)))
  have hm6 : M8.length ≤ 6000 := K8.out.len
  go_loopg [8] M8.length (fun m s wr => ∃ k : Nat, k ≤ M8.length ∧ s = .int .i64 k ∧ Hid (m = M8.length - k) ∧ Hid (Below w.heap.size w wr) ∧ Hid (Below W8.heap.size W8 wr))
  case atStart => exact ⟨0, by omega, rfl, rfl, B8, Below.refl _ _⟩
  case round =>
    obtain ⟨k, hk, rfl, HN, HW, HB⟩ := hrel
    by_cases hlt : k < M8.length
    · obtain ⟨b1, o1, rfl, q1, q2, hc1⟩ := IsAt.getR (I8.out.below HB.out) k hlt
      have j1 : (k : Int) < M8.length := by omega
      generalize M8[k] = p at *
      cases hpq : p == n with
      | true =>
        go_wp2
        go_ret
        exact ⟨_, rfl, HW.out⟩
      | false =>
        go_wp2
        go_roundg (M8.length - (k + 1))
        case measure => have := HN.out; omega
        case rel => exact ⟨k + 1, by omega, by go_num, rfl, HW, HB⟩
    · obtain rfl : k = M8.length := by omega
      go_wp2
      go_ret
      exact ⟨_, rfl, HW.out⟩
end Go.Proofs.Ytmffobadnmkpbaa
namespace Go.Proofs.Ytmffobadnmkpbaa
open Go.RowKit

/-- what Unified hands back -/
def RetUn (P : Prop) (k : Nat) (w : World) (e : Ending) (w' : World) : Prop := ∃ (L' : List (Int × Tm × Value)) (ao : Option Addr) (cap k' : Nat) (z : Int),
  e = .returned (.tuple #[.slice ao L'.length cap, .int .i64 k', .int .i64 z]) ∧ BsAt w' (.slice ao L'.length cap) L' ∧ OkB L' ∧ L'.length ≤ k' ∧ k < k' ∧ k' ≤ 2001 ∧ (z = 0 → k' ≤ 2000) ∧ (P → z ≠ 0) ∧ Below w.heap.size w w'
def SmT (t : Tm) : Prop := t.vsOk ∧ t.size ≤ 1000000
def UnC (k : Nat) : Prop := ∀ (L : List (Int × Tm × Value)) (v : Value) (a b : Tm) (av bv : Value) (w : World), BsAt w v L → L.length ≤ k → OkB L → TmAt (fun _ => True) w a av → TmAt (fun _ => True) w b bv → SmT a → SmT b →
  Calls Try.prog 89 #[v, tmV a av, tmV b bv, .int .i64 k] w (RetUn (Unl2 a b) k w)
theorem bsAt_nil (w : World) : BsAt w (.slice none 0 0) [] := ⟨⟨rfl, none, 0, rfl, Nat.le_refl _, by simp [maxLen], fun _ => rfl, fun h => by simp at h⟩, by simp⟩
/-- the two boxes of Unified -/
structure UnW (w wr : World) (a : Tm) (av : Value) (b : Tm) (bv : Value) : Prop where
  ba : BoxL wr w.heap.size (cells4b a av)
  bb : BoxL wr (w.heap.size + 1) (cells4b b bv)
  bel : Below w.heap.size w wr
  sz : w.heap.size + 2 ≤ wr.heap.size
theorem UnW.below {w wr wr' : World} {a b : Tm} {av bv : Value} (h : UnW w wr a av b bv) (hb : Below wr.heap.size wr wr') : UnW w wr' a av b bv := by
  have hs := h.sz
  exact ⟨h.ba.below hb (by omega), h.bb.below hb (by omega), h.bel.trans (hb.mono (by omega)), Nat.le_trans hs hb.size⟩
theorem UnW.puta {w wr : World} {a b a' : Tm} {av bv av' : Value} (h : UnW w wr a av b bv) : UnW w ((((wr.setCell ⟨w.heap.size, 0, none⟩ (.int .i64 a'.kind)).setCell ⟨w.heap.size, 1, none⟩ (.int .i64 a'.num)).setCell ⟨w.heap.size, 2, none⟩ (.string a'.name)).setCell ⟨w.heap.size, 3, none⟩ av') a' av' b bv :=
  ⟨box4set h.ba _ _ _ _, h.bb.block (heap_set4 _ _ _ _ _ _ (by omega)), below4 h.bel (Nat.le_refl _) _ _ _ _, by have := h.sz; simpa using this⟩
theorem UnW.putb {w wr : World} {a b b' : Tm} {av bv bv' : Value} (h : UnW w wr a av b bv) : UnW w ((((wr.setCell ⟨w.heap.size + 1, 0, none⟩ (.int .i64 b'.kind)).setCell ⟨w.heap.size + 1, 1, none⟩ (.int .i64 b'.num)).setCell ⟨w.heap.size + 1, 2, none⟩ (.string b'.name)).setCell ⟨w.heap.size + 1, 3, none⟩ bv') a av b' bv' :=
  ⟨h.ba.block (heap_set4 _ _ _ _ _ _ (by omega)), box4set h.bb _ _ _ _, below4 h.bel (Nat.le_succ _) _ _ _ _, by have := h.sz; simpa using this⟩
theorem walk_tm {L : List (Int × Tm × Value)} {t t' : Tm} {a : Value} {ao : Option Addr} {cap : Nat} {w W : World} (hd : (t' = t ∧ Value.slice ao t'.args.length cap = a) ∨ (t.kind = 1 ∧ ∃ x ∈ L, x.2 = (t', Value.slice ao t'.args.length cap)))
    (hL : ∀ x ∈ L, TmAt (fun _ => True) w x.2.1 x.2.2) (hO : OkB L) (ht : TmAt (fun _ => True) w t a) (hs : SmT t) (hb : Below w.heap.size w W) : TmAt (fun _ => True) W t' (.slice ao t'.args.length cap) ∧ SmT t' ∧ (t.kind ≠ 1 → t' = t) := by
  rcases hd with ⟨rfl, rfl⟩ | ⟨hk, x, hx, he⟩
  · exact ⟨ht.later hb, hs, fun _ => rfl⟩
  · have e1 : x.2.1 = t' := by rw [he]
    have e2 : x.2.2 = Value.slice ao t'.args.length cap := by rw [he]
    have h := (hL x hx).later hb
    rw [e1, e2] at h
    have h2 := hO x hx
    rw [e1] at h2
    exact ⟨h, h2, fun h => absurd hk h⟩
theorem Unl2.kinds {a b : Tm} (h : Unl2 a b) : a.kind ≠ 1 ∧ b.kind ≠ 1 := by
  rcases h with h | ⟨h1, h2, _⟩
  · exact ⟨h.1, h.2.1⟩
  · exact ⟨by omega, by omega⟩
theorem Unl2.walked {a b a' b' : Tm} (ha : a.kind ≠ 1 → a' = a) (hb : b.kind ≠ 1 → b' = b) (h : Unl2 a b) : Unl2 a' b' := by
  rw [ha h.kinds.1, hb h.kinds.2]; exact h
set_option maxRecDepth 100000 in
set_option maxHeartbeats 1600000 in
theorem un_many (k : Nat) (hk : k = 2000) : UnC k := by
  intro L v a b av bv w hB hl hO hta htb hsa hsb
  subst hk
  obtain ⟨ao, cap, rfl, _⟩ := hB.shape
  obtain ⟨pa, pc, rfl, _⟩ := hta.shape
  obtain ⟨qa, qc, rfl, _⟩ := htb.shape
  have HZ := Lib.hid (below_2a w)
  have HW := Lib.hid bsAt_nil
  unfold tmV
  change Calls _ _ #[_, _, _, .int .i64 2000] _ _
  clear hB hO hta htb hsa hsb
  go_enter Try.func89, Try.ntmps89
  go_wp2
  go_ret3
  exact ⟨[], none, 0, 2001, 34, rfl, HW.out _, fun _ h => (by cases h), by simp, by omega, by omega, by omega, fun _ => by omega, HZ.out _ _⟩
end Go.Proofs.Ytmffobadnmkpbaa
namespace Go.Proofs.Ytmffobadnmkpbaa
open Go.RowKit

set_option maxRecDepth 100000 in
set_option maxHeartbeats 3200000 in
theorem un_step (k : Nat) (hk : k < 2000) (hC : ∀ k', k < k' → k' ≤ 2000 → UnC k') : UnC k := by
  intro L v a b av bv w hB hl hO hta htb hsa hsb
  obtain ⟨ao, cap, rfl, _⟩ := hB.shape
  obtain ⟨pa, pc, rfl, _⟩ := hta.shape
  obtain ⟨qa, qc, rfl, _⟩ := htb.shape
  obtain ⟨V, hV⟩ : ∃ V, V = (w.alloc (.cells #[.int .i64 a.kind, .int .i64 a.num, .string a.name, .slice pa a.args.length pc] 24)).alloc (.cells #[.int .i64 b.kind, .int .i64 b.num, .string b.name, .slice qa b.args.length qc] 24) := ⟨_, rfl⟩
  have K0 : Hid (UnW w V a (.slice pa a.args.length pc) b (.slice qa b.args.length qc)) := by
    have al : ∀ (W : World) (o : Obj) (B : Nat), B ≤ W.heap.size → Below B W (W.alloc o) := fun W o B h => (Below.refl B W).alloc h o
    rw [hV]
    have b1 := BoxL.mk' (w.alloc (.cells #[.int .i64 a.kind, .int .i64 a.num, .string a.name, .slice pa a.args.length pc] 24)) #[.int .i64 b.kind, .int .i64 b.num, .string b.name, .slice qa b.args.length qc] 24
    simp only [World.size_alloc] at b1
    exact ⟨(BoxL.mk' w #[.int .i64 a.kind, .int .i64 a.num, .string a.name, .slice pa a.args.length pc] 24).below (al _ _ (w.heap.size + 1) (by simp)) (by omega), b1, (al _ _ _ (Nat.le_refl _)).trans (al _ _ _ (by simp)), by simp⟩
  have HV := Lib.hid hV
  have HB := Lib.hid hB
  have HO := Lib.hid hO
  have HTA := Lib.hid hta
  have HTB := Lib.hid htb
  have HSA := Lib.hid hsa
  have HSB := Lib.hid hsb
  have HC := Lib.hid hC
  obtain ⟨P, hP⟩ : ∃ P, P = Unl2 a b := ⟨_, rfl⟩
  have HU : Hid (∀ a' b' : Tm, (a.kind ≠ 1 → a' = a) → (b.kind ≠ 1 → b' = b) → P → Unl2 a' b') := fun a' b' ha hb h => by rw [hP] at h; exact h.walked ha hb
  have CW : Hid (∀ (t : Tm) (ua : Option Addr) (uc : Nat) W, Below w.heap.size w W → TmAt (fun _ => True) w t (.slice ua t.args.length uc) → Calls Try.prog 115 #[.slice ao L.length cap, .agg #[.int .i64 t.kind, .int .i64 t.num, .string t.name, .slice ua t.args.length uc]] W (RetWalk L t (.slice ua t.args.length uc) W)) := fun t ua uc W hW ht => walk_c _ L t _ W (HB.out.later hW) (by omega) (ht.later hW)
  rw [← hP]
  unfold tmV
  clear hP hB hO hta htb hsa hsb hV hC
  go_enter Try.func89, Try.ntmps89
  go_upto_region 1 with fail
  rw [← HV.out]
  clear HV
  obtain ⟨⟨x0, x1, x2, x3⟩, g0, g1, g2, g3⟩ := box4c K0.out.ba
  go_upto_region 5 with (first | (go_at_call 115; (with_reducible refine (CW.out a pa pc _ K0.out.bel HTA.out).mono ?_); rintro e W1 ⟨a', pa', pc', rfl, hd, bb⟩; have HD1 := Lib.hid hd; have K1 := Lib.hid (K0.out.below bb); clear hd bb; clear x0 x1 x2 x3 g0 g1 g2 g3; obtain ⟨⟨x0, x1, x2, x3⟩, g0, g1, g2, g3⟩ := box4c K1.out.ba))
  refine id_genW fun W2 hW2 => ?_
  have K2 : Hid (UnW w W2 a' (.slice pa' a'.args.length pc') b (.slice qa b.args.length qc)) := by rw [hW2]; exact K1.out.puta
  clear hW2 x0 x1 x2 x3 g0 g1 g2 g3
  obtain ⟨⟨y0, y1, y2, y3⟩, f0, f1, f2, f3⟩ := box4c K2.out.bb
  go_upto_region 6 with (first | (go_at_call 115; (with_reducible refine (CW.out b qa qc _ K2.out.bel HTB.out).mono ?_); rintro e W3 ⟨b', qa', qc', rfl, hd, bb⟩; have HD2 := Lib.hid hd; have K3 := Lib.hid (K2.out.below bb); clear hd bb; clear y0 y1 y2 y3 f0 f1 f2 f3; obtain ⟨⟨y0, y1, y2, y3⟩, f0, f1, f2, f3⟩ := box4c K3.out.bb))
  refine id_genW fun W6 hW6 => ?_
  have K6 : Hid (UnW w W6 a' (.slice pa' a'.args.length pc') b' (.slice qa' b'.args.length qc')) := by rw [hW6]; exact K3.out.putb
  clear hW6 y0 y1 y2 y3 f0 f1 f2 f3
  obtain ⟨ta6, sa6, ea⟩ := walk_tm HD1.out HB.out.tms HO.out HTA.out HSA.out K6.out.bel
  obtain ⟨tb6, sb6, eb⟩ := walk_tm HD2.out HB.out.tms HO.out HTB.out HSB.out K6.out.bel
  have HP : Hid (P → Unl2 a' b') := HU.out a' b' ea eb
  have B6 : Hid (BsAt W6 (.slice ao L.length cap) L) := HB.out.later K6.out.bel
  have TA6 := Lib.hid ta6
  have TB6 := Lib.hid tb6
  have SA6 := Lib.hid sa6
  have SB6 := Lib.hid sb6
  have CA : Hid (∀ W, Below W6.heap.size W6 W → Calls Try.prog 116 #[.slice ao L.length cap, .int .i64 a'.num, .agg #[.int .i64 b'.kind, .int .i64 b'.num, .string b'.name, .slice qa' b'.args.length qc']] W (RetBd (L ++ [(a'.num, b', .slice qa' b'.args.length qc')]) W)) := fun W hW => bind_c _ L a'.num b' _ W (B6.out.later hW) (by omega) (TB6.out.later hW)
  have CB : Hid (∀ W, Below W6.heap.size W6 W → Calls Try.prog 116 #[.slice ao L.length cap, .int .i64 b'.num, .agg #[.int .i64 a'.kind, .int .i64 a'.num, .string a'.name, .slice pa' a'.args.length pc']] W (RetBd (L ++ [(b'.num, a', .slice pa' a'.args.length pc')]) W)) := fun W hW => bind_c _ L b'.num a' _ W (B6.out.later hW) (by omega) (TA6.out.later hW)
  have OA : Hid (Calls Try.prog 117 #[.slice ao L.length cap, .int .i64 a'.num, .agg #[.int .i64 b'.kind, .int .i64 b'.num, .string b'.name, .slice qa' b'.args.length qc']] W6 fun e w' => ∃ b, e = .returned (.bool b) ∧ Below W6.heap.size W6 w') := occurs_c _ L a'.num b' _ W6 B6.out (by omega) HO.out TB6.out sb6.1 sb6.2
  have OB : Hid (Calls Try.prog 117 #[.slice ao L.length cap, .int .i64 b'.num, .agg #[.int .i64 a'.kind, .int .i64 a'.num, .string a'.name, .slice pa' a'.args.length pc']] W6 fun e w' => ∃ b, e = .returned (.bool b) ∧ Below W6.heap.size W6 w') := occurs_c _ L b'.num a' _ W6 B6.out (by omega) HO.out TA6.out sa6.1 sa6.2
  have HPA : Hid (OkB (L ++ [(a'.num, b', .slice qa' b'.args.length qc')])) := HO.out.push SB6.out
  have HPB : Hid (OkB (L ++ [(b'.num, a', .slice pa' a'.args.length pc')])) := HO.out.push SA6.out
  have BW6 : Hid (Below w.heap.size w W6) := K6.out.bel
  have HS6 := Lib.hid (K6.out.sz)
  have HLA : Hid ((L ++ [(a'.num, b', Value.slice qa' b'.args.length qc')]).length ≤ k + 1) := by show _ ≤ _; simp; omega
  have HLB : Hid ((L ++ [(b'.num, a', Value.slice pa' a'.args.length pc')]).length ≤ k + 1) := by show _ ≤ _; simp; omega
  clear ta6 tb6 sa6 sb6 ea eb
  obtain ⟨⟨x0, x1, x2, x3⟩, -⟩ := box4c K6.out.ba
  obtain ⟨⟨y0, y1, y2, y3⟩, -⟩ := box4c K6.out.bb
  by_cases hka : a'.kind = 1
  · have hka1 : (a'.kind == 1) = true := by simp [hka]
    have HNP : Hid (P → False) := fun h => (HP.out h).kinds.1 hka
    clear hka
    cases hkb1 : (b'.kind == 1) with
    | true =>
      cases hn1 : (a'.num == b'.num) with
      | true =>
        go_wp2
        go_ret3
        exact ⟨L, ao, cap, k + 1, 0, rfl, B6.out, HO.out, by omega, by omega, by omega, fun _ => by omega, fun h => (HNP.out h).elim, BW6.out⟩
      | false =>
        by_cases hg1 : a'.num > b'.num
        · go_wp2_with (first | (go_at_call 116; (with_reducible refine (CA.out _ (Below.refl _ _)).mono ?_); rintro e W7 ⟨ra, rc, rfl, bs, bb⟩; have BS7 := Lib.hid bs; have B7 := Lib.hid bb; clear bs bb))
          go_ret3
          exact ⟨L ++ [(a'.num, b', .slice qa' b'.args.length qc')], ra, rc, k + 1, 0, by rw [List.length_append]; rfl, BS7.out, HPA.out, HLA.out, by omega, by omega, fun _ => by omega, fun h => (HNP.out h).elim, BW6.out.trans (B7.out.mono BW6.out.size)⟩
        · go_wp2_with (first | (go_at_call 116; (with_reducible refine (CB.out _ (Below.refl _ _)).mono ?_); rintro e W7 ⟨ra, rc, rfl, bs, bb⟩; have BS7 := Lib.hid bs; have B7 := Lib.hid bb; clear bs bb))
          go_ret3
          exact ⟨L ++ [(b'.num, a', .slice pa' a'.args.length pc')], ra, rc, k + 1, 0, by rw [List.length_append]; rfl, BS7.out, HPB.out, HLB.out, by omega, by omega, fun _ => by omega, fun h => (HNP.out h).elim, BW6.out.trans (B7.out.mono BW6.out.size)⟩
    | false =>
      go_wp2_with (first
        | (go_at_call 117; (with_reducible refine OA.out.mono ?_); rintro e W7 ⟨r, rfl, bb⟩; have B7 := Lib.hid bb; have X7 := Lib.hid (K6.out.below bb); clear bb; clear x0 x1 x2 x3 y0 y1 y2 y3; obtain ⟨⟨x0, x1, x2, x3⟩, -⟩ := box4c X7.out.ba; obtain ⟨⟨y0, y1, y2, y3⟩, -⟩ := box4c X7.out.bb)
        | (go_at_call 116; (with_reducible refine (CA.out _ B7.out).mono ?_); rintro e W8 ⟨ra, rc, rfl, bs, bb⟩; have BS7 := Lib.hid bs; have B8 := Lib.hid (B7.out.trans (bb.mono B7.out.size)); clear bs bb))
      all_goals go_ret3
      all_goals first
        | exact ⟨[], none, 0, k + 1, 80, rfl, bsAt_nil _, fun _ h => (by cases h), by simp, by omega, by omega, by omega, fun _ => by omega, BW6.out.trans (B7.out.mono BW6.out.size)⟩
        | exact ⟨L ++ [(a'.num, b', .slice qa' b'.args.length qc')], ra, rc, k + 1, 0, by rw [List.length_append]; rfl, BS7.out, HPA.out, HLA.out, by omega, by omega, fun _ => by omega, fun h => (HNP.out h).elim, BW6.out.trans (B8.out.mono BW6.out.size)⟩
  · have hka1 : (a'.kind == 1) = false := by simp [hka]
    by_cases hkb : b'.kind = 1
    · have hkb1 : (b'.kind == 1) = true := by simp [hkb]
      have HNP : Hid (P → False) := fun h => (HP.out h).kinds.2 hkb
      clear hka hkb
      go_wp2_with (first
        | (go_at_call 117; (with_reducible refine OB.out.mono ?_); rintro e W7 ⟨r, rfl, bb⟩; have B7 := Lib.hid bb; have X7 := Lib.hid (K6.out.below bb); clear bb; clear x0 x1 x2 x3 y0 y1 y2 y3; obtain ⟨⟨x0, x1, x2, x3⟩, -⟩ := box4c X7.out.ba; obtain ⟨⟨y0, y1, y2, y3⟩, -⟩ := box4c X7.out.bb)
        | (go_at_call 116; (with_reducible refine (CB.out _ B7.out).mono ?_); rintro e W8 ⟨ra, rc, rfl, bs, bb⟩; have BS7 := Lib.hid bs; have B8 := Lib.hid (B7.out.trans (bb.mono B7.out.size)); clear bs bb))
      all_goals go_ret3
      all_goals first
        | exact ⟨[], none, 0, k + 1, 80, rfl, bsAt_nil _, fun _ h => (by cases h), by simp, by omega, by omega, by omega, fun _ => by omega, BW6.out.trans (B7.out.mono BW6.out.size)⟩
        | exact ⟨L ++ [(b'.num, a', .slice pa' a'.args.length pc')], ra, rc, k + 1, 0, by rw [List.length_append]; rfl, BS7.out, HPB.out, HLB.out, by omega, by omega, fun _ => by omega, fun h => (HNP.out h).elim, BW6.out.trans (B8.out.mono BW6.out.size)⟩
    · have hkb1 : (b'.kind == 1) = false := by simp [hkb]
      have HUN : Hid (RetUn P k w (.returned (.tuple #[.slice none 0 0, .int .i64 ((k : Int) + 1), .int .i64 80])) W6) := ⟨[], none, 0, k + 1, 80, rfl, bsAt_nil _, fun _ h => (by cases h), by simp, by omega, by omega, by omega, fun _ => by omega, BW6.out⟩
      clear CA CB OA OB HPA HPB HLA HLB
      clear hka hkb
      cases hk2 : (a'.kind != b'.kind) with
      | true =>
        go_wp2
        go_ret3
        exact HUN.out
      | false =>
        cases hi1 : (a'.kind == 2) with
        | true =>
          have hi2 : (a'.kind != 2) = false := by simpa using hi1
          have hi4 : (a'.kind == 4) = false := by simp at hi1; simp [hi1]
          cases hnn : (a'.num != b'.num) with
          | true =>
            go_wp2
            go_ret3
            exact HUN.out
          | false =>
            have HE : Hid (P → False) := fun h => by
              rcases HP.out h with h | h
              · have h2 := h.2.2
                simp only [topU, hk2, hi1, hi2, hi4, hnn, Bool.and_false, Bool.false_and, Bool.or_false] at h2
                cases h2
              · simp [h.1] at hi4
            go_upto_region 24 with fail
            go_loopg [0, 3, 11, 12] 0 (fun m lv mv ev iv wr => m = 0 ∧ lv = .slice ao L.length cap ∧ mv = .int .i64 ((k : Int) + 1) ∧ ev = .int .i64 0 ∧ iv = .int .i64 0 ∧ Hid (wr = W6))
            case atStart => exact ⟨rfl, rfl, rfl, rfl, rfl, rfl⟩
            case round =>
              obtain ⟨-, rfl, rfl, rfl, rfl, HW⟩ := hrel
              obtain rfl := HW.out
              go_wp2
              go_ret3
              exact ⟨L, ao, cap, k + 1, 0, rfl, B6.out, HO.out, by omega, by omega, by omega, fun _ => by omega, fun h => (HE.out h).elim, BW6.out⟩
        | false =>
          have hi2 : (a'.kind != 2) = true := by simpa using hi1
          by_cases hnm : a'.name.toList = b'.name.toList
          case neg =>
            go_wp2
            go_ret3
            exact HUN.out
          case pos =>
            have HNN : Hid ((a'.name.toList != b'.name.toList) = false) := by show _ = _; simp [hnm]
            cases hi4 : (a'.kind == 4) with
            | false =>
              have HE : Hid (P → False) := fun h => by
                rcases HP.out h with h | h
                · have h2 := h.2.2
                  simp only [topU, hk2, hi1, hi2, hi4, HNN.out, Bool.and_false, Bool.false_and, Bool.or_false] at h2
                  cases h2
                · simp [h.1] at hi4
              go_upto_region 24 with fail
              go_loopg [0, 3, 11, 12] 0 (fun m lv mv ev iv wr => m = 0 ∧ lv = .slice ao L.length cap ∧ mv = .int .i64 ((k : Int) + 1) ∧ ev = .int .i64 0 ∧ iv = .int .i64 0 ∧ Hid (wr = W6))
              case atStart => exact ⟨rfl, rfl, rfl, rfl, rfl, rfl⟩
              case round =>
                obtain ⟨-, rfl, rfl, rfl, rfl, HW⟩ := hrel
                obtain rfl := HW.out
                go_wp2
                go_ret3
                exact ⟨L, ao, cap, k + 1, 0, rfl, B6.out, HO.out, by omega, by omega, by omega, fun _ => by omega, fun h => (HE.out h).elim, BW6.out⟩
            | true =>
              cases hll : ((a'.args.length : Int) != (b'.args.length : Int)) with
              | true =>
                go_wp2
                go_ret3
                exact HUN.out
              | false =>
                have HLE : Hid (a'.args.length = b'.args.length) := by show _ = _; simp at hll; omega
                have HE : Hid (P → ∃ x xs y ys, a'.args = x :: xs ∧ b'.args = y :: ys ∧ Unl x y) := fun h => by
                  rcases HP.out h with h | h
                  · have h2 := h.2.2
                    simp only [topU, hk2, hi1, hi2, hi4, HNN.out, hll, Bool.and_false, Bool.false_and, Bool.or_false] at h2
                    cases h2
                  · exact h.2.2
                have TSA := Lib.hid (TsAt.of_tm TA6.out)
                have TSB := Lib.hid (TsAt.of_tm TB6.out)
                have SAA : Hid (∀ u ∈ a'.args, SmT u) := fun u hu => ⟨vsOk_args _ SA6.out.1 u hu, by have h1 := Tm.args_size (t := a') (u := u) hu; have h2 := SA6.out.2; omega⟩
                have SBB : Hid (∀ u ∈ b'.args, SmT u) := fun u hu => ⟨vsOk_args _ SB6.out.1 u hu, by have h1 := Tm.args_size (t := b') (u := u) hu; have h2 := SB6.out.2; omega⟩
                have hal : a'.args.length ≤ 1000000 := by have h1 := Tm.sizes_len a'.args; have h2 := a'.size_eq; have h3 := SA6.out.2; omega
                go_upto_region 24 with fail
                go_loopg [0, 3, 11, 12] a'.args.length (fun m lv mv ev iv wr => ∃ (L' : List (Int × Tm × Value)) (la : Option Addr) (lc k' : Nat) (z : Int) (i : Nat), i ≤ a'.args.length ∧ lv = .slice la L'.length lc ∧ mv = .int .i64 k' ∧ ev = .int .i64 z ∧ iv = .int .i64 i ∧ Hid (m = a'.args.length - i) ∧ Hid (BsAt wr (.slice la L'.length lc) L') ∧ Hid (OkB L') ∧ Hid (L'.length ≤ k') ∧ Hid (k < k') ∧ Hid (k' ≤ 2001) ∧ Hid (z = 0 → k' ≤ 2000) ∧ Hid (P → 0 < i → z ≠ 0) ∧ Hid (Below W6.heap.size W6 wr))
                case atStart => exact ⟨L, ao, cap, k + 1, 0, 0, by omega, rfl, rfl, rfl, rfl, rfl, B6, HO, Lib.hid (by omega), Lib.hid (by omega), Lib.hid (by omega), Lib.hid (by omega), Lib.hid (fun _ h => by omega), Below.refl _ _⟩
                case round =>
                  obtain ⟨L', la, lc, k', z, i, hi, rfl, rfl, rfl, rfl, HN, HB', HO', HLK, HK1, HK3, HZ, HPP, HW⟩ := hrel
                  have BW : Hid (Below w.heap.size w wr) := BW6.out.trans (HW.out.mono BW6.out.size)
                  have XW := Lib.hid (K6.out.below HW.out)
                  clear x0 x1 x2 x3 y0 y1 y2 y3
                  obtain ⟨⟨x0, x1, x2, x3⟩, -⟩ := box4c XW.out.ba
                  obtain ⟨⟨y0, y1, y2, y3⟩, -⟩ := box4c XW.out.bb
                  cases hzb : (z == 0) with
                  | false =>
                    by_cases hki : (i : Int) < a'.args.length
                    all_goals
                      go_wp2
                      go_ret3
                      exact ⟨L', la, lc, k', z, rfl, HB'.out, HO'.out, HLK.out, HK1.out, HK3.out, HZ.out, fun _ => by simpa using hzb, BW.out⟩
                  | true =>
                    have hz0 : z = 0 := by simpa using hzb
                    subst hz0
                    by_cases hlt : i < a'.args.length
                    · have hlt2 : i < b'.args.length := by have := HLE.out; omega
                      have hki : (i : Int) < a'.args.length := by omega
                      have hkj : (i : Int) < b'.args.length := by omega
                      have HX : Hid (P → Unl2 a'.args[i] b'.args[i]) := fun hp => by
                        obtain ⟨x, xs, y, ys, e1, e2, hu⟩ := HE.out hp
                        by_cases h0 : i = 0
                        · subst h0
                          have f1 : a'.args[0] = x := by simp [e1]
                          have f2 : b'.args[0] = y := by simp [e2]
                          rw [f1, f2]; exact .inl hu
                        · exact absurd rfl (HPP.out hp (by omega))
                      obtain ⟨b1, o1, a1, rfl, -, hcc1, hta⟩ := (TSA.out.later HW.out).get i hlt
                      obtain ⟨b2, o2, a2, rfl, -, hcc2, htb⟩ := (TSB.out.later HW.out).get i hlt2
                      obtain ⟨p1, q1, rfl, _⟩ := hta.shape
                      obtain ⟨p2, q2, rfl, _⟩ := htb.shape
                      have STA := Lib.hid (SAA.out _ (List.getElem_mem hlt))
                      have STB := Lib.hid (SBB.out _ (List.getElem_mem hlt2))
                      have HTX := Lib.hid hta
                      have HTY := Lib.hid htb
                      clear hta htb
                      generalize a'.args[i] = ta at *
                      generalize b'.args[i] = tb at *
                      have CX := Lib.hid (HC.out k' HK1.out (HZ.out rfl))
                      have CC : Hid (∀ W, Below wr.heap.size wr W → Calls Try.prog 89 #[.slice la L'.length lc, .agg #[.int .i64 ta.kind, .int .i64 ta.num, .string ta.name, .slice p1 ta.args.length q1], .agg #[.int .i64 tb.kind, .int .i64 tb.num, .string tb.name, .slice p2 tb.args.length q2], .int .i64 k'] W (RetUn (Unl2 ta tb) k' W)) := fun W h => CX.out L' _ ta tb _ _ W (HB'.out.later h) HLK.out HO'.out (HTX.out.later h) (HTY.out.later h) STA.out STB.out
                      have hb1 := hcc1.lt
                      have hb2 := hcc2.lt
                      have hwz := XW.out.sz
                      have KK : Hid (∀ W, Below wr.heap.size wr W → (W.cell? ⟨w.heap.size, 3, none⟩ = some (.slice (some ⟨b1, o1, none⟩) a'.args.length pc') ∧ W.cell? ⟨w.heap.size + 1, 3, none⟩ = some (.slice (some ⟨b2, o2, none⟩) b'.args.length qc')) ∧ CellsT W b1 (o1 + i * 4) ta (.slice p1 ta.args.length q1) ∧ CellsT W b2 (o2 + i * 4) tb (.slice p2 tb.args.length q2)) := fun W h =>
                        ⟨⟨(h.cell (p := ⟨w.heap.size, 3, none⟩) (by show w.heap.size < _; omega)).trans x3, (h.cell (p := ⟨w.heap.size + 1, 3, none⟩) (by show w.heap.size + 1 < _; omega)).trans y3⟩, hcc1.block (h.block _ hb1), hcc2.block (h.block _ hb2)⟩
                      obtain ⟨c0, c1, c2, c3⟩ := hcc1
                      obtain ⟨d0, d1, d2, d3⟩ := hcc2
                      have k0 := KK.out _ (Below.refl _ _)
                      go_upto_region 26 with fail
                      go_region_held3 (fun W => W.cell? ⟨w.heap.size, 3, none⟩ = some (.slice (some ⟨b1, o1, none⟩) a'.args.length pc') ∧ W.cell? ⟨w.heap.size + 1, 3, none⟩ = some (.slice (some ⟨b2, o2, none⟩) b'.args.length qc') ∧ W.cell? ⟨b1, o1 + i * 4, none⟩ = some (.int .i64 ta.kind) ∧ W.cell? ⟨b1, o1 + i * 4 + 1, none⟩ = some (.int .i64 ta.num) ∧ W.cell? ⟨b1, o1 + i * 4 + 2, none⟩ = some (.string ta.name) ∧ W.cell? ⟨b1, o1 + i * 4 + 3, none⟩ = some (.slice p1 ta.args.length q1) ∧ W.cell? ⟨b2, o2 + i * 4, none⟩ = some (.int .i64 tb.kind) ∧ W.cell? ⟨b2, o2 + i * 4 + 1, none⟩ = some (.int .i64 tb.num) ∧ W.cell? ⟨b2, o2 + i * 4 + 2, none⟩ = some (.string tb.name) ∧ W.cell? ⟨b2, o2 + i * 4 + 3, none⟩ = some (.slice p2 tb.args.length q2))
                        ((first | exact kk_parts (KK.out _ P2.out) | (refine kk_parts (KK.out _ ?_); go_grown)))
                        (first | (go_at_call 89; refine (CC.out _ ?_).mono ?_; (· go_grown); rintro e W2 ⟨L2, u2, v2, k2, z2, rfl, bs2, ok2, hl2, hk2, hk3, hz2, hp2, bb⟩; have BS2 := Lib.hid bs2; have OK2 := Lib.hid ok2; have HL2 := Lib.hid hl2; have HKA := Lib.hid hk2; have HKB := Lib.hid hk3; have HZ2 := Lib.hid hz2; have HP2 := Lib.hid hp2; have P2 : Hid (Below wr.heap.size wr W2) := Below.trans (B := wr.heap.size) (by go_grown) (bb.mono (by go_size)); clear bs2 ok2 hl2 hk2 hk3 hz2 hp2 bb))
                      clear k0
                      go_wp2
                      go_roundg (a'.args.length - (i + 1))
                      case measure => have := HN.out; omega
                      case rel => exact ⟨L2, u2, v2, k2, z2, i + 1, by omega, rfl, rfl, rfl, by go_num, rfl, BS2, OK2, HL2, Lib.hid (Nat.lt_trans HK1.out HKA.out), HKB, HZ2, Lib.hid (fun hp _ => HP2.out (HX.out hp)), HW.out.trans (P2.out.mono HW.out.size)⟩
                    · have hki : ¬ ((i : Int) < a'.args.length) := by omega
                      have HPE : Hid (P → (0 : Int) ≠ 0) := fun hp => by
                        obtain ⟨x, xs, y, ys, e1, e2, hu⟩ := HE.out hp
                        refine HPP.out hp ?_
                        have : a'.args.length = xs.length + 1 := by rw [e1]; rfl
                        omega
                      go_wp2
                      go_ret3
                      exact ⟨L', la, lc, k', 0, rfl, HB'.out, HO'.out, HLK.out, HK1.out, HK3.out, fun _ => HZ.out (by trivial), HPE.out, BW.out⟩
/-- Unified, however many pairs there were -/
theorem un_all : ∀ k, k ≤ 2000 → UnC k := by
  have h : ∀ f k, k ≤ 2000 → 2000 ≤ k + f → UnC k := by
    intro f
    induction f with
    | zero => intro k h1 h2; exact un_many k (by omega)
    | succ f ih =>
      intro k h1 h2
      by_cases hk : k = 2000
      · exact un_many k hk
      · exact un_step k (by omega) fun k' h3 h4 => ih k' h4 (by omega)
  exact fun k hk => h 2000 k hk (by omega)
end Go.Proofs.Ytmffobadnmkpbaa
namespace Go.Proofs.Ytmffobadnmkpbaa
open Go.RowKit

/-- what New hands back -/
def RetNew (w : World) (e : Ending) (w' : World) : Prop := ∃ p, e = .returned (.pointer (some ⟨p, 0, none⟩)) ∧ w.heap.size ≤ p ∧ BoxL w' p [.slice none 0 0] ∧ Below w.heap.size w w'
set_option maxRecDepth 100000 in
theorem new_c (w : World) : Calls Try.prog 50 #[] w (RetNew w) := by
  have H1 : Hid (∀ T, BoxL (w.alloc (.cells #[.slice none 0 0] T)) w.heap.size [.slice none 0 0]) := fun T => BoxL.mk' w #[.slice none 0 0] T
  have H2 : Hid (∀ T, Below w.heap.size w (w.alloc (.cells #[.slice none 0 0] T))) := fun T => (Below.refl _ _).alloc (Nat.le_refl _) _
  go_enter Try.func50, Try.ntmps50
  go_wp2
  go_ret
  exact ⟨w.heap.size, rfl, Nat.le_refl _, H1.out _, H2.out _⟩
theorem unif_facts {W : World} {e h : Nat} {a b : Tm} {av bv : Value} (h0 : BoxL W e [.slice none 0 0]) (h1 : BoxL W h (cells4b a av)) (h2 : BoxL W (h + 1) (cells4b b bv)) :
    W.cell? ⟨e, 0, none⟩ = some (.slice none 0 0) ∧ W.cell? ⟨h, 0, none⟩ = some (.int .i64 a.kind) ∧ W.cell? ⟨h, 1, none⟩ = some (.int .i64 a.num) ∧ W.cell? ⟨h, 2, none⟩ = some (.string a.name) ∧ W.cell? ⟨h, 3, none⟩ = some av ∧ W.cell? ⟨h + 1, 0, none⟩ = some (.int .i64 b.kind) ∧ W.cell? ⟨h + 1, 1, none⟩ = some (.int .i64 b.num) ∧ W.cell? ⟨h + 1, 2, none⟩ = some (.string b.name) ∧ W.cell? ⟨h + 1, 3, none⟩ = some bv :=
  ⟨(h0.get 0 rfl).1, (h1.get 0 rfl).1, (h1.get 1 rfl).1, (h1.get 2 rfl).1, (h1.get 3 rfl).1, (h2.get 0 rfl).1, (h2.get 1 rfl).1, (h2.get 2 rfl).1, (h2.get 3 rfl).1⟩
set_option maxRecDepth 100000 in
set_option maxHeartbeats 3200000 in
theorem unify_c (p : Nat) (a b : Tm) (av bv : Value) (w : World) (hp : BoxL w p [.slice none 0 0]) (hta : TmAt (fun _ => True) w a av) (htb : TmAt (fun _ => True) w b bv) (hsa : SmT a) (hsb : SmT b) :
    Calls Try.prog 51 #[.pointer (some ⟨p, 0, none⟩), tmV a av, tmV b bv] w fun e w' => ∃ v z, e = .returned (.tuple #[v, .int .i64 z]) ∧ (Unl2 a b → z ≠ 0) ∧ Below p w w' := by
  obtain ⟨pa, pc, rfl, _⟩ := hta.shape
  obtain ⟨qa, qc, rfl, _⟩ := htb.shape
  obtain ⟨V, hV⟩ : ∃ V, V = (w.alloc (.cells #[.int .i64 a.kind, .int .i64 a.num, .string a.name, .slice pa a.args.length pc] 24)).alloc (.cells #[.int .i64 b.kind, .int .i64 b.num, .string b.name, .slice qa b.args.length qc] 24) := ⟨_, rfl⟩
  have K0 : Hid (UnW w V a (.slice pa a.args.length pc) b (.slice qa b.args.length qc)) := by
    have al : ∀ (W : World) (o : Obj) (B : Nat), B ≤ W.heap.size → Below B W (W.alloc o) := fun W o B h => (Below.refl B W).alloc h o
    rw [hV]
    have b1 := BoxL.mk' (w.alloc (.cells #[.int .i64 a.kind, .int .i64 a.num, .string a.name, .slice pa a.args.length pc] 24)) #[.int .i64 b.kind, .int .i64 b.num, .string b.name, .slice qa b.args.length qc] 24
    simp only [World.size_alloc] at b1
    exact ⟨(BoxL.mk' w #[.int .i64 a.kind, .int .i64 a.num, .string a.name, .slice pa a.args.length pc] 24).below (al _ _ (w.heap.size + 1) (by simp)) (by omega), b1, (al _ _ _ (Nat.le_refl _)).trans (al _ _ _ (by simp)), by simp⟩
  have hpl : p < w.heap.size := hp.lt (by simp)
  have EP : Hid (∀ W, Below w.heap.size w W → BoxL W p [.slice none 0 0]) := fun W hW => hp.below hW hpl
  obtain ⟨P, hP⟩ : ∃ P, P = Unl2 a b := ⟨_, rfl⟩
  have CU : Hid (∀ W, Below w.heap.size w W → Calls Try.prog 89 #[.slice none 0 0, .agg #[.int .i64 a.kind, .int .i64 a.num, .string a.name, .slice pa a.args.length pc], .agg #[.int .i64 b.kind, .int .i64 b.num, .string b.name, .slice qa b.args.length qc], .int .i64 0] W (RetUn P 0 W)) := fun W hW => by
    rw [hP]; exact un_all 0 (by omega) [] _ a b _ _ W (bsAt_nil W) (Nat.le_refl _) (fun _ h => by cases h) (hta.later hW) (htb.later hW) hsa hsb
  have KV : Hid (∀ W, Below V.heap.size V W → (W.cell? ⟨p, 0, none⟩ = some (.slice none 0 0) ∧ W.cell? ⟨w.heap.size, 0, none⟩ = some (.int .i64 a.kind) ∧ W.cell? ⟨w.heap.size, 1, none⟩ = some (.int .i64 a.num) ∧ W.cell? ⟨w.heap.size, 2, none⟩ = some (.string a.name) ∧ W.cell? ⟨w.heap.size, 3, none⟩ = some (.slice pa a.args.length pc) ∧ W.cell? ⟨w.heap.size + 1, 0, none⟩ = some (.int .i64 b.kind) ∧ W.cell? ⟨w.heap.size + 1, 1, none⟩ = some (.int .i64 b.num) ∧ W.cell? ⟨w.heap.size + 1, 2, none⟩ = some (.string b.name) ∧ W.cell? ⟨w.heap.size + 1, 3, none⟩ = some (.slice qa b.args.length qc))) := fun W hW => unif_facts (EP.out W (K0.out.below hW).bel) (K0.out.below hW).ba (K0.out.below hW).bb
  obtain ⟨i0, hi, hz0, hz1, hz2⟩ := info_parts Try.infoInt
  have HV := Lib.hid hV
  have hsV : w.heap.size + 2 ≤ V.heap.size := K0.out.sz
  have BV : Hid (Below w.heap.size w V) := K0.out.bel
  rw [← hP]
  unfold tmV
  clear hp hta htb hsa hsb hV hP
  go_enter Try.func51, Try.ntmps51
  go_upto_region 1 with fail
  rw [← HV.out]
  clear HV
  have k0 := KV.out _ (Below.refl _ _)
  go_region_held3 (fun W => W.cell? ⟨p, 0, none⟩ = some (.slice none 0 0) ∧ W.cell? ⟨w.heap.size, 0, none⟩ = some (.int .i64 a.kind) ∧ W.cell? ⟨w.heap.size, 1, none⟩ = some (.int .i64 a.num) ∧ W.cell? ⟨w.heap.size, 2, none⟩ = some (.string a.name) ∧ W.cell? ⟨w.heap.size, 3, none⟩ = some (.slice pa a.args.length pc) ∧ W.cell? ⟨w.heap.size + 1, 0, none⟩ = some (.int .i64 b.kind) ∧ W.cell? ⟨w.heap.size + 1, 1, none⟩ = some (.int .i64 b.num) ∧ W.cell? ⟨w.heap.size + 1, 2, none⟩ = some (.string b.name) ∧ W.cell? ⟨w.heap.size + 1, 3, none⟩ = some (.slice qa b.args.length qc))
    ((first | exact KV.out _ P2.out | (refine KV.out _ ?_; go_grown)))
    (first | (go_at_call 89; refine (CU.out _ ?_).mono ?_; (· refine BV.out.trans ?_; refine Below.mono (B := V.heap.size) ?_ (by omega); go_grown); rintro e W2 ⟨L2, la, lc, k2, z, rfl, bs, -, hl2, -, hk2, -, hz, bb⟩; have P2 : Hid (Below V.heap.size V W2) := Below.trans (B := V.heap.size) (by go_grown) (bb.mono (by go_size)); have BS2 := Lib.hid bs; have HZ := Lib.hid hz; clear bs hz bb))
  clear k0
  cases hz : (z != 0) with
  | true =>
    go_wp2
    go_ret2
    exact ⟨_, z, rfl, fun _ => by simpa using hz, (BV.out.trans (P2.out.mono (by omega))).mono (by omega)⟩
  | false =>
    have HNP : Hid (P → (0 : Int) ≠ 0) := fun h => absurd (by simpa using hz) (HZ.out h)
    have B2 : Hid (Below w.heap.size w W2) := BV.out.trans (P2.out.mono (by omega))
    obtain ⟨U, hU⟩ : ∃ U, U = W2.alloc (.cells #[] 3) := ⟨_, rfl⟩
    have BU : Hid (Below W2.heap.size W2 U) := by rw [hU]; exact (Below.refl _ _).alloc (Nat.le_refl _) _
    have R0 : Hid (U.ownsRow W2.heap.size 3 1 (.slice (some ⟨W2.heap.size, 0, none⟩) 0 0) 0 []) := by rw [hU]; exact own_madeM W2
    have HU := Lib.hid hU
    have hws : w.heap.size ≤ W2.heap.size := B2.out.size
    clear hU
    go_upto_region 5 with fail
    rw [← HU.out]
    clear HU
    obtain ⟨e0, ef⟩ := (EP.out U (B2.out.trans (BU.out.mono hws))).get 0 rfl
    go_upto_region 6 with fail
    go_loopg [11, 12] L2.length (fun m ov iv wr => ∃ (i : Nat) (M : List Int) (oa : Option Addr) (oc : Nat), i ≤ L2.length ∧ iv = .int .i64 i ∧ ov = .slice oa i oc ∧ Hid (m = L2.length - i) ∧ Hid (wr.ownsRow W2.heap.size 3 1 (.slice oa i oc) i (M.map (Value.int .i64))) ∧ Hid (Below W2.heap.size W2 wr))
    case atStart => exact ⟨0, [], some ⟨W2.heap.size, 0, none⟩, 0, by omega, rfl, rfl, rfl, R0, BU⟩
    case round =>
      obtain ⟨i, M, oa, oc, hi', rfl, rfl, HN, HR, HW⟩ := hrel
      clear e0 ef
      have BW : Hid (Below w.heap.size w wr) := B2.out.trans (HW.out.mono hws)
      obtain ⟨e0, ef⟩ := (EP.out wr BW.out).get 0 rfl
      by_cases hlt : i < L2.length
      · obtain ⟨b, off, rfl, hb, c0, -, -⟩ := (BS2.out.later HW.out).get i hlt
        have hki : (i : Int) < L2.length := by omega
        have hub : W2.heap.size ≤ wr.heap.size := HW.out.size
        generalize L2[i] = y at *
        obtain ⟨y1, y2⟩ := y
        dsimp only at c0
        go_wp2_with (at_builtin; refine wpList_appendX rfl (.tmp 39) (.tmp 45) 29 rfl W2.heap.size 3 i0 (.int .i64 0) 1 8 Try.underlying29 hi hz0 hz1 hz2 rfl (by decide) _ i (M.map (Value.int .i64)) rfl HR.out _ _ rfl rfl rfl (one1 rfl) ⟨by omega, by omega⟩ hub ?_; intro g5 cap5 W5 ho5 hb5 hk5 hl5; have O5 := Lib.hid ho5; have B5 := Lib.hid hb5; clear ho5 hb5 hk5 hl5)
        go_roundg (L2.length - (i + 1))
        case measure => have := HN.out; omega
        case rel => exact ⟨i + 1, M ++ [y1], some ⟨g5, 0, none⟩, cap5, by omega, by go_num, rfl, rfl, Lib.hid (by rw [List.map_append]; exact O5.out), HW.out.trans (B5.out.mono (Nat.le_refl _))⟩
      · have hki : ¬ ((i : Int) < L2.length) := by omega
        obtain rfl : i = L2.length := by omega
        go_wp2
        go_ret2
        exact ⟨_, 0, rfl, HNP.out, (BW.out.mono (Nat.le_of_lt hpl)).setCell (p := ⟨p, 0, none⟩) (Nat.le_refl _) _⟩
end Go.Proofs.Ytmffobadnmkpbaa
namespace Go.Proofs.Ytmffobadnmkpbaa
open Go.RowKit

/-- the terms of a text's sentences -/
def RetSome12 (w : World) (e : Ending) (w' : World) : Prop := ∃ v l, e = .returned v ∧ TsAt (fun _ => True) w' v l ∧ (∀ t ∈ l, Fine t) ∧ l.length ≤ 60 ∧ Below w.heap.size w w'
theorem own_made12 (w : World) (e : TypeId) : (w.alloc (.cells #[] e)).ownsRow w.heap.size e 4 (.slice (some ⟨w.heap.size, 0, none⟩) 0 0) 0 [] :=
  World.ownsRow_made (base := w.heap.size) (size := 4) (e := e) w #[] 0 (by simp) (by decide) rfl
set_option maxRecDepth 100000 in
set_option maxHeartbeats 1600000 in
theorem some12_c (s : ByteArray) (w : World) : Calls Try.prog 45 #[.string s] w (RetSome12 w) := by
  obtain ⟨i0, hi, hz0, hz1, hz2⟩ := info_parts Try.infoTerm
  have HB0 : Hid (∀ T, Below w.heap.size w (w.alloc (.cells #[] T))) := fun T => (Below.refl _ _).alloc (Nat.le_refl _) _
  by_cases hs : 2048 < s.size
  · go_enter Try.func45, Try.ntmps45
    go_wp2
    go_ret
    exact ⟨_, [], rfl, ⟨_, 0, rfl, Nat.le_refl _, by simp [maxLen], (fun h => by cases h), fun h => by simp at h⟩, by simp, by simp, HB0.out _⟩
  have CR := Lib.hid (readAll_c s (by omega) (w.alloc (.cells #[] 24)))
  go_enter Try.func45, Try.ntmps45
  go_wp2_with (first | (go_at_call 65; ((with_reducible refine CR.out.mono ?_); rintro e W1 ⟨v, pl, y, l, rfl, sn, hl, hll, b1⟩; obtain ⟨va, vc, rfl, _⟩ := sn.shape; have SN := Lib.hid sn; have HL := Lib.hid hl; have B1 := Lib.hid b1; clear sn hl b1)))
  have hsz : w.heap.size + 1 ≤ W1.heap.size := by have := B1.out.size; simpa using this
  have B1' : Hid (Below (w.heap.size + 1) (w.alloc (.cells #[] 24)) W1) := by show Below _ _ _; have := B1.out; simpa using this
  have SN' : Hid (SnAt (w.heap.size + 1) W1 (.slice va l.length vc) l) := by show SnAt _ _ _ _; have := SN.out; simpa using this
  go_loopg [3, 7] l.length (fun n o i wr => ∃ (k : Nat) (L : List (Tm × Value)), k ≤ l.length ∧ k ≤ 60 ∧ i = .int .i64 k ∧ Hid (n = l.length - k) ∧ Hid (SmW w.heap.size W1.heap.size w W1 l o wr k L) ∧ L.length = k)
  case atStart =>
    refine ⟨0, [], by omega, by omega, rfl, rfl, ⟨?_, rfl, rfl, by simp, fun _ _ _ => rfl, ?_, ?_, Nat.le_refl _⟩, rfl⟩
    · exact own_below (own_made12 w _) B1.out
    · intro g hg; left; simpa [Value.ownBlock] using hg.symm
    · exact (HB0.out _).trans (B1'.out.mono (by omega))
  case round =>
    obtain ⟨k, L, hk, hk4, rfl, HN, HW, hLk⟩ := hrel
    by_cases hlt : k < l.length
    · by_cases h40 : k < 60
      · obtain ⟨b, off, a, rfl, hlb, hne, hcc, hta⟩ := SN'.out.apart B1'.out k hlt
        obtain ⟨p1, q1, rfl, _⟩ := hta.shape
        have hsz2 := HW.out.size
        have hcw := hcc.block (HW.out.agr b hlb hne)
        have HT := Lib.hid hta
        have HP : Hid (∀ (g cap : Nat) (w' : World), w'.ownsRow w.heap.size 24 4 (.slice (some ⟨g, 0, none⟩) (L.length + 1) cap) (L.length + 1) (tmCs L ++ (#[.int .i64 l[k].kind, .int .i64 l[k].num, .string l[k].name, .slice p1 l[k].args.length q1] : Array Value).toList) → Below w.heap.size wr w' → KeepsBut wr w' u3 → (u3.ownBlock = some g ∨ wr.heap.size ≤ g) → SmW w.heap.size W1.heap.size w W1 l (.slice (some ⟨g, 0, none⟩) (L.length + 1) cap) w' (k + 1) (L ++ [(l[k], .slice p1 l[k].args.length q1)])) := fun g cap w' h1 h2 h3 h4 => HW.out.push hlt HT.out h1 h2 h3 h4
        obtain ⟨x0, x1, x2, x3⟩ := hcw
        have hbw : b < wr.heap.size := by omega
        clear hta hcc
        generalize l[k] = t at *
        obtain ⟨oa, oc, rfl, _⟩ := (SlAt.of_own HW.out.own).shape
        have hb0 : w.heap.size ≤ wr.heap.size := by omega
        go_wp2_with (first
          | (at_builtin; refine wpList_appendX rfl (.tmp 29) (.tmp 35) 22 rfl w.heap.size 24 i0 (.agg #[.int .i64 0, .int .i64 0, .string ByteArray.empty, .slice none 0 0]) 4 56 Try.underlying22 hi hz0 hz1 hz2 rfl (by decide) _ L.length (tmCs L) rfl HW.out.own _ _ rfl rfl rfl (one4r rfl rfl rfl rfl) ⟨by omega, by omega⟩ hb0 ?_; intro g cap W5 ho5 hb5 hk5 hl5; have R5 := Lib.hid (HP.out g cap W5 ho5 hb5 hk5 hl5); clear ho5 hb5 hk5 hl5))
        go_roundg (l.length - (k + 1))
        case measure => have := HN.out; omega
        case rel =>
          rw [hLk] at R5
          exact ⟨k + 1, _, by omega, by omega, by go_num, rfl, R5, by simp [hLk]⟩
      · go_wp2
        go_ret
        exact ⟨_, _, rfl, HW.out.ret, fun t ht => HL.out t (List.mem_of_mem_take ht), by simp; omega, HW.out.bel⟩
    · go_wp2
      go_ret
      exact ⟨_, _, rfl, HW.out.ret, fun t ht => HL.out t (List.mem_of_mem_take ht), by simp; omega, HW.out.bel⟩
end Go.Proofs.Ytmffobadnmkpbaa
