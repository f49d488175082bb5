/-
  coneyref05.One, walked; the contracts of term, Read and One as they stand.
-/
import Derived.Test.YtmffobadnmkpbaaKpars4
import Derived.Test.YtmffobadnmkpbaaKpars5
import Derived.Test.YtmffobadnmkpbaaKpars6
namespace Go.Proofs.Ytmffobadnmkpbaa
open Go.RowKit

theorem term_all : ∀ j : Nat, j ≤ 65 → TermOk (65 - (j : Int)) := by
  intro j
  induction j with
  | zero => intro _; simpa using term_deep
  | succ j ih =>
    intro h
    have e : (65 : Int) - (j : Int) = 65 - ((j + 1 : Nat) : Int) + 1 := by omega
    have h1 := ih (by omega)
    rw [e] at h1
    exact term_step (by omega) (by omega) (fun w B s lv toks k nv ns pl e hr hok most => operand_c (by omega) (by omega) h1 hr hok most) h1
theorem term_zero : TermOk 0 := by simpa using term_all 65 (Nat.le_refl _)
theorem readAll_c (s : ByteArray) (hs : s.size ≤ 4099) (w : World) : Calls Try.prog 65 #[.string s] w (RetRead w) := read_c term_zero s hs w
/-- what One tells: a term, where it makes no fault -/
def RetOne (w : World) (e : Ending) (w' : World) : Prop := ∃ t a an nn cn pl x, e = .returned (.tuple #[.agg #[.int .i64 t.kind, .int .i64 t.num, .string t.name, a, .slice an nn cn], .int .i64 pl, .int .i64 x]) ∧ TmAt (fun b => w.heap.size ≤ b) w' t a ∧ (x = 0 → t.ok ∧ t.size ≤ 2001) ∧ Below w.heap.size w w'
theorem five_below {w W : World} (h : Below w.heap.size w W) {B : Nat} (hB : w.heap.size ≤ B) {a b c d e : Value} : Below w.heap.size w (((((W.setCell ⟨B, 0, none⟩ a).setCell ⟨B, 1, none⟩ b).setCell ⟨B, 2, none⟩ c).setCell ⟨B, 3, none⟩ d).setCell ⟨B, 4, none⟩ e) :=
  ((((h.setCell (p := ⟨B, 0, none⟩) hB _).setCell (p := ⟨B, 1, none⟩) hB _).setCell (p := ⟨B, 2, none⟩) hB _).setCell (p := ⟨B, 3, none⟩) hB _).setCell (p := ⟨B, 4, none⟩) hB _
structure Cells5 (w : World) (b off : Nat) (t : Tm) (a an : Value) : Prop where
  c0 : w.cell? ⟨b, off, none⟩ = some (.int .i64 t.kind)
  c1 : w.cell? ⟨b, off + 1, none⟩ = some (.int .i64 t.num)
  c2 : w.cell? ⟨b, off + 2, none⟩ = some (.string t.name)
  c3 : w.cell? ⟨b, off + 3, none⟩ = some a
  c4 : w.cell? ⟨b, off + 4, none⟩ = some an
theorem len_or {B0 : Nat} {w : World} {va : Option Addr} {vc : Nat} {l : List Tm} (_h : SnAt B0 w (.slice va l.length vc) l) : (∃ t, l = [t]) ∨ (Hid (l.length ≠ 1) ∧ ((l.length : Int) != 1) = true) := by
  by_cases h1 : l.length = 1
  · exact .inl (by match l, h1 with | [t], _ => exact ⟨t, rfl⟩)
  · exact .inr ⟨Lib.hid h1, by simpa using (by omega : (l.length : Int) ≠ 1)⟩
theorem sn_one {B0 : Nat} {w : World} {va : Option Addr} {vc : Nat} {t : Tm} (h : SnAt B0 w (.slice va [t].length vc) [t]) : ∃ b off a m c an nn cn, va = some ⟨b, off, none⟩ ∧ w.cell? ⟨b, off, none⟩ = some (.int .i64 t.kind) ∧ w.cell? ⟨b, off + 1, none⟩ = some (.int .i64 t.num) ∧ w.cell? ⟨b, off + 2, none⟩ = some (.string t.name) ∧
    w.cell? ⟨b, off + 3, none⟩ = some (.slice a m c) ∧ w.cell? ⟨b, off + 4, none⟩ = some (.slice an nn cn) ∧ TmAt (fun b => B0 ≤ b) w t (.slice a m c) := by
  obtain ⟨b, off, a, an, nn, cn, rfl, _, cc, c4, tt⟩ := h.get 0 (by simp)
  obtain ⟨ao, cap, rfl, _⟩ := tt.shape
  exact ⟨b, off, ao, _, cap, an, nn, cn, rfl, by simpa using cc.c0, by simpa using cc.c1, by simpa using cc.c2, by simpa using cc.c3, by simpa using c4, by simpa using tt⟩
theorem five_heap (W : World) {B : Nat} {a b c d e : Value} (x : Nat) (hx : x ≠ B) : (((((W.setCell ⟨B, 0, none⟩ a).setCell ⟨B, 1, none⟩ b).setCell ⟨B, 2, none⟩ c).setCell ⟨B, 3, none⟩ d).setCell ⟨B, 4, none⟩ e).heap[x]? = W.heap[x]? := by
  rw [Below.heap_setCell _ _ _ _ hx, Below.heap_setCell _ _ _ _ hx, Below.heap_setCell _ _ _ _ hx, Below.heap_setCell _ _ _ _ hx, Below.heap_setCell _ _ _ _ hx]
set_option maxRecDepth 100000 in
set_option maxHeartbeats 3200000 in
theorem one5_c (s : ByteArray) (hs : s.size ≤ 4000) (w : World) : Calls Try.prog 60 #[.string s] w (RetOne w) := by
  have HZ : Hid (Below w.heap.size w (w.alloc (.cells #[.int .i64 0, .int .i64 0, .string ⟨#[]⟩, .slice none 0 0, .slice none 0 0] 69))) := (Below.refl _ _).alloc (Nat.le_refl _) _
  have CT := Lib.hid (fun W => tokens_c s W (by unfold maxLen; omega))
  have CR : Hid (∀ T : ByteArray, T.size ≤ 4099 → ∀ W, Calls Try.prog 65 #[.string T] W (RetRead W)) := fun T hT W => readAll_c T hT W
  go_enter Try.func60, Try.ntmps60
  go_upto_region 5 with (go_at_call 100; ((with_reducible refine (CT.out _).mono ?_); rintro e W1 ⟨tv, tp, tx, toks, rfl, hsl, hlen, htx, ⟨ta, tn, tc, rfl⟩, b1⟩; have B1 := Lib.hid (HZ.out.trans (b1.mono HZ.out.size)); have HB1 := Lib.hid (box_below b1); have HSL := Lib.hid hsl; clear b1 hsl htx; obtain ⟨x0, fx0⟩ := HB1.out.get 0 rfl; obtain ⟨x1, fx1⟩ := HB1.out.get 1 rfl; obtain ⟨x2, fx2⟩ := HB1.out.get 2 rfl; obtain ⟨x3, fx3⟩ := HB1.out.get 3 rfl; obtain ⟨x4, fx4⟩ := HB1.out.get 4 rfl; rcases e_or tx with ⟨HE, heb, hen⟩ | ⟨HE, heb, hen⟩))
  rotate_left
  · refine bodyPost_ret (v := .tuple #[.agg #[.int .i64 0, .int .i64 0, .string ⟨#[]⟩, .slice none 0 0, .slice none 0 0], .int .i64 tp, .int .i64 tx]) (by simp [results, Try.results60, go_sem, x0, x1, x2, x3, x4]; try rfl) rfl ?_
    exact ⟨.nil, _, _, _, _, _, _, rfl, .leaf rfl, fun h => absurd h HE.out, five_below B1.out (Nat.le_refl _)⟩
  · obtain ⟨ta2, tc2, he, _⟩ := (HSL.out HE.out).shape
    simp only [Value.slice.injEq] at he
    obtain ⟨rfl, rfl, rfl⟩ := he
    have HTK := Lib.hid (TkAt.of_sl (HSL.out HE.out) (Nat.le_refl _))
    have HL : Hid (∀ m, toks.length = m + 1 → ∃ b off kd, ta = some ⟨b, off, none⟩ ∧ W1.cell? ⟨b, off + m * 4, none⟩ = some (.int .i64 kd)) := fun m hm => by
      obtain ⟨b, off, h1, _, h2⟩ := HTK.out.get m (by omega)
      exact ⟨b, off, _, h1, h2.c0⟩
    have HSZ : Hid (w.heap.size < W1.heap.size) := HB1.out.lt4
    clear HSL HTK
    generalize toks.length = n at *
    have hs2 : (s ++ ⟨#[32, 46]⟩ : ByteArray).size ≤ 4099 := by rw [ByteArray.size_append]; show s.size + 2 ≤ _; omega
    rcases n with _ | m
    · clear HL
      go_wp2_with (go_at_call 65; ((refine (CR.out _ ?_ _).mono ?_); (· first | exact hs2 | omega); rintro e W2 ⟨v, pl, y, l, rfl, sn, hl, hll, b2⟩; have B2 := Lib.hid (B1.out.trans (b2.mono B1.out.size)); have HB2 := HB1.out.below b2 HB1.out.lt4; clear x0 x1 x2 x3 x4 fx0 fx1 fx2 fx3 fx4; obtain ⟨x0, fx0⟩ := HB2.get 0 rfl; obtain ⟨x1, fx1⟩ := HB2.get 1 rfl; obtain ⟨x2, fx2⟩ := HB2.get 2 rfl; obtain ⟨x3, fx3⟩ := HB2.get 3 rfl; obtain ⟨x4, fx4⟩ := HB2.get 4 rfl; obtain ⟨va, vc, rfl, _⟩ := sn.shape; have SN := Lib.hid sn; have HLO := Lib.hid hl; clear b2 HB2 sn hl; rcases e_or y with ⟨HY, hyb, hyn⟩ | ⟨HY, hyb, hyn⟩; all_goals obtain ⟨t, rfl⟩ | ⟨H1, h1b⟩ := len_or SN.out; all_goals try (obtain ⟨b0, o0, a0, m0, ac0, an0, nn0, cn0, rfl, q0, q1, q2, q3, q4, tt⟩ := sn_one SN.out; have TT := Lib.hid tt; clear tt)))
      all_goals first
        | (refine bodyPost_ret (v := .tuple #[.agg #[.int .i64 t.kind, .int .i64 t.num, .string t.name, .slice a0 m0 ac0, .slice an0 nn0 cn0], .int .i64 0, .int .i64 0]) ?_ rfl ?_
           · simp [results, Try.results60, go_sem, x0, x1, x2, x3, x4]
             try rfl
           · exact ⟨t, _, _, _, _, _, _, rfl, TT.out.mono fun b _ hb => ⟨Nat.le_trans (Nat.le_of_lt HSZ.out) hb, five_heap _ _ (by have := HSZ.out; omega)⟩, fun _ => HLO.out t (by simp), five_below B2.out (Nat.le_refl _)⟩)
        | (refine bodyPost_ret (v := .tuple #[.agg #[.int .i64 0, .int .i64 0, .string ⟨#[]⟩, .slice none 0 0, .slice none 0 0], .int .i64 s.size, .int .i64 50]) ?_ rfl ?_
           · simp [results, Try.results60, go_sem, x0, x1, x2, x3, x4]
             try rfl
           · exact ⟨.nil, _, _, _, _, _, _, rfl, .leaf rfl, (fun h => by simp at h), five_below B2.out (Nat.le_refl _)⟩)
        | (refine bodyPost_ret (v := .tuple #[.agg #[.int .i64 0, .int .i64 0, .string ⟨#[]⟩, .slice none 0 0, .slice none 0 0], .int .i64 pl, .int .i64 y]) ?_ rfl ?_
           · simp [results, Try.results60, go_sem, x0, x1, x2, x3, x4]
             try rfl
           · exact ⟨.nil, _, _, _, _, _, _, rfl, .leaf rfl, (fun h => absurd h HY.out), five_below B2.out (Nat.le_refl _)⟩)
        | (refine bodyPost_ret (v := .tuple #[.agg #[.int .i64 0, .int .i64 0, .string ⟨#[]⟩, .slice none 0 0, .slice none 0 0], .int .i64 s.size, .int .i64 y]) ?_ rfl ?_
           · simp [results, Try.results60, go_sem, x0, x1, x2, x3, x4]
             try rfl
           · exact ⟨.nil, _, _, _, _, _, _, rfl, .leaf rfl, (fun h => absurd h HY.out), five_below B2.out (Nat.le_refl _)⟩)
        | (refine bodyPost_ret (v := .tuple #[.agg #[.int .i64 0, .int .i64 0, .string ⟨#[]⟩, .slice none 0 0, .slice none 0 0], .int .i64 (min pl s.size), .int .i64 y]) ?_ rfl ?_
           · simp [results, Try.results60, go_sem, x0, x1, x2, x3, x4]
             try rfl
           · exact ⟨.nil, _, _, _, _, _, _, rfl, .leaf rfl, (fun h => absurd h HY.out), five_below B2.out (Nat.le_refl _)⟩)
    · obtain ⟨b, off, kd, rfl, hk⟩ := HL.out m rfl
      clear HL
      go_wp2_with (go_at_call 65; ((refine (CR.out _ ?_ _).mono ?_); (· first | exact hs2 | omega); rintro e W2 ⟨v, pl, y, l, rfl, sn, hl, hll, b2⟩; have B2 := Lib.hid (B1.out.trans (b2.mono B1.out.size)); have HB2 := HB1.out.below b2 HB1.out.lt4; clear x0 x1 x2 x3 x4 fx0 fx1 fx2 fx3 fx4; obtain ⟨x0, fx0⟩ := HB2.get 0 rfl; obtain ⟨x1, fx1⟩ := HB2.get 1 rfl; obtain ⟨x2, fx2⟩ := HB2.get 2 rfl; obtain ⟨x3, fx3⟩ := HB2.get 3 rfl; obtain ⟨x4, fx4⟩ := HB2.get 4 rfl; obtain ⟨va, vc, rfl, _⟩ := sn.shape; have SN := Lib.hid sn; have HLO := Lib.hid hl; clear b2 HB2 sn hl; rcases e_or y with ⟨HY, hyb, hyn⟩ | ⟨HY, hyb, hyn⟩; all_goals obtain ⟨t, rfl⟩ | ⟨H1, h1b⟩ := len_or SN.out; all_goals try (obtain ⟨b0, o0, a0, m0, ac0, an0, nn0, cn0, rfl, q0, q1, q2, q3, q4, tt⟩ := sn_one SN.out; have TT := Lib.hid tt; clear tt)))
      all_goals first
        | (refine bodyPost_ret (v := .tuple #[.agg #[.int .i64 t.kind, .int .i64 t.num, .string t.name, .slice a0 m0 ac0, .slice an0 nn0 cn0], .int .i64 0, .int .i64 0]) ?_ rfl ?_
           · simp [results, Try.results60, go_sem, x0, x1, x2, x3, x4]
             try rfl
           · exact ⟨t, _, _, _, _, _, _, rfl, TT.out.mono fun b _ hb => ⟨Nat.le_trans (Nat.le_of_lt HSZ.out) hb, five_heap _ _ (by have := HSZ.out; omega)⟩, fun _ => HLO.out t (by simp), five_below B2.out (Nat.le_refl _)⟩)
        | (refine bodyPost_ret (v := .tuple #[.agg #[.int .i64 0, .int .i64 0, .string ⟨#[]⟩, .slice none 0 0, .slice none 0 0], .int .i64 s.size, .int .i64 50]) ?_ rfl ?_
           · simp [results, Try.results60, go_sem, x0, x1, x2, x3, x4]
             try rfl
           · exact ⟨.nil, _, _, _, _, _, _, rfl, .leaf rfl, (fun h => by simp at h), five_below B2.out (Nat.le_refl _)⟩)
        | (refine bodyPost_ret (v := .tuple #[.agg #[.int .i64 0, .int .i64 0, .string ⟨#[]⟩, .slice none 0 0, .slice none 0 0], .int .i64 pl, .int .i64 y]) ?_ rfl ?_
           · simp [results, Try.results60, go_sem, x0, x1, x2, x3, x4]
             try rfl
           · exact ⟨.nil, _, _, _, _, _, _, rfl, .leaf rfl, (fun h => absurd h HY.out), five_below B2.out (Nat.le_refl _)⟩)
        | (refine bodyPost_ret (v := .tuple #[.agg #[.int .i64 0, .int .i64 0, .string ⟨#[]⟩, .slice none 0 0, .slice none 0 0], .int .i64 s.size, .int .i64 y]) ?_ rfl ?_
           · simp [results, Try.results60, go_sem, x0, x1, x2, x3, x4]
             try rfl
           · exact ⟨.nil, _, _, _, _, _, _, rfl, .leaf rfl, (fun h => absurd h HY.out), five_below B2.out (Nat.le_refl _)⟩)
        | (refine bodyPost_ret (v := .tuple #[.agg #[.int .i64 0, .int .i64 0, .string ⟨#[]⟩, .slice none 0 0, .slice none 0 0], .int .i64 (min pl s.size), .int .i64 y]) ?_ rfl ?_
           · simp [results, Try.results60, go_sem, x0, x1, x2, x3, x4]
             try rfl
           · exact ⟨.nil, _, _, _, _, _, _, rfl, .leaf rfl, (fun h => absurd h HY.out), five_below B2.out (Nat.le_refl _)⟩)
end Go.Proofs.Ytmffobadnmkpbaa
