/-
  THE ORDER OF TERMS, plain: cmpT; it is a total one, and turned the other way round. Over any program.
  Numbers and texts compared: cmp.Compare, cmp.Or, coneyref07.order, texts, walked.
  cmp.Or of two numbers, walked.
  slices.CompareFunc over two lists of terms, walked over the contract of the order of the first one's terms.
  term.Compare, walked.
  coneyref07.Compare, walked.
  coneylaw07.some: the terms of a text's sentences, walked.
  coneylaw07.some, walked.
-/
import Derived.Test.YtmffobadnmkpbaaKpars1
import Derived.Test.YtmffobadnmkpbaaRows
import Derived.Test.YtmffobadnmkpbaaKlib1
import Derived.Laws.Cover1
import Derived.WalkKit
import Derived.WalkSpells
import Derived.WalkLawsBesides
import Derived.Lib.Hide
import Derived.Deep.LoopGhost
import Derived.Deep.RegionHeld3
import Derived.Deep.Cut
import Derived.Handy
import Derived.Test.YtmffobadnmkpbaaKpars7
namespace Go.Proofs.Ytmffobadnmkpbaa
open Go.RowKit

def lex (a b : Int) : Int := if a = 0 then b else a
def cmpI (a b : Int) : Int := if a < b then -1 else if b < a then 1 else 0
def cmpB : List UInt8 → List UInt8 → Int
  | [], [] => 0
  | [], _ :: _ => -1
  | _ :: _, [] => 1
  | a :: x, b :: y => lex (cmpI a.toNat b.toNat) (cmpB x y)
def cmpS (a b : ByteArray) : Int := cmpB a.toList b.toList

mutual
def cmpT : Tm → Tm → Int
  | .cmp s l, b => lex (cmpI 4 b.kind) (lex (cmpI 0 b.num) (lex (cmpI l.length b.args.length) (lex (cmpS s b.name) (cmpL l b.args))))
  | .nil, b => lex (cmpI 0 b.kind) (lex (cmpI 0 b.num) (cmpS ByteArray.empty b.name))
  | .var n, b => lex (cmpI 1 b.kind) (lex (cmpI n b.num) (cmpS ByteArray.empty b.name))
  | .int z, b => lex (cmpI 2 b.kind) (lex (cmpI z b.num) (cmpS ByteArray.empty b.name))
  | .atom s, b => lex (cmpI 3 b.kind) (lex (cmpI 0 b.num) (cmpS s b.name))
def cmpL : List Tm → List Tm → Int
  | [], [] => 0
  | [], _ :: _ => -1
  | _ :: _, [] => 1
  | a :: x, b :: y => lex (cmpT a b) (cmpL x y)
end

theorem lex_zero (b : Int) : lex 0 b = b := rfl
theorem lex_ne {a : Int} (b : Int) (h : a ≠ 0) : lex a b = a := by simp [lex, h]
theorem lex_right (a : Int) : lex a 0 = a := by unfold lex; split <;> omega
theorem cmpI_self (a : Int) : cmpI a a = 0 := by simp [cmpI]
theorem cmpI_zero {a b : Int} : cmpI a b = 0 ↔ a = b := by unfold cmpI; (repeat' split) <;> omega
theorem Tm.leaf {t : Tm} (h : t.kind ≠ 4) : t.args = [] := by cases t <;> simp_all [Tm.kind, Tm.args]

theorem cmpT_eq (a b : Tm) : cmpT a b = lex (cmpI a.kind b.kind) (lex (cmpI a.num b.num) (lex (cmpI a.args.length b.args.length) (lex (cmpS a.name b.name) (cmpL a.args b.args)))) := by
  have key : ∀ a : Tm, a.kind ≠ 4 → lex (cmpI a.kind b.kind) (lex (cmpI a.num b.num) (cmpS a.name b.name)) = lex (cmpI a.kind b.kind) (lex (cmpI a.num b.num) (lex (cmpI a.args.length b.args.length) (lex (cmpS a.name b.name) (cmpL a.args b.args)))) := by
    intro a ha
    by_cases e : cmpI a.kind b.kind = 0
    · have hb : b.kind ≠ 4 := by rw [← cmpI_zero.1 e]; exact ha
      rw [Tm.leaf ha, Tm.leaf hb]
      simp only [cmpL, lex_right, List.length_nil, cmpI_self, lex_zero]
    · rw [lex_ne _ e, lex_ne _ e]
  cases a with
  | cmp s l => simp only [cmpT, Tm.kind, Tm.num, Tm.name, Tm.args]
  | nil => have := key .nil (by simp [Tm.kind]); simp only [cmpT]; exact this
  | var n => have := key (.var n) (by simp [Tm.kind]); simp only [cmpT]; exact this
  | int z => have := key (.int z) (by simp [Tm.kind]); simp only [cmpT]; exact this
  | atom s => have := key (.atom s) (by simp [Tm.kind]); simp only [cmpT]; exact this

/-! ### signs, and the other way round -/
def Sg (x : Int) : Prop := x = -1 ∨ x = 0 ∨ x = 1
theorem Sg.lex {a b : Int} (ha : Sg a) (hb : Sg b) : Sg (lex a b) := by unfold Proofs.Ytmffobadnmkpbaa.lex; split <;> assumption
theorem sg_cmpI (a b : Int) : Sg (cmpI a b) := by unfold cmpI Sg; (repeat' split) <;> omega
theorem sg_cmpB : ∀ a b, Sg (cmpB a b)
  | [], [] => .inr (.inl rfl)
  | [], _ :: _ => .inl rfl
  | _ :: _, [] => .inr (.inr rfl)
  | a :: x, b :: y => by rw [cmpB]; exact (sg_cmpI _ _).lex (sg_cmpB x y)
theorem sg_cmpL_of : ∀ (a b : List Tm), (∀ t ∈ a, ∀ u, Sg (cmpT t u)) → Sg (cmpL a b)
  | [], [], _ => by rw [cmpL]; exact .inr (.inl rfl)
  | [], _ :: _, _ => by rw [cmpL]; exact .inl rfl
  | _ :: _, [], _ => by rw [cmpL]; exact .inr (.inr rfl)
  | a :: x, b :: y, h => by rw [cmpL]; exact (h a (by simp) b).lex (sg_cmpL_of x y fun t ht => h t (by simp [ht]))
theorem sg_of (a b : Tm) (h : Sg (cmpL a.args b.args)) : Sg (cmpT a b) := by
  rw [cmpT_eq]; exact (sg_cmpI _ _).lex ((sg_cmpI _ _).lex ((sg_cmpI _ _).lex ((sg_cmpB _ _).lex h)))
theorem sg_cmpT (a : Tm) : ∀ b, Sg (cmpT a b) := by
  induction a using Tm.ind with
  | h4 s l ih => exact fun b => sg_of _ b (sg_cmpL_of l b.args ih)
  | _ => exact fun b => sg_of _ b (sg_cmpL_of [] b.args (by simp))
theorem sg_cmpL (a b : List Tm) : Sg (cmpL a b) := sg_cmpL_of a b fun t _ => sg_cmpT t

theorem lex_neg {a b a' b' : Int} (h : a' = -a) (h' : a = 0 → b' = -b) : lex a' b' = -lex a b := by
  subst h
  unfold lex
  by_cases e : a = 0
  · simp [e, h' e]
  · rw [if_neg (by omega), if_neg e]
theorem cmpI_neg (a b : Int) : cmpI b a = -cmpI a b := by unfold cmpI; repeat' split <;> omega
theorem cmpB_neg : ∀ a b, cmpB b a = -cmpB a b
  | [], [] => rfl
  | [], _ :: _ => rfl
  | _ :: _, [] => rfl
  | a :: x, b :: y => by rw [cmpB, cmpB]; exact lex_neg (cmpI_neg _ _) fun _ => cmpB_neg x y
theorem cmpL_neg_of : ∀ (a b : List Tm), (∀ t ∈ a, ∀ u, cmpT u t = -cmpT t u) → cmpL b a = -cmpL a b
  | [], [], _ => by simp [cmpL]
  | [], _ :: _, _ => by simp [cmpL]
  | _ :: _, [], _ => by simp [cmpL]
  | a :: x, b :: y, h => by rw [cmpL, cmpL]; exact lex_neg (h a (by simp) b) fun _ => cmpL_neg_of x y fun t ht => h t (by simp [ht])
theorem neg_of (a b : Tm) (h : cmpL b.args a.args = -cmpL a.args b.args) : cmpT b a = -cmpT a b := by
  rw [cmpT_eq, cmpT_eq]; exact lex_neg (cmpI_neg _ _) fun _ => lex_neg (cmpI_neg _ _) fun _ => lex_neg (cmpI_neg _ _) fun _ => lex_neg (cmpB_neg _ _) fun _ => h
theorem cmpT_neg (a : Tm) : ∀ b, cmpT b a = -cmpT a b := by
  induction a using Tm.ind with
  | h4 s l ih => exact fun b => neg_of _ b (cmpL_neg_of l b.args ih)
  | _ => exact fun b => neg_of _ b (cmpL_neg_of [] b.args (by simp))
theorem cmpT_self (a : Tm) : cmpT a a = 0 := by have := cmpT_neg a a; omega

/-! ### it is a total order -/
def T3 (x y z : Int) : Prop := x ≤ 0 → y ≤ 0 → z ≤ 0 ∧ (z < 0 ↔ x < 0 ∨ y < 0)
theorem T3.lex {x y z x' y' z' : Int} (h : T3 x y z) (h' : x = 0 → y = 0 → T3 x' y' z') : T3 (lex x x') (lex y y') (lex z z') := by
  unfold T3 Proofs.Ytmffobadnmkpbaa.lex at *
  intro hx hy
  by_cases ex : x = 0
  · by_cases ey : y = 0
    · have := h (by omega) (by omega)
      have ez : z = 0 := by omega
      have := h' ex ey
      simp only [ex, ey, ez, if_true] at hx hy ⊢
      exact this hx hy
    · rw [if_neg ey] at hy ⊢
      rw [if_pos ex]
      rw [if_pos ex] at hx
      have := h (by omega) hy
      rw [if_neg (by omega)]
      refine ⟨this.1, fun _ => .inr (by omega), fun _ => by omega⟩
  · rw [if_neg ex] at hx ⊢
    have hy' : y ≤ 0 := by split at hy <;> omega
    have := h hx hy'
    rw [if_neg (by omega)]
    exact ⟨this.1, fun _ => .inl (by omega), fun _ => by omega⟩
theorem t3_cmpI (a b c : Int) : T3 (cmpI a b) (cmpI b c) (cmpI a c) := by
  unfold T3 cmpI; repeat' split
  all_goals omega
theorem t3_cmpB : ∀ a b c, T3 (cmpB a b) (cmpB b c) (cmpB a c)
  | [], [], [] => by simp [T3, cmpB]
  | [], [], _ :: _ => by simp [T3, cmpB]
  | [], _ :: _, [] => by simp [T3, cmpB]
  | [], _ :: _, _ :: _ => by simp [T3, cmpB]
  | _ :: _, [], [] => by simp [T3, cmpB]
  | _ :: _, [], _ :: _ => by simp [T3, cmpB]
  | _ :: _, _ :: _, [] => by simp [T3, cmpB]
  | a :: x, b :: y, c :: z => by rw [cmpB, cmpB, cmpB]; exact (t3_cmpI _ _ _).lex fun _ _ => t3_cmpB x y z
theorem t3_cmpL_of : ∀ (a b c : List Tm), (∀ t ∈ a, ∀ u v, T3 (cmpT t u) (cmpT u v) (cmpT t v)) → T3 (cmpL a b) (cmpL b c) (cmpL a c)
  | [], [], [], _ => by simp [T3, cmpL]
  | [], [], _ :: _, _ => by simp [T3, cmpL]
  | [], _ :: _, [], _ => by simp [T3, cmpL]
  | [], _ :: _, _ :: _, _ => by simp [T3, cmpL]
  | _ :: _, [], [], _ => by simp [T3, cmpL]
  | _ :: _, [], _ :: _, _ => by simp [T3, cmpL]
  | _ :: _, _ :: _, [], _ => by simp [T3, cmpL]
  | a :: x, b :: y, c :: z, h => by rw [cmpL, cmpL, cmpL]; exact (h a (by simp) b c).lex fun _ _ => t3_cmpL_of x y z fun t ht => h t (by simp [ht])
theorem t3_of (a b c : Tm) (h : T3 (cmpL a.args b.args) (cmpL b.args c.args) (cmpL a.args c.args)) : T3 (cmpT a b) (cmpT b c) (cmpT a c) := by
  rw [cmpT_eq, cmpT_eq, cmpT_eq]; exact (t3_cmpI _ _ _).lex fun _ _ => (t3_cmpI _ _ _).lex fun _ _ => (t3_cmpI _ _ _).lex fun _ _ => (t3_cmpB _ _ _).lex fun _ _ => h
theorem t3_cmpT (a : Tm) : ∀ b c, T3 (cmpT a b) (cmpT b c) (cmpT a c) := by
  induction a using Tm.ind with
  | h4 s l ih => exact fun b c => t3_of _ b c (t3_cmpL_of l b.args c.args ih)
  | _ => exact fun b c => t3_of _ b c (t3_cmpL_of [] b.args c.args (by simp))

/-! ### alike in the order is the same -/
theorem lex_eq0 {a b : Int} : lex a b = 0 ↔ a = 0 ∧ b = 0 := by unfold lex; split <;> omega
theorem cmpB_eq0 : ∀ {a b}, cmpB a b = 0 → a = b
  | [], [], _ => rfl
  | [], _ :: _, h => by simp [cmpB] at h
  | _ :: _, [], h => by simp [cmpB] at h
  | a :: x, b :: y, h => by
    rw [cmpB, lex_eq0, cmpI_zero] at h
    rw [cmpB_eq0 h.2, UInt8.toNat_inj.1 (by omega : a.toNat = b.toNat)]
theorem cmpL_eq0_of : ∀ (a b : List Tm), (∀ t ∈ a, ∀ u, cmpT t u = 0 → t = u) → cmpL a b = 0 → a = b
  | [], [], _, _ => rfl
  | [], _ :: _, _, h => by simp [cmpL] at h
  | _ :: _, [], _, h => by simp [cmpL] at h
  | a :: x, b :: y, hh, h => by
    rw [cmpL, lex_eq0] at h
    rw [hh a (by simp) b h.1, cmpL_eq0_of x y (fun t ht => hh t (by simp [ht])) h.2]
theorem toList_inj {a b : ByteArray} (h : a.toList = b.toList) : a = b := by
  rw [ByteArray.toList_eq, ByteArray.toList_eq] at h
  exact ByteArray.ext (Array.toList_inj.1 h)
theorem Tm.ext {a b : Tm} (hk : a.kind = b.kind) (hn : a.num = b.num) (hs : a.name = b.name) (hl : a.args = b.args) : a = b := by
  cases a <;> cases b <;> simp_all [Tm.kind, Tm.num, Tm.name, Tm.args] <;> omega
theorem eq0_of (a b : Tm) (h : cmpL a.args b.args = 0 → a.args = b.args) (e : cmpT a b = 0) : a = b := by
  rw [cmpT_eq, lex_eq0, lex_eq0, lex_eq0, lex_eq0, cmpI_zero, cmpI_zero] at e
  exact Tm.ext e.1 e.2.1 (toList_inj (cmpB_eq0 e.2.2.2.1)) (h e.2.2.2.2)
theorem cmpT_eq0 (a : Tm) : ∀ b, cmpT a b = 0 → a = b := by
  induction a using Tm.ind with
  | h4 s l ih => exact fun b => eq0_of _ b (cmpL_eq0_of l b.args ih)
  | _ => exact fun b => eq0_of _ b (cmpL_eq0_of [] b.args (by simp))

/-! ### what the machine asks of two texts -/
theorem cmpB_lt : ∀ a b, Op.bytesLess a b = decide (cmpB a b < 0)
  | [], [] => by simp [Op.bytesLess, cmpB]
  | [], _ :: _ => by simp [Op.bytesLess, cmpB]
  | _ :: _, [] => by simp [Op.bytesLess, cmpB]
  | a :: x, b :: y => by
    rw [Op.bytesLess, cmpB, cmpB_lt x y]
    by_cases h : a = b
    · subst h; simp [cmpI_self, lex_zero]
    · have hn : (a.toNat : Int) ≠ b.toNat := fun e => h (UInt8.toNat_inj.1 (by omega))
      rw [lex_ne _ (fun e => hn (cmpI_zero.1 e))]
      have : (a == b) = false := by simpa using h
      rw [this, Bool.false_and, Bool.or_false]
      unfold cmpI
      by_cases hl : a < b
      · have : (a.toNat : Int) < b.toNat := by have := UInt8.lt_iff_toNat_lt.1 hl; omega
        simp [hl, this]
      · have h2 : ¬ (a.toNat : Int) < b.toNat := fun e => hl (UInt8.lt_iff_toNat_lt.2 (by omega))
        rw [if_neg h2]
        simp only [hl, decide_false]
        split <;> simp
theorem cmpB_eq (a b : List UInt8) : (a == b) = decide (cmpB a b = 0) := by
  by_cases h : a = b
  · subst h
    have := cmpB_neg a a
    have e : cmpB a a = 0 := by omega
    simp [e]
  · have : cmpB a b ≠ 0 := fun e => h (cmpB_eq0 e)
    simp [h, this]
end Go.Proofs.Ytmffobadnmkpbaa
namespace Go.Proofs.Ytmffobadnmkpbaa
open Go.RowKit

set_option maxRecDepth 100000 in
theorem nanI_c (a : Int) (w : World) : Calls Try.prog 106 #[.int .i64 a] w fun e w' => e = .returned (.bool false) ∧ w = w' := by
  go_enter Try.func106, Try.ntmps106
  go_wp2
  go_ret
  exact ⟨ret_bool (by simp), rfl⟩
set_option maxRecDepth 100000 in
theorem nanS_c (a : ByteArray) (w : World) : Calls Try.prog 107 #[.string a] w fun e w' => e = .returned (.bool false) ∧ w = w' := by
  go_enter Try.func107, Try.ntmps107
  go_wp2
  go_ret
  exact ⟨ret_bool (by simp), rfl⟩

theorem cmpI_lt {a b : Int} (h : a < b) : cmpI a b = -1 := by simp [cmpI, h]
theorem cmpI_gt {a b : Int} (h : ¬ a < b) (h2 : b < a) : cmpI a b = 1 := by simp [cmpI, h, h2]
theorem cmpI_eq' {a b : Int} (h : ¬ a < b) (h2 : ¬ b < a) : cmpI a b = 0 := by simp [cmpI, h, h2]

set_option maxRecDepth 100000 in
theorem compareI_c (a b : Int) (w : World) : Calls Try.prog 66 #[.int .i64 a, .int .i64 b] w fun e w' => e = .returned (.int .i64 (cmpI a b)) ∧ w = w' := by
  by_cases h1 : a < b
  · rw [cmpI_lt h1]
    go_enter Try.func66, Try.ntmps66
    go_wp2_with (first | (go_at_call 106; (with_reducible refine (nanI_c _ _).mono ?_); rintro e w' ⟨rfl, rfl⟩))
    go_ret
    exact ⟨rfl, rfl⟩
  by_cases h2 : b < a
  · rw [cmpI_gt h1 h2]
    go_enter Try.func66, Try.ntmps66
    go_wp2_with (first | (go_at_call 106; (with_reducible refine (nanI_c _ _).mono ?_); rintro e w' ⟨rfl, rfl⟩))
    go_ret
    exact ⟨rfl, rfl⟩
  rw [cmpI_eq' h1 h2]
  go_enter Try.func66, Try.ntmps66
  go_wp2_with (first | (go_at_call 106; (with_reducible refine (nanI_c _ _).mono ?_); rintro e w' ⟨rfl, rfl⟩))
  go_ret
  exact ⟨rfl, rfl⟩

set_option maxRecDepth 100000 in
theorem order_c (a b : Int) (w : World) : Calls Try.prog 70 #[.int .i64 a, .int .i64 b] w fun e w' => e = .returned (.int .i64 (cmpI a b)) ∧ w = w' := by
  by_cases h1 : a < b
  · rw [cmpI_lt h1]
    go_enter Try.func70, Try.ntmps70
    go_wp2
    go_ret
    exact ⟨rfl, rfl⟩
  by_cases h2 : b < a
  · rw [cmpI_gt h1 h2]
    go_enter Try.func70, Try.ntmps70
    go_wp2
    go_ret
    exact ⟨rfl, rfl⟩
  rw [cmpI_eq' h1 h2]
  go_enter Try.func70, Try.ntmps70
  go_wp2
  go_ret
  exact ⟨rfl, rfl⟩

theorem cmpS_parts (a b : ByteArray) : ∃ x y : Bool, Op.bytesLess a.toList b.toList = x ∧ (a.toList == b.toList) = y ∧ cmpS a b = if x then -1 else if y then 0 else 1 := by
  refine ⟨_, _, rfl, rfl, ?_⟩
  rw [cmpB_lt, cmpB_eq]
  have := sg_cmpB a.toList b.toList
  unfold cmpS
  rcases this with e | e | e <;> simp [e]

set_option maxRecDepth 100000 in
theorem compareS_c (a b : ByteArray) (w : World) : Calls Try.prog 67 #[.string a, .string b] w fun e w' => e = .returned (.int .i64 (cmpS a b)) ∧ w = w' := by
  obtain ⟨x, y, ex, ey, e⟩ := cmpS_parts a b
  rw [e]
  clear e
  cases x <;> cases y
  all_goals
    go_enter Try.func67, Try.ntmps67
    go_wp2_with (first | (go_at_call 107; (with_reducible refine (nanS_c _ _).mono ?_); rintro e w' ⟨rfl, rfl⟩))
    go_ret
    exact ⟨rfl, rfl⟩
set_option maxRecDepth 100000 in
theorem texts_c (a b : ByteArray) (w : World) : Calls Try.prog 71 #[.string a, .string b] w fun e w' => e = .returned (.int .i64 (cmpS a b)) ∧ w = w' := by
  obtain ⟨x, y, ex, ey, e⟩ := cmpS_parts a b
  rw [e]
  clear e
  cases x <;> cases y
  all_goals
    go_enter Try.func71, Try.ntmps71
    go_wp2
    go_ret
    exact ⟨rfl, rfl⟩
end Go.Proofs.Ytmffobadnmkpbaa
namespace Go.Proofs.Ytmffobadnmkpbaa
open Go.RowKit

set_option maxRecDepth 100000 in
set_option maxHeartbeats 800000 in
theorem or_c (b : Nat) (x y : Int) (w : World) (h0 : w.cell? ⟨b, 0, none⟩ = some (.int .i64 x)) (h1 : w.cell? ⟨b, 1, none⟩ = some (.int .i64 y)) :
    Calls Try.prog 68 #[.slice (some ⟨b, 0, none⟩) 2 2] w fun e w' => e = .returned (.int .i64 (lex x y)) ∧ w = w' := by
  go_enter Try.func68, Try.ntmps68
  go_wp2
  go_loop [8] (fun s => ∃ k : Nat, k ≤ 2 ∧ s = .int .i64 k ∧ Hid (0 < k → x = 0) ∧ Hid (1 < k → y = 0)) (fun s => 2 - (intOf s).toNat)
  case atStart => exact ⟨0, by omega, rfl, (fun h => by omega : _ → _), (fun h => by omega : _ → _)⟩
  case round =>
    obtain ⟨k, hk, rfl, H0, H1⟩ := hrel
    rcases (by omega : k = 0 ∨ k = 1 ∨ k = 2) with rfl | rfl | rfl
    · by_cases hx : x = 0
      · have HX := Lib.hid hx
        have hxb : (x != 0) = false := by simpa using hx
        clear hx
        go_wp2
        exact ⟨⟨1, by omega, by go_num, fun _ => HX.out, fun h => by omega⟩, by simp [intOf]⟩
      · have HX := Lib.hid hx
        have hxb : (x != 0) = true := by simpa using hx
        clear hx
        go_wp2
        go_ret
        exact ⟨ret_int (by rw [lex_ne _ HX.out]), rfl⟩
    · have e0 := H0.out (by omega)
      by_cases hx : y = 0
      · have HX := Lib.hid hx
        have hxb : (y != 0) = false := by simpa using hx
        clear hx
        have E0 := Lib.hid e0
        clear e0
        go_wp2
        exact ⟨⟨2, by omega, by go_num, fun _ => E0.out, fun h => HX.out⟩, by simp [intOf]⟩
      · have HX := Lib.hid hx
        have hxb : (y != 0) = true := by simpa using hx
        clear hx
        have E0 := Lib.hid e0
        clear e0
        go_wp2
        go_ret
        exact ⟨ret_int (by rw [E0.out, lex_zero]), rfl⟩
    · have E0 := Lib.hid (H0.out (by omega))
      have E1 := Lib.hid (H1.out (by omega))
      go_wp2
      go_ret
      exact ⟨ret_int (by rw [E0.out, E1.out, lex_zero]), rfl⟩
end Go.Proofs.Ytmffobadnmkpbaa
namespace Go.Proofs.Ytmffobadnmkpbaa
open Go.RowKit

/-- what is asked of term.Compare at a term -/
def CmpC (t : Tm) : Prop := ∀ (u : Tm) (va vb : Value) (w : World), TmAt (fun _ => True) w t va → TmAt (fun _ => True) w u vb →
  Calls Try.prog 23 #[tmV t va, tmV u vb] w fun e w' => e = .returned (.int .i64 (cmpT t u)) ∧ Below w.heap.size w w'

theorem below_two (w : World) (o o2 : Obj) : Below w.heap.size w ((w.alloc o).alloc o2) := ((Below.refl _ _).alloc (Nat.le_refl _) o).alloc (by simp) o2
theorem cmpL_drop (a b : List Tm) (k : Nat) (h : k < a.length) (h2 : k < b.length) : cmpL (a.drop k) (b.drop k) = lex (cmpT a[k] b[k]) (cmpL (a.drop (k + 1)) (b.drop (k + 1))) := by
  rw [List.drop_eq_getElem_cons h, List.drop_eq_getElem_cons h2, cmpL]
theorem cmpL_gt (a b : List Tm) (k : Nat) (h : k < a.length) (h2 : b.length ≤ k) : cmpL (a.drop k) (b.drop k) = 1 := by
  rw [List.drop_eq_getElem_cons h, List.drop_eq_nil_of_le h2, cmpL]
theorem cmpL_end (a b : List Tm) (k : Nat) (h : a.length ≤ k) (h2 : k < b.length) : cmpL (a.drop k) (b.drop k) = -1 := by
  rw [List.drop_eq_getElem_cons h2, List.drop_eq_nil_of_le h, cmpL]
theorem cmpL_end0 (a b : List Tm) (k : Nat) (h : a.length ≤ k) (h2 : b.length ≤ k) : cmpL (a.drop k) (b.drop k) = 0 := by
  rw [List.drop_eq_nil_of_le h, List.drop_eq_nil_of_le h2, cmpL]

set_option maxRecDepth 100000 in
set_option maxHeartbeats 1600000 in
theorem cmpFunc_c (va vb : Value) (la lb : List Tm) (w : World) (ha : TsAt (fun _ => True) w va la) (hb : TsAt (fun _ => True) w vb lb) (hC : ∀ t ∈ la, CmpC t) :
    Calls Try.prog 69 #[va, vb, .func (.func 23) #[] #[]] w fun e w' => e = .returned (.int .i64 (cmpL la lb)) ∧ Below w.heap.size w w' := by
  obtain ⟨ao, ca, rfl, _, _⟩ := ha.shape
  obtain ⟨bo, cb, rfl, _, _⟩ := hb.shape
  have hla : la.length ≤ 9223372036854775807 := by have := ha.shape; obtain ⟨_, _, h, h1, h2⟩ := this; simp only [Value.slice.injEq, true_and] at h; obtain ⟨rfl, rfl⟩ := h; unfold maxLen at h2; omega
  have hlb : lb.length ≤ 9223372036854775807 := by have := hb.shape; obtain ⟨_, _, h, h1, h2⟩ := this; simp only [Value.slice.injEq, true_and] at h; obtain ⟨rfl, rfl⟩ := h; unfold maxLen at h2; omega
  have HA := Lib.hid ha
  have HB := Lib.hid hb
  have HC := Lib.hid hC
  clear ha hb hC
  go_enter Try.func69, Try.ntmps69
  go_wp2
  go_loopg [13] la.length (fun n i wr => ∃ k : Nat, k ≤ la.length ∧ k ≤ lb.length ∧ i = .int .i64 k ∧ Hid (n = la.length - k) ∧ Hid (cmpL la lb = cmpL (la.drop k) (lb.drop k)) ∧ Hid (Below w.heap.size w wr))
  case atStart => exact ⟨0, by omega, by omega, rfl, rfl, rfl, Below.refl _ _⟩
  case round =>
    obtain ⟨k, hk, hk2, rfl, HN, HE, HW⟩ := hrel
    by_cases hlt : k < la.length
    · obtain ⟨b, off, a1, rfl, -, hcc, hta⟩ := (HA.out.later HW.out).get k hlt
      obtain ⟨x0, x1, x2, x3⟩ := hcc
      have CX := Lib.hid (HC.out la[k] (List.getElem_mem hlt))
      obtain ⟨ao1, cc1, rfl, _⟩ := hta.shape
      by_cases hlt2 : k < lb.length
      · obtain ⟨b2, off2, a2, rfl, -, hcc2, htb⟩ := (HB.out.later HW.out).get k hlt2
        have hb2 := hcc2.lt
        obtain ⟨y0, y1, y2, y3⟩ := hcc2
        have HD := Lib.hid (cmpL_drop la lb k hlt hlt2)
        obtain ⟨ao2, cc2, rfl, _⟩ := htb.shape
        generalize la[k] = ta at x0 x1 x2 x3 hta CX HD
        generalize lb[k] = tb at y0 y1 y2 y3 htb HD
        have HTA := Lib.hid hta
        have HTB := Lib.hid htb
        have CC : Hid (∀ W, Below wr.heap.size wr W → Calls Try.prog 23 #[.agg #[.int .i64 ta.kind, .int .i64 ta.num, .string ta.name, .slice ao1 ta.args.length cc1], .agg #[.int .i64 tb.kind, .int .i64 tb.num, .string tb.name, .slice ao2 tb.args.length cc2]] W fun e w' => e = .returned (.int .i64 (cmpT ta tb)) ∧ Below W.heap.size W w') := fun W h => CX.out tb _ _ W (HTA.out.later h) (HTB.out.later h)
        clear hta htb
        by_cases h0 : cmpT ta tb = 0
        · rw [h0] at CC HD
          go_wp2_with (first | (go_at_call 23; ((with_reducible refine (CC.out _ (below_two _ _ _)).mono ?_); rintro e W2 ⟨rfl, bb⟩; have BB := Lib.hid bb; clear bb)))
          go_roundg (la.length - (k + 1))
          case measure => have := HN.out; omega
          case rel => exact ⟨k + 1, by omega, by omega, by go_num, rfl, HE.out.trans (HD.out.trans (lex_zero _)), (HW.out.trans ((below_two _ _ _).mono HW.out.size)).trans (BB.out.mono (by have := HW.out.size; simp; omega))⟩
        · have H0 := Lib.hid h0
          generalize hv : cmpT ta tb = v at *
          have HV := Lib.hid hv
          have hvb : (v != 0) = true := by simpa using h0
          clear h0 hv
          go_wp2_with (first | (go_at_call 23; ((with_reducible refine (CC.out _ (below_two _ _ _)).mono ?_); rintro e W2 ⟨rfl, bb⟩; have BB := Lib.hid bb; clear bb)))
          go_ret
          exact ⟨ret_int (by rw [HE.out, HD.out, lex_ne _ H0.out]), (HW.out.trans ((below_two _ _ _).mono HW.out.size)).trans (BB.out.mono (by have := HW.out.size; simp; omega))⟩
      · have HX := Lib.hid (cmpL_gt la lb k hlt (by omega))
        go_wp2
        go_ret
        exact ⟨ret_int (by rw [HE.out, HX.out]), HW.out.trans (((Below.refl _ _).alloc (Nat.le_refl _) _).mono HW.out.size)⟩
    · by_cases hlt2 : k < lb.length
      · have HX := Lib.hid (cmpL_end la lb k (by omega) hlt2)
        obtain rfl : k = la.length := by omega
        go_wp2
        go_ret
        exact ⟨ret_int (by rw [HE.out, HX.out]), HW.out⟩
      · have HX := Lib.hid (cmpL_end0 la lb k (by omega) (by omega))
        have e1 : la.length = k := by omega
        have e2 : lb.length = k := by omega
        go_wp2
        go_ret
        exact ⟨ret_int (by rw [HE.out, HX.out]), HW.out⟩
end Go.Proofs.Ytmffobadnmkpbaa
namespace Go.Proofs.Ytmffobadnmkpbaa
open Go.RowKit

theorem box_two (w : World) (a0 a1 a2 a3 b0 b1 b2 b3 : Value) (W' : World) (h : Below (w.heap.size + 2) ((w.alloc (.cells #[a0, a1, a2, a3] 24)).alloc (.cells #[b0, b1, b2, b3] 24)) W') :
    W'.cell? ⟨w.heap.size, 2, none⟩ = some a2 ∧ W'.cell? ⟨w.heap.size, 3, none⟩ = some a3 ∧ W'.cell? ⟨w.heap.size + 1, 2, none⟩ = some b2 ∧ W'.cell? ⟨w.heap.size + 1, 3, none⟩ = some b3 := by
  have h0 : BoxL W' w.heap.size [a0, a1, a2, a3] := ((BoxL.mk' w #[a0, a1, a2, a3] 24).below ((Below.refl _ _).alloc (Nat.le_refl _) _) (by simp)).block (h.block _ (by omega))
  have h1 : BoxL W' (w.heap.size + 1) [b0, b1, b2, b3] := by
    have e := BoxL.mk' (w.alloc (.cells #[a0, a1, a2, a3] 24)) #[b0, b1, b2, b3] 24
    rw [show (w.alloc (.cells #[a0, a1, a2, a3] 24)).heap.size = w.heap.size + 1 by simp] at e
    exact e.block (h.block _ (by omega))
  exact ⟨(h0.get 2 rfl).1, (h0.get 3 rfl).1, (h1.get 2 rfl).1, (h1.get 3 rfl).1⟩

theorem below_three (w : World) (o o2 o3 : Obj) : Below w.heap.size w ((((w.alloc o).alloc o2).alloc o3).drew) := ((below_two w o o2).alloc (by simp; omega) o3).drew
theorem cmpT_kind {a b : Tm} (h : a.kind ≠ b.kind) : cmpT a b = cmpI a.kind b.kind := by rw [cmpT_eq, lex_ne _ (fun e => h (cmpI_zero.1 e))]
theorem cmpT_num {a b : Tm} (h : a.kind = b.kind) (h2 : a.kind = 1 ∨ a.kind = 2) : cmpT a b = cmpI a.num b.num := by
  rw [cmpT_eq, h, cmpI_self, lex_zero]
  have hb : b.kind = 1 ∨ b.kind = 2 := h ▸ h2
  cases a <;> cases b <;> simp [Tm.kind] at h2 hb <;> simp [Tm.name, Tm.args, cmpI_self, lex_right, cmpL, cmpS, cmpB]
theorem cmpT_name {a b : Tm} (h : a.kind = b.kind) (h2 : a.kind = 3) : cmpT a b = cmpS a.name b.name := by
  rw [cmpT_eq, h, cmpI_self, lex_zero]
  have hb : b.kind = 3 := h ▸ h2
  cases a <;> cases b <;> simp [Tm.kind] at h2 hb <;> simp [Tm.name, Tm.num, Tm.args, cmpI_self, lex_zero, lex_right, cmpL]
theorem cmpT_rest {a b : Tm} (h : a.kind = b.kind) (h2 : a.kind ≠ 1) (h3 : a.kind ≠ 2) : cmpT a b = lex (lex (cmpI a.args.length b.args.length) (cmpS a.name b.name)) (cmpL a.args b.args) := by
  rw [cmpT_eq, h, cmpI_self, lex_zero]
  have e : cmpI a.num b.num = 0 := by
    rw [cmpI_zero]
    have hb2 : b.kind ≠ 1 := h ▸ h2
    have hb3 : b.kind ≠ 2 := h ▸ h3
    cases a <;> cases b <;> simp [Tm.kind] at h2 h3 hb2 hb3 <;> rfl
  rw [e, lex_zero]
  unfold lex
  split <;> simp_all

set_option maxRecDepth 100000 in
set_option maxHeartbeats 1600000 in
theorem compareT_step (a b : Tm) (va vb : Value) (w : World) (ha : TmAt (fun _ => True) w a va) (hb : TmAt (fun _ => True) w b vb) (hC : ∀ t ∈ a.args, CmpC t) :
    Calls Try.prog 23 #[tmV a va, tmV b vb] w fun e w' => e = .returned (.int .i64 (cmpT a b)) ∧ Below w.heap.size w w' := by
  obtain ⟨ao1, cc1, rfl, _⟩ := ha.shape
  obtain ⟨ao2, cc2, rfl, _⟩ := hb.shape
  have HZ := Lib.hid (below_two w)
  have HA := Lib.hid ha
  have HB := Lib.hid hb
  have HC := Lib.hid hC
  clear ha hb hC
  unfold tmV
  by_cases hk : a.kind = b.kind
  · by_cases h12 : a.kind = 1 ∨ a.kind = 2
    · rw [cmpT_num hk h12]
      have hkb : b.kind = a.kind := hk.symm
      rw [hkb]
      rcases h12 with h | h
      all_goals
        rw [h]
        go_enter Try.func23, Try.ntmps23
        go_wp2_with (first | (go_at_call 66; (with_reducible refine (compareI_c _ _ _).mono ?_); rintro e w' ⟨rfl, rfl⟩))
        go_ret
        exact ⟨rfl, HZ.out _ _⟩
    by_cases h3 : a.kind = 3
    · rw [cmpT_name hk h3]
      have hkb : b.kind = a.kind := hk.symm
      rw [hkb, h3]
      go_enter Try.func23, Try.ntmps23
      go_wp2_with (first | (go_at_call 67; (with_reducible refine (compareS_c _ _ _).mono ?_); rintro e w' ⟨rfl, rfl⟩))
      go_ret
      exact ⟨rfl, HZ.out _ _⟩
    have HE := Lib.hid (cmpT_rest hk (fun h => h12 (.inl h)) (fun h => h12 (.inr h)))
    have hkb : b.kind = a.kind := hk.symm
    rw [hkb]
    have k1 : (a.kind == 1) = false := by simpa using fun h => h12 (.inl h)
    have k2 : (a.kind == 2) = false := by simpa using fun h => h12 (.inr h)
    have k3 : (a.kind == 3) = false := by simpa using h3
    have HX : Hid (∀ W, Below w.heap.size w W → Calls Try.prog 69 #[.slice ao1 a.args.length cc1, .slice ao2 b.args.length cc2, .func (.func 23) #[] #[]] W fun e w' => e = .returned (.int .i64 (cmpL a.args b.args)) ∧ Below W.heap.size W w') := fun W h =>
      cmpFunc_c _ _ _ _ W (TsAt.of_tm (HA.out.later h)) (TsAt.of_tm (HB.out.later h)) HC.out
    clear hk hkb h12 h3
    have HS := Lib.hid (box_two w (.int .i64 a.kind) (.int .i64 a.num) (.string a.name) (.slice ao1 a.args.length cc1) (.int .i64 a.kind) (.int .i64 b.num) (.string b.name) (.slice ao2 b.args.length cc2))
    generalize a.kind = k at *
    generalize cmpT a b = z at *
    go_enter Try.func23, Try.ntmps23
    go_upto_region 9 with (first | (go_at_call 66; (with_reducible refine (compareI_c _ _ _).mono ?_); rintro e w' ⟨rfl, rfl⟩))
    have s0 := HS.out _ (Below.refl _ _)
    go_region_held3 (fun W' => W'.cell? ⟨w.heap.size, 2, none⟩ = some (.string a.name) ∧ W'.cell? ⟨w.heap.size, 3, none⟩ = some (.slice ao1 a.args.length cc1) ∧ W'.cell? ⟨w.heap.size + 1, 2, none⟩ = some (.string b.name) ∧ W'.cell? ⟨w.heap.size + 1, 3, none⟩ = some (.slice ao2 b.args.length cc2)) ((first | exact s0 | (refine HS.out _ ?_; go_grown)))
      (first
        | (go_at_call 66; (with_reducible refine (compareI_c _ _ _).mono ?_); rintro e w' ⟨rfl, rfl⟩)
        | (go_at_call 67; (with_reducible refine (compareS_c _ _ _).mono ?_); rintro e w' ⟨rfl, rfl⟩)
        | (go_at_call 68; (refine (or_c _ (cmpI a.args.length b.args.length) (cmpS a.name b.name) _ ?_ ?_).mono ?_); (· simp [go_sem]); (· simp [go_sem]); rintro e w' ⟨rfl, rfl⟩))
    clear s0
    generalize lex (cmpI a.args.length b.args.length) (cmpS a.name b.name) = c at *
    have HG := Lib.hid (below_three w)
    by_cases hc : c = 0
    · subst hc
      go_wp2_with (first | (go_at_call 69; ((with_reducible refine (HX.out _ (HG.out _ _ _)).mono ?_); rintro e W2 ⟨rfl, bb⟩; have BB := Lib.hid bb; clear bb)))
      go_ret
      exact ⟨ret_int HE.out.symm, (HG.out _ _ _).trans (BB.out.mono (by simp; omega))⟩
    · have HN := Lib.hid hc
      have hcb : (c != 0) = true := by simpa using hc
      clear hc
      go_wp2
      go_ret
      exact ⟨ret_int (HE.out.trans (lex_ne _ HN.out)).symm, HG.out _ _ _⟩
  · rw [cmpT_kind hk]
    have hkb : (a.kind != b.kind) = true := by simpa using hk
    clear hk
    go_enter Try.func23, Try.ntmps23
    go_wp2_with (first | (go_at_call 66; (with_reducible refine (compareI_c _ _ _).mono ?_); rintro e w' ⟨rfl, rfl⟩))
    go_ret
    exact ⟨rfl, HZ.out _ _⟩
theorem compareT_all (t : Tm) : CmpC t := by
  induction t using Tm.ind with
  | h4 s l ih => exact fun u va vb w ha hb => compareT_step _ u va vb w ha hb ih
  | _ => exact fun u va vb w ha hb => compareT_step _ u va vb w ha hb (by simp [Tm.args])
theorem compareT_c (a b : Tm) (va vb : Value) (w : World) (ha : TmAt (fun _ => True) w a va) (hb : TmAt (fun _ => True) w b vb) :
    Calls Try.prog 23 #[tmV a va, tmV b vb] w fun e w' => e = .returned (.int .i64 (cmpT a b)) ∧ Below w.heap.size w w' := compareT_all a b va vb w ha hb
end Go.Proofs.Ytmffobadnmkpbaa
namespace Go.Proofs.Ytmffobadnmkpbaa
open Go.RowKit

def RefC (t : Tm) : Prop := ∀ (u : Tm) (va vb : Value) (w : World), TmAt (fun _ => True) w t va → TmAt (fun _ => True) w u vb →
  Calls Try.prog 24 #[tmV t va, tmV u vb] w fun e w' => e = .returned (.int .i64 (cmpT t u)) ∧ Below w.heap.size w w'

theorem kk_parts {W : World} {A B : Prop} {b1 o1 b2 o2 : Nat} {ta tb : Tm} {u v : Value} (h : (A ∧ B) ∧ CellsT W b1 o1 ta u ∧ CellsT W b2 o2 tb v) :
    A ∧ B ∧ W.cell? ⟨b1, o1, none⟩ = some (.int .i64 ta.kind) ∧ W.cell? ⟨b1, o1 + 1, none⟩ = some (.int .i64 ta.num) ∧ W.cell? ⟨b1, o1 + 2, none⟩ = some (.string ta.name) ∧ W.cell? ⟨b1, o1 + 3, none⟩ = some u ∧ W.cell? ⟨b2, o2, none⟩ = some (.int .i64 tb.kind) ∧ W.cell? ⟨b2, o2 + 1, none⟩ = some (.int .i64 tb.num) ∧ W.cell? ⟨b2, o2 + 2, none⟩ = some (.string tb.name) ∧ W.cell? ⟨b2, o2 + 3, none⟩ = some v :=
  ⟨h.1.1, h.1.2, h.2.1.c0, h.2.1.c1, h.2.1.c2, h.2.1.c3, h.2.2.c0, h.2.2.c1, h.2.2.c2, h.2.2.c3⟩
theorem toList_beq (a b : ByteArray) : (a.toList == b.toList) = decide (cmpS a b = 0) := cmpB_eq _ _

set_option maxRecDepth 100000 in
set_option maxHeartbeats 1600000 in
theorem refCompareT_step (a b : Tm) (va vb : Value) (w : World) (ha : TmAt (fun _ => True) w a va) (hb : TmAt (fun _ => True) w b vb) (hC : ∀ t ∈ a.args, RefC t) :
    Calls Try.prog 24 #[tmV a va, tmV b vb] w fun e w' => e = .returned (.int .i64 (cmpT a b)) ∧ Below w.heap.size w w' := by
  obtain ⟨ao1, cc1, rfl, hc1, hm1⟩ := ha.shape
  obtain ⟨ao2, cc2, rfl, hc2, hm2⟩ := hb.shape
  have HZ := Lib.hid (below_two w)
  have HA := Lib.hid (TsAt.of_tm ha)
  have HB := Lib.hid (TsAt.of_tm hb)
  have HC := Lib.hid hC
  clear ha hb hC
  unfold maxLen at hm1 hm2
  unfold tmV
  by_cases hk : a.kind = b.kind
  · by_cases h12 : a.kind = 1 ∨ a.kind = 2
    · rw [cmpT_num hk h12]
      have hkb : b.kind = a.kind := hk.symm
      rw [hkb]
      rcases h12 with h | h
      all_goals
        rw [h]
        go_enter Try.func24, Try.ntmps24
        go_wp2_with (first | (go_at_call 70; (with_reducible refine (order_c _ _ _).mono ?_); rintro e w' ⟨rfl, rfl⟩))
        go_ret
        exact ⟨rfl, HZ.out _ _⟩
    by_cases h3 : a.kind = 3
    · rw [cmpT_name hk h3]
      have hkb : b.kind = a.kind := hk.symm
      rw [hkb, h3]
      go_enter Try.func24, Try.ntmps24
      go_wp2_with (first | (go_at_call 71; (with_reducible refine (texts_c _ _ _).mono ?_); rintro e w' ⟨rfl, rfl⟩))
      go_ret
      exact ⟨rfl, HZ.out _ _⟩
    rw [cmpT_rest hk (fun h => h12 (.inl h)) (fun h => h12 (.inr h))]
    have hkb : b.kind = a.kind := hk.symm
    rw [hkb]
    have k1 : (a.kind == 1) = false := by simpa using fun h => h12 (.inl h)
    have k2 : (a.kind == 2) = false := by simpa using fun h => h12 (.inr h)
    have k3 : (a.kind == 3) = false := by simpa using h3
    clear hk hkb h12 h3
    have HS := Lib.hid (box_two w (.int .i64 a.kind) (.int .i64 a.num) (.string a.name) (.slice ao1 a.args.length cc1) (.int .i64 a.kind) (.int .i64 b.num) (.string b.name) (.slice ao2 b.args.length cc2))
    generalize a.kind = k at *
    by_cases hl : a.args.length = b.args.length
    · have e0 : cmpI a.args.length b.args.length = 0 := by rw [hl, cmpI_self]
      rw [e0, lex_zero]
      clear e0
      have ht := toList_beq a.name b.name
      by_cases hs : cmpS a.name b.name = 0
      · have htb : (a.name.toList == b.name.toList) = true := by rw [ht, hs]; rfl
        rw [hs, lex_zero]
        clear ht hs
        rw [← hl] at HB hc2 HS ⊢
        have HL := Lib.hid hl
        generalize a.args = la at *
        generalize b.args = lb at *
        clear hl
        go_enter Try.func24, Try.ntmps24
        go_wp2
        go_loopg [5] la.length (fun n i wr => ∃ j : Nat, j ≤ la.length ∧ i = .int .i64 j ∧ Hid (n = la.length - j) ∧ Hid (cmpL la lb = cmpL (la.drop j) (lb.drop j)) ∧ Hid (Below (w.heap.size + 2) ((w.alloc (.cells #[.int .i64 k, .int .i64 a.num, .string a.name, .slice ao1 la.length cc1] 24)).alloc (.cells #[.int .i64 k, .int .i64 b.num, .string b.name, .slice ao2 la.length cc2] 24)) wr))
        case atStart => exact ⟨0, by omega, rfl, rfl, rfl, Below.refl _ _⟩
        case round =>
          obtain ⟨j, hj, rfl, HN, HE, HW⟩ := hrel
          have HWw : Hid (Below w.heap.size w wr) := (HZ.out _ _).trans (HW.out.mono (by omega))
          obtain ⟨s0, s1, s2, s3⟩ := HS.out _ HW.out
          by_cases hlt : j < la.length
          · have hlt2 : j < lb.length := by have := HL.out; omega
            obtain ⟨b1, o1, v1, rfl, -, hcc1, hta⟩ := (HA.out.later HWw.out).get j hlt
            obtain ⟨b2, o2, v2, rfl, -, hcc2, htb2⟩ := (HB.out.later HWw.out).get j hlt2
            obtain ⟨p1, q1, rfl, _⟩ := hta.shape
            obtain ⟨p2, q2, rfl, _⟩ := htb2.shape
            have CX := Lib.hid (HC.out la[j] (List.getElem_mem hlt))
            have HD := Lib.hid (cmpL_drop la lb j hlt hlt2)
            generalize la[j] = ta at *
            generalize lb[j] = tb at *
            clear hlt2
            have HTA := Lib.hid hta
            have HTB := Lib.hid htb2
            have CC : Hid (∀ W, Below wr.heap.size wr W → Calls Try.prog 24 #[.agg #[.int .i64 ta.kind, .int .i64 ta.num, .string ta.name, .slice p1 ta.args.length q1], .agg #[.int .i64 tb.kind, .int .i64 tb.num, .string tb.name, .slice p2 tb.args.length q2]] W fun e w' => e = .returned (.int .i64 (cmpT ta tb)) ∧ Below W.heap.size W w') := fun W h => CX.out tb _ _ W (HTA.out.later h) (HTB.out.later h)
            have hb1 := hcc1.lt
            have hb2 := hcc2.lt
            have hwz := HW.out.size
            simp only [World.size_alloc] at hwz
            have KK : Hid (∀ W, Below wr.heap.size wr W → (W.cell? ⟨w.heap.size, 3, none⟩ = some (.slice (some ⟨b1, o1, none⟩) la.length cc1) ∧ W.cell? ⟨w.heap.size + 1, 3, none⟩ = some (.slice (some ⟨b2, o2, none⟩) la.length cc2)) ∧ CellsT W b1 (o1 + j * 4) ta (.slice p1 ta.args.length q1) ∧ CellsT W b2 (o2 + j * 4) tb (.slice p2 tb.args.length q2)) := fun W h =>
              ⟨⟨(h.cell (p := ⟨w.heap.size, 3, none⟩) (by show w.heap.size < _; omega)).trans s1, (h.cell (p := ⟨w.heap.size + 1, 3, none⟩) (by show w.heap.size + 1 < _; omega)).trans s3⟩, hcc1.block (h.block _ hb1), hcc2.block (h.block _ hb2)⟩
            obtain ⟨x0, x1, x2, x3⟩ := hcc1
            obtain ⟨y0, y1, y2, y3⟩ := hcc2
            clear hta htb2
            have k0 := KK.out _ (Below.refl _ _)
            generalize hz : cmpT ta tb = z at CC HD
            clear hz
            go_upto_region 16 with (fail)
            go_region_held3 (fun W => W.cell? ⟨w.heap.size, 3, none⟩ = some (.slice (some ⟨b1, o1, none⟩) la.length cc1) ∧ W.cell? ⟨w.heap.size + 1, 3, none⟩ = some (.slice (some ⟨b2, o2, none⟩) la.length cc2) ∧ W.cell? ⟨b1, o1 + j * 4, none⟩ = some (.int .i64 ta.kind) ∧ W.cell? ⟨b1, o1 + j * 4 + 1, none⟩ = some (.int .i64 ta.num) ∧ W.cell? ⟨b1, o1 + j * 4 + 2, none⟩ = some (.string ta.name) ∧ W.cell? ⟨b1, o1 + j * 4 + 3, none⟩ = some (.slice p1 ta.args.length q1) ∧ W.cell? ⟨b2, o2 + j * 4, none⟩ = some (.int .i64 tb.kind) ∧ W.cell? ⟨b2, o2 + j * 4 + 1, none⟩ = some (.int .i64 tb.num) ∧ W.cell? ⟨b2, o2 + j * 4 + 2, none⟩ = some (.string tb.name) ∧ W.cell? ⟨b2, o2 + j * 4 + 3, none⟩ = some (.slice p2 tb.args.length q2))
              ((first | exact kk_parts (KK.out _ P2.out) | (refine kk_parts (KK.out _ ?_); go_grown)))
              (first | (go_at_call 24; refine (CC.out _ ?_).mono ?_; (· go_grown); rintro e W2 ⟨rfl, bb⟩; have P2 : Hid (Below wr.heap.size wr W2) := Below.trans (B := wr.heap.size) (by go_grown) (bb.mono (by go_size))))
            clear k0
            by_cases hz : z = 0
            · subst hz
              go_wp2
              go_roundg (la.length - (j + 1))
              case measure => have := HN.out; omega
              case rel => exact ⟨j + 1, by omega, by go_num, rfl, HE.out.trans (HD.out.trans (lex_zero _)), HW.out.trans (P2.out.mono (by omega))⟩
            · have H0 := Lib.hid hz
              have hzb : (z != 0) = true := by simpa using hz
              clear hz
              go_wp2
              go_ret
              exact ⟨ret_int (HE.out.trans (HD.out.trans (lex_ne _ H0.out))).symm, HWw.out.trans (P2.out.mono HWw.out.size)⟩
          · have HX := Lib.hid (cmpL_end0 la lb j (by omega) (by have := HL.out; omega))
            obtain rfl : j = la.length := by omega
            go_wp2
            go_ret
            exact ⟨ret_int (HE.out.trans HX.out).symm, HWw.out⟩
      · have htb : (a.name.toList == b.name.toList) = false := by rw [ht]; simpa using hs
        rw [lex_ne _ hs]
        clear ht hs
        go_enter Try.func24, Try.ntmps24
        go_wp2_with (first | (go_at_call 71; (with_reducible refine (texts_c _ _ _).mono ?_); rintro e w' ⟨rfl, rfl⟩))
        go_ret
        exact ⟨rfl, HZ.out _ _⟩
    · have e0 : cmpI a.args.length b.args.length ≠ 0 := fun e => hl (by have := cmpI_zero.1 e; omega)
      rw [lex_ne _ e0, lex_ne _ e0]
      clear e0
      go_enter Try.func24, Try.ntmps24
      go_wp2_with (first | (go_at_call 70; (with_reducible refine (order_c _ _ _).mono ?_); rintro e w' ⟨rfl, rfl⟩))
      go_ret
      exact ⟨rfl, HZ.out _ _⟩
  · rw [cmpT_kind hk]
    have hkb : (a.kind != b.kind) = true := by simpa using hk
    clear hk
    go_enter Try.func24, Try.ntmps24
    go_wp2_with (first | (go_at_call 70; (with_reducible refine (order_c _ _ _).mono ?_); rintro e w' ⟨rfl, rfl⟩))
    go_ret
    exact ⟨rfl, HZ.out _ _⟩
theorem refCompareT_all (t : Tm) : RefC t := by
  induction t using Tm.ind with
  | h4 s l ih => exact fun u va vb w ha hb => refCompareT_step _ u va vb w ha hb ih
  | _ => exact fun u va vb w ha hb => refCompareT_step _ u va vb w ha hb (by simp [Tm.args])
theorem refCompareT_c (a b : Tm) (va vb : Value) (w : World) (ha : TmAt (fun _ => True) w a va) (hb : TmAt (fun _ => True) w b vb) :
    Calls Try.prog 24 #[tmV a va, tmV b vb] w fun e w' => e = .returned (.int .i64 (cmpT a b)) ∧ Below w.heap.size w w' := refCompareT_all a b va vb w ha hb
end Go.Proofs.Ytmffobadnmkpbaa
namespace Go.Proofs.Ytmffobadnmkpbaa
open Go.RowKit

/-- what is asked of the terms that a text tells -/
def Fine (t : Tm) : Prop := t.ok ∧ t.size ≤ 2001
def RetSome (w : World) (e : Ending) (w' : World) : Prop := ∃ v l, e = .returned v ∧ TsAt (fun _ => True) w' v l ∧ (∀ t ∈ l, Fine t) ∧ l.length ≤ 40 ∧ Below w.heap.size w w'

/-- the list that grows, while the sentences stay where they are -/
structure SmW (g0 H : Nat) (w W1 : World) (l : List Tm) (v : Value) (wr : World) (k : Nat) (L : List (Tm × Value)) : Prop where
  own : wr.ownsRow g0 24 4 v L.length (tmCs L)
  len : L.length = k
  fst : L.map Prod.fst = l.take k
  tms : ∀ x ∈ L, TmAt (fun b => b < H ∧ b ≠ g0) W1 x.1 x.2
  agr : ∀ b, b < H → b ≠ g0 → wr.heap[b]? = W1.heap[b]?
  ne : ∀ g, v.ownBlock = some g → g = g0 ∨ H ≤ g
  bel : Below g0 w wr
  size : H ≤ wr.heap.size
theorem SmW.ret {g0 H : Nat} {w W1 : World} {l : List Tm} {v : Value} {wr : World} {k : Nat} {L : List (Tm × Value)} (h : SmW g0 H w W1 l v wr k L) : TsAt (fun _ => True) wr v (l.take k) := by
  rw [← h.fst]
  exact TsAt.of_sl (SlAt.of_own h.own) (fun _ _ => trivial) (fun x hx => (h.tms x hx).mono fun b _ hb => ⟨trivial, h.agr b hb.1 hb.2⟩)
theorem SmW.push {g0 H : Nat} {w W1 : World} {l : List Tm} {v : Value} {wr : World} {k : Nat} {L : List (Tm × Value)} (h : SmW g0 H w W1 l v wr k L) (hk : k < l.length) {a : Value} (ht : TmAt (fun b => b < H ∧ b ≠ g0) W1 l[k] a)
    {g cap : Nat} {w' : World} (ho : w'.ownsRow g0 24 4 (.slice (some ⟨g, 0, none⟩) (L.length + 1) cap) (L.length + 1) (tmCs L ++ [.int .i64 l[k].kind, .int .i64 l[k].num, .string l[k].name, a])) (hb : Below g0 wr w') (hkk : KeepsBut wr w' v) (hl : v.ownBlock = some g ∨ wr.heap.size ≤ g) :
    SmW g0 H w W1 l (.slice (some ⟨g, 0, none⟩) (L.length + 1) cap) w' (k + 1) (L ++ [(l[k], a)]) := by
  refine ⟨?_, by simp [h.len], ?_, ?_, ?_, ?_, h.bel.trans hb, Nat.le_trans h.size hb.size⟩
  · rw [tmCs_snoc]; simpa using ho
  · rw [List.map_append, h.fst, List.take_succ_eq_append_getElem hk]; rfl
  · intro x hx
    rcases List.mem_append.1 hx with hx | hx
    · exact h.tms x hx
    · simp only [List.mem_singleton] at hx; subst hx; exact ht
  · intro b h1 h2
    rw [← h.agr b h1 h2]
    refine hkk b (Nat.lt_of_lt_of_le h1 h.size) (fun he => ?_)
    rcases h.ne b he with e | e <;> omega
  · intro b he
    have e : g = b := by simpa [Value.ownBlock] using he
    subst e
    rcases hl with hl | hl
    · exact h.ne g hl
    · exact .inr (Nat.le_trans h.size hl)
/-- the sentence at a place, where it lies, apart from the empty row -/
theorem SnAt.apart {w0 W1 : World} {T : TypeId} {ao : Option Addr} {n cap : Nat} {l : List Tm} (h : SnAt (w0.heap.size + 1) W1 (.slice ao n cap) l) (hb : Below (w0.heap.size + 1) (w0.alloc (.cells #[] T)) W1) (i : Nat) (hi : i < l.length) :
    ∃ b off a, ao = some ⟨b, off, none⟩ ∧ b < W1.heap.size ∧ b ≠ w0.heap.size ∧ CellsT W1 b (off + i * 5) l[i] a ∧ TmAt (fun b => b < W1.heap.size ∧ b ≠ w0.heap.size) W1 l[i] a := by
  obtain ⟨b, off, a, an, nn, cn, e, hlt, hc, _, ht⟩ := h.get i hi
  refine ⟨b, off, a, e, hlt, ?_, hc, ht.mono fun b' h1 h2 => ⟨⟨h1, by omega⟩, rfl⟩⟩
  rintro rfl
  have h0 := hc.c0
  have e0 : W1.cell? ⟨w0.heap.size, off + i * 5, none⟩ = (w0.alloc (.cells #[] T)).cell? ⟨w0.heap.size, off + i * 5, none⟩ := hb.cell (p := ⟨w0.heap.size, off + i * 5, none⟩) (by show w0.heap.size < _; omega)
  rw [e0] at h0
  simp at h0
end Go.Proofs.Ytmffobadnmkpbaa
namespace Go.Proofs.Ytmffobadnmkpbaa
open Go.RowKit

theorem own_made0 (w : World) (e : TypeId) : (w.alloc (.cells #[] e)).ownsRow w.heap.size e 4 (.slice (some ⟨w.heap.size, 0, none⟩) 0 0) 0 [] :=
  World.ownsRow_made (base := w.heap.size) (size := 4) (e := e) w #[] 0 (by simp) (by decide) rfl
set_option maxRecDepth 100000 in
set_option maxHeartbeats 1600000 in
theorem some_c (s : ByteArray) (w : World) : Calls Try.prog 22 #[.string s] w (RetSome w) := by
  obtain ⟨i0, hi, hz0, hz1, hz2⟩ := info_parts Try.infoTerm
  have HB0 : Hid (∀ T, Below w.heap.size w (w.alloc (.cells #[] T))) := fun T => (Below.refl _ _).alloc (Nat.le_refl _) _
  by_cases hs : 2048 < s.size
  · go_enter Try.func22, Try.ntmps22
    go_wp2
    go_ret
    exact ⟨_, [], rfl, ⟨_, 0, rfl, Nat.le_refl _, by simp [maxLen], (fun h => by cases h), fun h => by simp at h⟩, by simp, by simp, HB0.out _⟩
  have CR := Lib.hid (readAll_c s (by omega) (w.alloc (.cells #[] 24)))
  go_enter Try.func22, Try.ntmps22
  go_wp2_with (first | (go_at_call 65; ((with_reducible refine CR.out.mono ?_); rintro e W1 ⟨v, pl, y, l, rfl, sn, hl, hll, b1⟩; obtain ⟨va, vc, rfl, _⟩ := sn.shape; have SN := Lib.hid sn; have HL := Lib.hid hl; have B1 := Lib.hid b1; clear sn hl b1)))
  have hsz : w.heap.size + 1 ≤ W1.heap.size := by have := B1.out.size; simpa using this
  have B1' : Hid (Below (w.heap.size + 1) (w.alloc (.cells #[] 24)) W1) := by show Below _ _ _; have := B1.out; simpa using this
  have SN' : Hid (SnAt (w.heap.size + 1) W1 (.slice va l.length vc) l) := by show SnAt _ _ _ _; have := SN.out; simpa using this
  go_loopg [3, 7] l.length (fun n o i wr => ∃ (k : Nat) (L : List (Tm × Value)), k ≤ l.length ∧ k ≤ 40 ∧ i = .int .i64 k ∧ Hid (n = l.length - k) ∧ Hid (SmW w.heap.size W1.heap.size w W1 l o wr k L) ∧ L.length = k)
  case atStart =>
    refine ⟨0, [], by omega, by omega, rfl, rfl, ⟨?_, rfl, rfl, by simp, fun _ _ _ => rfl, ?_, ?_, Nat.le_refl _⟩, rfl⟩
    · exact own_below (own_made0 w _) B1.out
    · intro g hg; left; simpa [Value.ownBlock] using hg.symm
    · exact (HB0.out _).trans (B1'.out.mono (by omega))
  case round =>
    obtain ⟨k, L, hk, hk4, rfl, HN, HW, hLk⟩ := hrel
    by_cases hlt : k < l.length
    · by_cases h40 : k < 40
      · obtain ⟨b, off, a, rfl, hlb, hne, hcc, hta⟩ := SN'.out.apart B1'.out k hlt
        obtain ⟨p1, q1, rfl, _⟩ := hta.shape
        have hsz2 := HW.out.size
        have hcw := hcc.block (HW.out.agr b hlb hne)
        have HT := Lib.hid hta
        have HP : Hid (∀ (g cap : Nat) (w' : World), w'.ownsRow w.heap.size 24 4 (.slice (some ⟨g, 0, none⟩) (L.length + 1) cap) (L.length + 1) (tmCs L ++ (#[.int .i64 l[k].kind, .int .i64 l[k].num, .string l[k].name, .slice p1 l[k].args.length q1] : Array Value).toList) → Below w.heap.size wr w' → KeepsBut wr w' u3 → (u3.ownBlock = some g ∨ wr.heap.size ≤ g) → SmW w.heap.size W1.heap.size w W1 l (.slice (some ⟨g, 0, none⟩) (L.length + 1) cap) w' (k + 1) (L ++ [(l[k], .slice p1 l[k].args.length q1)])) := fun g cap w' h1 h2 h3 h4 => HW.out.push hlt HT.out h1 h2 h3 h4
        obtain ⟨x0, x1, x2, x3⟩ := hcw
        have hbw : b < wr.heap.size := by omega
        clear hta hcc
        generalize l[k] = t at *
        obtain ⟨oa, oc, rfl, _⟩ := (SlAt.of_own HW.out.own).shape
        have hb0 : w.heap.size ≤ wr.heap.size := by omega
        go_wp2_with (first
          | (at_builtin; refine wpList_appendX rfl (.tmp 29) (.tmp 35) 22 rfl w.heap.size 24 i0 (.agg #[.int .i64 0, .int .i64 0, .string ByteArray.empty, .slice none 0 0]) 4 56 Try.underlying22 hi hz0 hz1 hz2 rfl (by decide) _ L.length (tmCs L) rfl HW.out.own _ _ rfl rfl rfl (one4r rfl rfl rfl rfl) ⟨by omega, by omega⟩ hb0 ?_; intro g cap W5 ho5 hb5 hk5 hl5; have R5 := Lib.hid (HP.out g cap W5 ho5 hb5 hk5 hl5); clear ho5 hb5 hk5 hl5))
        go_roundg (l.length - (k + 1))
        case measure => have := HN.out; omega
        case rel =>
          rw [hLk] at R5
          exact ⟨k + 1, _, by omega, by omega, by go_num, rfl, R5, by simp [hLk]⟩
      · go_wp2
        go_ret
        exact ⟨_, _, rfl, HW.out.ret, fun t ht => HL.out t (List.mem_of_mem_take ht), by simp; omega, HW.out.bel⟩
    · go_wp2
      go_ret
      exact ⟨_, _, rfl, HW.out.ret, fun t ht => HL.out t (List.mem_of_mem_take ht), by simp; omega, HW.out.bel⟩
end Go.Proofs.Ytmffobadnmkpbaa
