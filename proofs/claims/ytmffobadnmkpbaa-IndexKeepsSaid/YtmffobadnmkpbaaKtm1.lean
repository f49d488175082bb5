/-
  HOW GREAT, HOW DEEP A TERM IS, WHICH VARIABLES IT HAS: in plain Lean. Over any program.
  THE ORDER OF TERMS, plain: cmpT; it is a total one, and turned the other way round. Over any program.
  Numbers and texts compared: cmp.Compare, cmp.Or, coneyref07.order, texts, walked.
  term.Size, term.Depth, and the document's, walked.
  coneyref07.Size, walked.
  LISTS OF INTEGERS in memory; are two the same; is one in a list; walked.
  term.Vars: its closure, walked.
-/
import Derived.Test.YtmffobadnmkpbaaKpars1
import Derived.Test.YtmffobadnmkpbaaRows
import Derived.Test.YtmffobadnmkpbaaKlib1
import Derived.Laws.Cover1
import Derived.WalkKit
import Derived.WalkSpells
import Derived.WalkLawsBesides
import Derived.Lib.Hide
import Derived.Deep.LoopGhost
import Derived.Handy
import Derived.BigQuiet
namespace Go.Proofs.Ytmffobadnmkpbaa
open Go.RowKit

mutual
def Tm.depth : Tm → Nat
  | .nil => 1
  | .var _ => 1
  | .int _ => 1
  | .atom _ => 1
  | .cmp _ l => Tm.depths l + 1
def Tm.depths : List Tm → Nat
  | [] => 0
  | t :: l => max t.depth (Tm.depths l)
end
theorem Tm.depths_append (a b : List Tm) : Tm.depths (a ++ b) = max (Tm.depths a) (Tm.depths b) := by
  induction a with
  | nil => simp [Tm.depths]
  | cons t l ih => simp only [List.cons_append, Tm.depths, ih]; omega
theorem Tm.depth_eq (t : Tm) : t.depth = Tm.depths t.args + 1 := by cases t <;> simp [Tm.depth, Tm.depths, Tm.args]
theorem Tm.size_eq (t : Tm) : t.size = 1 + Tm.sizes t.args := by cases t <;> simp [Tm.size, Tm.sizes, Tm.args]
theorem Tm.depth_le (t : Tm) : t.depth ≤ t.size := by
  induction t using Tm.ind with
  | h4 s l ih =>
    simp only [Tm.depth, Tm.size]
    have : Tm.depths l ≤ Tm.sizes l := by
      clear s
      induction l with
      | nil => simp [Tm.depths]
      | cons a l ih2 =>
        have h1 := ih a (by simp)
        have h2 := ih2 fun t ht => ih t (by simp [ht])
        simp only [Tm.depths, Tm.sizes]; omega
    omega
  | _ => simp [Tm.depth, Tm.size]
theorem Tm.sizes_take (l : List Tm) (k : Nat) (h : k < l.length) : Tm.sizes (l.take (k + 1)) = Tm.sizes (l.take k) + l[k].size := by
  rw [List.take_succ_eq_append_getElem h, Tm.sizes_append]; simp [Tm.sizes]
theorem Tm.depths_take (l : List Tm) (k : Nat) (h : k < l.length) : Tm.depths (l.take (k + 1)) = max (Tm.depths (l.take k)) l[k].depth := by
  rw [List.take_succ_eq_append_getElem h, Tm.depths_append]; simp [Tm.depths]
theorem Tm.sizes_take_le (l : List Tm) (k : Nat) : Tm.sizes (l.take k) ≤ Tm.sizes l := by
  have : Tm.sizes l = Tm.sizes (l.take k) + Tm.sizes (l.drop k) := by rw [← Tm.sizes_append, List.take_append_drop]
  omega

mutual
/-- the variables, in their order, again and again -/
def Tm.vs : Tm → List Int
  | .nil => []
  | .var n => [(n : Int)]
  | .int _ => []
  | .atom _ => []
  | .cmp _ l => Tm.vss l
def Tm.vss : List Tm → List Int
  | [] => []
  | t :: l => t.vs ++ Tm.vss l
end
theorem Tm.vss_append (a b : List Tm) : Tm.vss (a ++ b) = Tm.vss a ++ Tm.vss b := by
  induction a with
  | nil => simp [Tm.vss]
  | cons t l ih => simp [Tm.vss, ih]
theorem Tm.vss_take (l : List Tm) (k : Nat) (h : k < l.length) : Tm.vss (l.take (k + 1)) = Tm.vss (l.take k) ++ l[k].vs := by
  rw [List.take_succ_eq_append_getElem h, Tm.vss_append]; simp [Tm.vss]
theorem Tm.vs_len (t : Tm) : t.vs.length ≤ t.size := by
  induction t using Tm.ind with
  | h4 s l ih =>
    simp only [Tm.vs, Tm.size]
    have : (Tm.vss l).length ≤ Tm.sizes l := by
      clear s
      induction l with
      | nil => simp [Tm.vss]
      | cons a l ih2 =>
        have h1 := ih a (by simp)
        have h2 := ih2 fun t ht => ih t (by simp [ht])
        simp only [Tm.vss, Tm.sizes, List.length_append]; omega
    omega
  | _ => simp [Tm.vs, Tm.size]
theorem Tm.vss_len (l : List Tm) : (Tm.vss l).length ≤ Tm.sizes l := by
  induction l with
  | nil => simp [Tm.vss]
  | cons a l ih => have := a.vs_len; simp only [Tm.vss, Tm.sizes, List.length_append]; omega
/-- put at the end what is not there -/
def addV (o : List Int) (x : Int) : List Int := if x ∈ o then o else o ++ [x]
def addVs (o l : List Int) : List Int := l.foldl addV o
theorem addVs_nil (o : List Int) : addVs o [] = o := rfl
theorem addVs_cons (o : List Int) (x : Int) (l : List Int) : addVs o (x :: l) = addVs (addV o x) l := rfl
theorem addVs_append (o a b : List Int) : addVs o (a ++ b) = addVs (addVs o a) b := by simp [addVs, List.foldl_append]
theorem mem_addV {o : List Int} {x y : Int} : y ∈ addV o x ↔ y ∈ o ∨ y = x := by
  unfold addV; split
  · constructor
    · exact .inl
    · rintro (h | rfl) <;> assumption
  · simp
theorem mem_addVs {o l : List Int} {y : Int} : y ∈ addVs o l ↔ y ∈ o ∨ y ∈ l := by
  induction l generalizing o with
  | nil => simp [addVs_nil]
  | cons x l ih => rw [addVs_cons, ih, mem_addV]; simp [or_assoc]
theorem addV_mem {o : List Int} {x : Int} (h : x ∈ o) : addV o x = o := by simp [addV, h]
theorem addV_new {o : List Int} {x : Int} (h : x ∉ o) : addV o x = o ++ [x] := by simp [addV, h]
/-- adding what is left of a list once its doubles are gone adds the list -/
theorem addVs_dedup (o l : List Int) : addVs o (addVs [] l) = addVs o l := by
  have key : ∀ l p : List Int, (∀ x ∈ p, x ∈ o ∨ x ∈ p) → addVs o (addVs p l) = addVs (addVs o p) l := by
    intro l
    induction l with
    | nil => intro p _; rfl
    | cons x l ih =>
      intro p _
      rw [addVs_cons, addVs_cons, ih _ (fun y hy => .inr hy)]
      congr 1
      by_cases h : x ∈ p
      · rw [addV_mem h, addV_mem (mem_addVs.2 (.inr h))]
      · rw [addV_new h, addVs_append]; rfl
  have := key l [] (by simp)
  simpa [addVs_nil] using this
theorem addVs_len (o l : List Int) : (addVs o l).length ≤ o.length + l.length := by
  induction l generalizing o with
  | nil => simp [addVs_nil]
  | cons x l ih =>
    have := ih (addV o x)
    have h : (addV o x).length ≤ o.length + 1 := by unfold addV; split <;> simp
    rw [addVs_cons]; simp only [List.length_cons]; omega
def Tm.vars (t : Tm) : List Int := addVs [] t.vs
theorem Tm.vars_len (t : Tm) : t.vars.length ≤ t.size := by
  have := addVs_len [] t.vs; have := t.vs_len; simp only [Tm.vars, List.length_nil] at *; omega
theorem Tm.ok_var {t : Tm} (h : t.ok) (hk : t.kind = 1) : ∃ n, t = .var n ∧ n < 5000 := by
  cases h <;> simp [Tm.kind] at hk
  exact ⟨_, rfl, ‹_›⟩
theorem Tm.ok_args {t : Tm} (h : t.ok) : ∀ u ∈ t.args, u.ok := by
  cases h <;> simp [Tm.args]
  assumption
theorem Tm.args_kind {t : Tm} (h : t.kind ≠ 4) : t.args = [] := by cases t <;> simp [Tm.kind] at h <;> rfl
theorem Tm.args_size {t u : Tm} (h : u ∈ t.args) : u.size < t.size := by
  have := Tm.sizes_mem h; rw [t.size_eq]; omega
theorem Tm.vs_bound {t : Tm} (h : t.ok) : ∀ x ∈ t.vs, 0 ≤ x ∧ x < 5000 := by
  induction t using Tm.ind with
  | h1 n => cases h; intro x hx; simp [Tm.vs] at hx; omega
  | h4 s l ih =>
    have ha := Tm.ok_args h
    simp only [Tm.args] at ha
    intro x hx
    simp only [Tm.vs] at hx
    clear h s
    induction l with
    | nil => simp [Tm.vss] at hx
    | cons a l ih2 =>
      simp only [Tm.vss, List.mem_append] at hx
      rcases hx with hx | hx
      · exact ih a (by simp) (ha a (by simp)) x hx
      · exact ih2 (fun t ht => ih t (by simp [ht])) (fun t ht => ha t (by simp [ht])) hx
  | _ => simp [Tm.vs]
end Go.Proofs.Ytmffobadnmkpbaa
namespace Go.Proofs.Ytmffobadnmkpbaa
open Go.RowKit

def lex (a b : Int) : Int := if a = 0 then b else a
def cmpI (a b : Int) : Int := if a < b then -1 else if b < a then 1 else 0
def cmpB : List UInt8 → List UInt8 → Int
  | [], [] => 0
  | [], _ :: _ => -1
  | _ :: _, [] => 1
  | a :: x, b :: y => lex (cmpI a.toNat b.toNat) (cmpB x y)
def cmpS (a b : ByteArray) : Int := cmpB a.toList b.toList

mutual
def cmpT : Tm → Tm → Int
  | .cmp s l, b => lex (cmpI 4 b.kind) (lex (cmpI 0 b.num) (lex (cmpI l.length b.args.length) (lex (cmpS s b.name) (cmpL l b.args))))
  | .nil, b => lex (cmpI 0 b.kind) (lex (cmpI 0 b.num) (cmpS ByteArray.empty b.name))
  | .var n, b => lex (cmpI 1 b.kind) (lex (cmpI n b.num) (cmpS ByteArray.empty b.name))
  | .int z, b => lex (cmpI 2 b.kind) (lex (cmpI z b.num) (cmpS ByteArray.empty b.name))
  | .atom s, b => lex (cmpI 3 b.kind) (lex (cmpI 0 b.num) (cmpS s b.name))
def cmpL : List Tm → List Tm → Int
  | [], [] => 0
  | [], _ :: _ => -1
  | _ :: _, [] => 1
  | a :: x, b :: y => lex (cmpT a b) (cmpL x y)
end

theorem lex_zero (b : Int) : lex 0 b = b := rfl
theorem lex_ne {a : Int} (b : Int) (h : a ≠ 0) : lex a b = a := by simp [lex, h]
theorem lex_right (a : Int) : lex a 0 = a := by unfold lex; split <;> omega
theorem cmpI_self (a : Int) : cmpI a a = 0 := by simp [cmpI]
theorem cmpI_zero {a b : Int} : cmpI a b = 0 ↔ a = b := by unfold cmpI; (repeat' split) <;> omega
theorem Tm.leaf {t : Tm} (h : t.kind ≠ 4) : t.args = [] := by cases t <;> simp_all [Tm.kind, Tm.args]

theorem cmpT_eq (a b : Tm) : cmpT a b = lex (cmpI a.kind b.kind) (lex (cmpI a.num b.num) (lex (cmpI a.args.length b.args.length) (lex (cmpS a.name b.name) (cmpL a.args b.args)))) := by
  have key : ∀ a : Tm, a.kind ≠ 4 → lex (cmpI a.kind b.kind) (lex (cmpI a.num b.num) (cmpS a.name b.name)) = lex (cmpI a.kind b.kind) (lex (cmpI a.num b.num) (lex (cmpI a.args.length b.args.length) (lex (cmpS a.name b.name) (cmpL a.args b.args)))) := by
    intro a ha
    by_cases e : cmpI a.kind b.kind = 0
    · have hb : b.kind ≠ 4 := by rw [← cmpI_zero.1 e]; exact ha
      rw [Tm.leaf ha, Tm.leaf hb]
      simp only [cmpL, lex_right, List.length_nil, cmpI_self, lex_zero]
    · rw [lex_ne _ e, lex_ne _ e]
  cases a with
  | cmp s l => simp only [cmpT, Tm.kind, Tm.num, Tm.name, Tm.args]
  | nil => have := key .nil (by simp [Tm.kind]); simp only [cmpT]; exact this
  | var n => have := key (.var n) (by simp [Tm.kind]); simp only [cmpT]; exact this
  | int z => have := key (.int z) (by simp [Tm.kind]); simp only [cmpT]; exact this
  | atom s => have := key (.atom s) (by simp [Tm.kind]); simp only [cmpT]; exact this

/-! ### signs, and the other way round -/
def Sg (x : Int) : Prop := x = -1 ∨ x = 0 ∨ x = 1
theorem Sg.lex {a b : Int} (ha : Sg a) (hb : Sg b) : Sg (lex a b) := by unfold Proofs.Ytmffobadnmkpbaa.lex; split <;> assumption
theorem sg_cmpI (a b : Int) : Sg (cmpI a b) := by unfold cmpI Sg; (repeat' split) <;> omega
theorem sg_cmpB : ∀ a b, Sg (cmpB a b)
  | [], [] => .inr (.inl rfl)
  | [], _ :: _ => .inl rfl
  | _ :: _, [] => .inr (.inr rfl)
  | a :: x, b :: y => by rw [cmpB]; exact (sg_cmpI _ _).lex (sg_cmpB x y)
theorem sg_cmpL_of : ∀ (a b : List Tm), (∀ t ∈ a, ∀ u, Sg (cmpT t u)) → Sg (cmpL a b)
  | [], [], _ => by rw [cmpL]; exact .inr (.inl rfl)
  | [], _ :: _, _ => by rw [cmpL]; exact .inl rfl
  | _ :: _, [], _ => by rw [cmpL]; exact .inr (.inr rfl)
  | a :: x, b :: y, h => by rw [cmpL]; exact (h a (by simp) b).lex (sg_cmpL_of x y fun t ht => h t (by simp [ht]))
theorem sg_of (a b : Tm) (h : Sg (cmpL a.args b.args)) : Sg (cmpT a b) := by
  rw [cmpT_eq]; exact (sg_cmpI _ _).lex ((sg_cmpI _ _).lex ((sg_cmpI _ _).lex ((sg_cmpB _ _).lex h)))
theorem sg_cmpT (a : Tm) : ∀ b, Sg (cmpT a b) := by
  induction a using Tm.ind with
  | h4 s l ih => exact fun b => sg_of _ b (sg_cmpL_of l b.args ih)
  | _ => exact fun b => sg_of _ b (sg_cmpL_of [] b.args (by simp))
theorem sg_cmpL (a b : List Tm) : Sg (cmpL a b) := sg_cmpL_of a b fun t _ => sg_cmpT t

theorem lex_neg {a b a' b' : Int} (h : a' = -a) (h' : a = 0 → b' = -b) : lex a' b' = -lex a b := by
  subst h
  unfold lex
  by_cases e : a = 0
  · simp [e, h' e]
  · rw [if_neg (by omega), if_neg e]
theorem cmpI_neg (a b : Int) : cmpI b a = -cmpI a b := by unfold cmpI; repeat' split <;> omega
theorem cmpB_neg : ∀ a b, cmpB b a = -cmpB a b
  | [], [] => rfl
  | [], _ :: _ => rfl
  | _ :: _, [] => rfl
  | a :: x, b :: y => by rw [cmpB, cmpB]; exact lex_neg (cmpI_neg _ _) fun _ => cmpB_neg x y
theorem cmpL_neg_of : ∀ (a b : List Tm), (∀ t ∈ a, ∀ u, cmpT u t = -cmpT t u) → cmpL b a = -cmpL a b
  | [], [], _ => by simp [cmpL]
  | [], _ :: _, _ => by simp [cmpL]
  | _ :: _, [], _ => by simp [cmpL]
  | a :: x, b :: y, h => by rw [cmpL, cmpL]; exact lex_neg (h a (by simp) b) fun _ => cmpL_neg_of x y fun t ht => h t (by simp [ht])
theorem neg_of (a b : Tm) (h : cmpL b.args a.args = -cmpL a.args b.args) : cmpT b a = -cmpT a b := by
  rw [cmpT_eq, cmpT_eq]; exact lex_neg (cmpI_neg _ _) fun _ => lex_neg (cmpI_neg _ _) fun _ => lex_neg (cmpI_neg _ _) fun _ => lex_neg (cmpB_neg _ _) fun _ => h
theorem cmpT_neg (a : Tm) : ∀ b, cmpT b a = -cmpT a b := by
  induction a using Tm.ind with
  | h4 s l ih => exact fun b => neg_of _ b (cmpL_neg_of l b.args ih)
  | _ => exact fun b => neg_of _ b (cmpL_neg_of [] b.args (by simp))
theorem cmpT_self (a : Tm) : cmpT a a = 0 := by have := cmpT_neg a a; omega

/-! ### it is a total order -/
def T3 (x y z : Int) : Prop := x ≤ 0 → y ≤ 0 → z ≤ 0 ∧ (z < 0 ↔ x < 0 ∨ y < 0)
theorem T3.lex {x y z x' y' z' : Int} (h : T3 x y z) (h' : x = 0 → y = 0 → T3 x' y' z') : T3 (lex x x') (lex y y') (lex z z') := by
  unfold T3 Proofs.Ytmffobadnmkpbaa.lex at *
  intro hx hy
  by_cases ex : x = 0
  · by_cases ey : y = 0
    · have := h (by omega) (by omega)
      have ez : z = 0 := by omega
      have := h' ex ey
      simp only [ex, ey, ez, if_true] at hx hy ⊢
      exact this hx hy
    · rw [if_neg ey] at hy ⊢
      rw [if_pos ex]
      rw [if_pos ex] at hx
      have := h (by omega) hy
      rw [if_neg (by omega)]
      refine ⟨this.1, fun _ => .inr (by omega), fun _ => by omega⟩
  · rw [if_neg ex] at hx ⊢
    have hy' : y ≤ 0 := by split at hy <;> omega
    have := h hx hy'
    rw [if_neg (by omega)]
    exact ⟨this.1, fun _ => .inl (by omega), fun _ => by omega⟩
theorem t3_cmpI (a b c : Int) : T3 (cmpI a b) (cmpI b c) (cmpI a c) := by
  unfold T3 cmpI; repeat' split
  all_goals omega
theorem t3_cmpB : ∀ a b c, T3 (cmpB a b) (cmpB b c) (cmpB a c)
  | [], [], [] => by simp [T3, cmpB]
  | [], [], _ :: _ => by simp [T3, cmpB]
  | [], _ :: _, [] => by simp [T3, cmpB]
  | [], _ :: _, _ :: _ => by simp [T3, cmpB]
  | _ :: _, [], [] => by simp [T3, cmpB]
  | _ :: _, [], _ :: _ => by simp [T3, cmpB]
  | _ :: _, _ :: _, [] => by simp [T3, cmpB]
  | a :: x, b :: y, c :: z => by rw [cmpB, cmpB, cmpB]; exact (t3_cmpI _ _ _).lex fun _ _ => t3_cmpB x y z
theorem t3_cmpL_of : ∀ (a b c : List Tm), (∀ t ∈ a, ∀ u v, T3 (cmpT t u) (cmpT u v) (cmpT t v)) → T3 (cmpL a b) (cmpL b c) (cmpL a c)
  | [], [], [], _ => by simp [T3, cmpL]
  | [], [], _ :: _, _ => by simp [T3, cmpL]
  | [], _ :: _, [], _ => by simp [T3, cmpL]
  | [], _ :: _, _ :: _, _ => by simp [T3, cmpL]
  | _ :: _, [], [], _ => by simp [T3, cmpL]
  | _ :: _, [], _ :: _, _ => by simp [T3, cmpL]
  | _ :: _, _ :: _, [], _ => by simp [T3, cmpL]
  | a :: x, b :: y, c :: z, h => by rw [cmpL, cmpL, cmpL]; exact (h a (by simp) b c).lex fun _ _ => t3_cmpL_of x y z fun t ht => h t (by simp [ht])
theorem t3_of (a b c : Tm) (h : T3 (cmpL a.args b.args) (cmpL b.args c.args) (cmpL a.args c.args)) : T3 (cmpT a b) (cmpT b c) (cmpT a c) := by
  rw [cmpT_eq, cmpT_eq, cmpT_eq]; exact (t3_cmpI _ _ _).lex fun _ _ => (t3_cmpI _ _ _).lex fun _ _ => (t3_cmpI _ _ _).lex fun _ _ => (t3_cmpB _ _ _).lex fun _ _ => h
theorem t3_cmpT (a : Tm) : ∀ b c, T3 (cmpT a b) (cmpT b c) (cmpT a c) := by
  induction a using Tm.ind with
  | h4 s l ih => exact fun b c => t3_of _ b c (t3_cmpL_of l b.args c.args ih)
  | _ => exact fun b c => t3_of _ b c (t3_cmpL_of [] b.args c.args (by simp))

/-! ### alike in the order is the same -/
theorem lex_eq0 {a b : Int} : lex a b = 0 ↔ a = 0 ∧ b = 0 := by unfold lex; split <;> omega
theorem cmpB_eq0 : ∀ {a b}, cmpB a b = 0 → a = b
  | [], [], _ => rfl
  | [], _ :: _, h => by simp [cmpB] at h
  | _ :: _, [], h => by simp [cmpB] at h
  | a :: x, b :: y, h => by
    rw [cmpB, lex_eq0, cmpI_zero] at h
    rw [cmpB_eq0 h.2, UInt8.toNat_inj.1 (by omega : a.toNat = b.toNat)]
theorem cmpL_eq0_of : ∀ (a b : List Tm), (∀ t ∈ a, ∀ u, cmpT t u = 0 → t = u) → cmpL a b = 0 → a = b
  | [], [], _, _ => rfl
  | [], _ :: _, _, h => by simp [cmpL] at h
  | _ :: _, [], _, h => by simp [cmpL] at h
  | a :: x, b :: y, hh, h => by
    rw [cmpL, lex_eq0] at h
    rw [hh a (by simp) b h.1, cmpL_eq0_of x y (fun t ht => hh t (by simp [ht])) h.2]
theorem toList_inj {a b : ByteArray} (h : a.toList = b.toList) : a = b := by
  rw [ByteArray.toList_eq, ByteArray.toList_eq] at h
  exact ByteArray.ext (Array.toList_inj.1 h)
theorem Tm.ext {a b : Tm} (hk : a.kind = b.kind) (hn : a.num = b.num) (hs : a.name = b.name) (hl : a.args = b.args) : a = b := by
  cases a <;> cases b <;> simp_all [Tm.kind, Tm.num, Tm.name, Tm.args] <;> omega
theorem eq0_of (a b : Tm) (h : cmpL a.args b.args = 0 → a.args = b.args) (e : cmpT a b = 0) : a = b := by
  rw [cmpT_eq, lex_eq0, lex_eq0, lex_eq0, lex_eq0, cmpI_zero, cmpI_zero] at e
  exact Tm.ext e.1 e.2.1 (toList_inj (cmpB_eq0 e.2.2.2.1)) (h e.2.2.2.2)
theorem cmpT_eq0 (a : Tm) : ∀ b, cmpT a b = 0 → a = b := by
  induction a using Tm.ind with
  | h4 s l ih => exact fun b => eq0_of _ b (cmpL_eq0_of l b.args ih)
  | _ => exact fun b => eq0_of _ b (cmpL_eq0_of [] b.args (by simp))

/-! ### what the machine asks of two texts -/
theorem cmpB_lt : ∀ a b, Op.bytesLess a b = decide (cmpB a b < 0)
  | [], [] => by simp [Op.bytesLess, cmpB]
  | [], _ :: _ => by simp [Op.bytesLess, cmpB]
  | _ :: _, [] => by simp [Op.bytesLess, cmpB]
  | a :: x, b :: y => by
    rw [Op.bytesLess, cmpB, cmpB_lt x y]
    by_cases h : a = b
    · subst h; simp [cmpI_self, lex_zero]
    · have hn : (a.toNat : Int) ≠ b.toNat := fun e => h (UInt8.toNat_inj.1 (by omega))
      rw [lex_ne _ (fun e => hn (cmpI_zero.1 e))]
      have : (a == b) = false := by simpa using h
      rw [this, Bool.false_and, Bool.or_false]
      unfold cmpI
      by_cases hl : a < b
      · have : (a.toNat : Int) < b.toNat := by have := UInt8.lt_iff_toNat_lt.1 hl; omega
        simp [hl, this]
      · have h2 : ¬ (a.toNat : Int) < b.toNat := fun e => hl (UInt8.lt_iff_toNat_lt.2 (by omega))
        rw [if_neg h2]
        simp only [hl, decide_false]
        split <;> simp
theorem cmpB_eq (a b : List UInt8) : (a == b) = decide (cmpB a b = 0) := by
  by_cases h : a = b
  · subst h
    have := cmpB_neg a a
    have e : cmpB a a = 0 := by omega
    simp [e]
  · have : cmpB a b ≠ 0 := fun e => h (cmpB_eq0 e)
    simp [h, this]
end Go.Proofs.Ytmffobadnmkpbaa
namespace Go.Proofs.Ytmffobadnmkpbaa
open Go.RowKit

set_option maxRecDepth 100000 in
theorem nanI_c (a : Int) (w : World) : Calls Try.prog 106 #[.int .i64 a] w fun e w' => e = .returned (.bool false) ∧ w = w' := by
  go_enter Try.func106, Try.ntmps106
  go_wp2
  go_ret
  exact ⟨ret_bool (by simp), rfl⟩
set_option maxRecDepth 100000 in
theorem nanS_c (a : ByteArray) (w : World) : Calls Try.prog 107 #[.string a] w fun e w' => e = .returned (.bool false) ∧ w = w' := by
  go_enter Try.func107, Try.ntmps107
  go_wp2
  go_ret
  exact ⟨ret_bool (by simp), rfl⟩

theorem cmpI_lt {a b : Int} (h : a < b) : cmpI a b = -1 := by simp [cmpI, h]
theorem cmpI_gt {a b : Int} (h : ¬ a < b) (h2 : b < a) : cmpI a b = 1 := by simp [cmpI, h, h2]
theorem cmpI_eq' {a b : Int} (h : ¬ a < b) (h2 : ¬ b < a) : cmpI a b = 0 := by simp [cmpI, h, h2]

set_option maxRecDepth 100000 in
theorem compareI_c (a b : Int) (w : World) : Calls Try.prog 66 #[.int .i64 a, .int .i64 b] w fun e w' => e = .returned (.int .i64 (cmpI a b)) ∧ w = w' := by
  by_cases h1 : a < b
  · rw [cmpI_lt h1]
    go_enter Try.func66, Try.ntmps66
    go_wp2_with (first | (go_at_call 106; (with_reducible refine (nanI_c _ _).mono ?_); rintro e w' ⟨rfl, rfl⟩))
    go_ret
    exact ⟨rfl, rfl⟩
  by_cases h2 : b < a
  · rw [cmpI_gt h1 h2]
    go_enter Try.func66, Try.ntmps66
    go_wp2_with (first | (go_at_call 106; (with_reducible refine (nanI_c _ _).mono ?_); rintro e w' ⟨rfl, rfl⟩))
    go_ret
    exact ⟨rfl, rfl⟩
  rw [cmpI_eq' h1 h2]
  go_enter Try.func66, Try.ntmps66
  go_wp2_with (first | (go_at_call 106; (with_reducible refine (nanI_c _ _).mono ?_); rintro e w' ⟨rfl, rfl⟩))
  go_ret
  exact ⟨rfl, rfl⟩

set_option maxRecDepth 100000 in
theorem order_c (a b : Int) (w : World) : Calls Try.prog 70 #[.int .i64 a, .int .i64 b] w fun e w' => e = .returned (.int .i64 (cmpI a b)) ∧ w = w' := by
  by_cases h1 : a < b
  · rw [cmpI_lt h1]
    go_enter Try.func70, Try.ntmps70
    go_wp2
    go_ret
    exact ⟨rfl, rfl⟩
  by_cases h2 : b < a
  · rw [cmpI_gt h1 h2]
    go_enter Try.func70, Try.ntmps70
    go_wp2
    go_ret
    exact ⟨rfl, rfl⟩
  rw [cmpI_eq' h1 h2]
  go_enter Try.func70, Try.ntmps70
  go_wp2
  go_ret
  exact ⟨rfl, rfl⟩

theorem cmpS_parts (a b : ByteArray) : ∃ x y : Bool, Op.bytesLess a.toList b.toList = x ∧ (a.toList == b.toList) = y ∧ cmpS a b = if x then -1 else if y then 0 else 1 := by
  refine ⟨_, _, rfl, rfl, ?_⟩
  rw [cmpB_lt, cmpB_eq]
  have := sg_cmpB a.toList b.toList
  unfold cmpS
  rcases this with e | e | e <;> simp [e]

set_option maxRecDepth 100000 in
theorem compareS_c (a b : ByteArray) (w : World) : Calls Try.prog 67 #[.string a, .string b] w fun e w' => e = .returned (.int .i64 (cmpS a b)) ∧ w = w' := by
  obtain ⟨x, y, ex, ey, e⟩ := cmpS_parts a b
  rw [e]
  clear e
  cases x <;> cases y
  all_goals
    go_enter Try.func67, Try.ntmps67
    go_wp2_with (first | (go_at_call 107; (with_reducible refine (nanS_c _ _).mono ?_); rintro e w' ⟨rfl, rfl⟩))
    go_ret
    exact ⟨rfl, rfl⟩
set_option maxRecDepth 100000 in
theorem texts_c (a b : ByteArray) (w : World) : Calls Try.prog 71 #[.string a, .string b] w fun e w' => e = .returned (.int .i64 (cmpS a b)) ∧ w = w' := by
  obtain ⟨x, y, ex, ey, e⟩ := cmpS_parts a b
  rw [e]
  clear e
  cases x <;> cases y
  all_goals
    go_enter Try.func71, Try.ntmps71
    go_wp2
    go_ret
    exact ⟨rfl, rfl⟩
end Go.Proofs.Ytmffobadnmkpbaa
namespace Go.Proofs.Ytmffobadnmkpbaa
open Go.RowKit

theorem below_one (w : World) (o : Obj) : Below w.heap.size w (w.alloc o) := (Below.refl _ _).alloc (Nat.le_refl _) o
theorem TmAt.nil_of {p : Nat → Prop} {w : World} {t : Tm} {a : Value} (h : TmAt p w t a) (hk : t.kind ≠ 4) : a = .slice none 0 0 := by
  cases h with
  | leaf => rfl
  | node => simp [Tm.kind] at hk

set_option maxRecDepth 100000 in
theorem args_c (t : Tm) (ao : Option Addr) (n c : Nat) (h : t.kind ≠ 4 → (.slice ao n c : Value) = .slice none 0 0) (w : World) :
    Calls Try.prog 62 #[.agg #[.int .i64 t.kind, .int .i64 t.num, .string t.name, .slice ao n c]] w fun e w' => e = .returned (.slice ao n c) ∧ Below w.heap.size w w' := by
  have HZ := Lib.hid (below_one w)
  by_cases hk : t.kind = 4
  · rw [hk]
    clear h hk
    go_enter Try.func62, Try.ntmps62
    go_wp2
    go_ret
    exact ⟨rfl, HZ.out _⟩
  · have he := h hk
    have hkb : (t.kind != 4) = true := by simpa using hk
    simp only [Value.slice.injEq] at he
    obtain ⟨rfl, rfl, rfl⟩ := he
    clear h hk
    go_enter Try.func62, Try.ntmps62
    go_wp2
    go_ret
    exact ⟨rfl, HZ.out _⟩

def SizeC (t : Tm) : Prop := ∀ (va : Value) (w : World), TmAt (fun _ => True) w t va → t.size ≤ 1000000000 →
  Calls Try.prog 15 #[tmV t va] w fun e w' => e = .returned (.int .i64 t.size) ∧ Below w.heap.size w w'

set_option maxRecDepth 100000 in
set_option maxHeartbeats 1600000 in
theorem size_step (t : Tm) (va : Value) (w : World) (ht : TmAt (fun _ => True) w t va) (hb : t.size ≤ 1000000000) (hC : ∀ u ∈ t.args, SizeC u) :
    Calls Try.prog 15 #[tmV t va] w fun e w' => e = .returned (.int .i64 t.size) ∧ Below w.heap.size w w' := by
  have h4 := fun h => ht.nil_of h
  obtain ⟨ao, cc, rfl, hc1, hc2⟩ := ht.shape
  have HT := Lib.hid (TsAt.of_tm ht)
  have HC := Lib.hid hC
  have HA : Hid (∀ W, Calls Try.prog 62 #[.agg #[.int .i64 t.kind, .int .i64 t.num, .string t.name, .slice ao t.args.length cc]] W fun e w' => e = .returned (.slice ao t.args.length cc) ∧ Below W.heap.size W w') := fun W => args_c t _ _ _ h4 W
  have HZ := Lib.hid (below_one w)
  have HS := Lib.hid t.size_eq
  have HB := Lib.hid hb
  have hl : t.args.length ≤ 1000000000 := by have h1 := Tm.sizes_len t.args; have h2 := t.size_eq; omega
  unfold tmV
  clear ht hC h4 hb hc1 hc2
  generalize t.size = z at *
  generalize t.args = l at *
  go_enter Try.func15, Try.ntmps15
  go_wp2_with (first | (go_at_call 62; ((with_reducible refine (HA.out _).mono ?_); rintro e W1 ⟨rfl, bb⟩; have B1 := Lib.hid ((HZ.out _).trans (bb.mono (by simp))); clear bb)))
  go_loopg [3, 9] l.length (fun n s i wr => ∃ (k : Nat) (S : Int), k ≤ l.length ∧ s = .int .i64 S ∧ i = .int .i64 k ∧ 0 ≤ S ∧ S ≤ 1000000000 ∧ Hid (n = l.length - k) ∧ Hid (S = 1 + Tm.sizes (l.take k)) ∧ Hid (Below w.heap.size w wr))
  case atStart => exact ⟨0, 1, by omega, rfl, rfl, by omega, by omega, rfl, Lib.hid (by simp [Tm.sizes]), B1⟩
  case round =>
    obtain ⟨k, S, hk, rfl, rfl, hS0, hS1, HN, HE, HW⟩ := hrel
    by_cases hlt : k < l.length
    · obtain ⟨b, off, a1, rfl, -, hcc, hta⟩ := (HT.out.later HW.out).get k hlt
      obtain ⟨ao1, c1, rfl, _⟩ := hta.shape
      have CX := Lib.hid (HC.out l[k] (List.getElem_mem hlt))
      have HD := Lib.hid (Tm.sizes_take l k hlt)
      have hbb : S + (l[k].size : Int) ≤ 1000000000 := by
        have h1 := HE.out; have h2 := HS.out; have h3 := HD.out; have h4 := Tm.sizes_take_le l (k + 1); have h5 := HB.out; omega
      generalize l[k] = u at *
      obtain ⟨x0, x1, x2, x3⟩ := hcc
      have hbl := World.block_lt_of_cell? wr _ x0
      have HU := Lib.hid hta
      have HZ2 := Lib.hid (below_one wr)
      have CC : Hid (∀ W, Below wr.heap.size wr W → Calls Try.prog 15 #[.agg #[.int .i64 u.kind, .int .i64 u.num, .string u.name, .slice ao1 u.args.length c1]] W fun e w' => e = .returned (.int .i64 u.size) ∧ Below W.heap.size W w') := fun W h => CX.out _ W (HU.out.later h) (by omega)
      clear hta CX
      generalize u.size = y at *
      go_wp2_with (first | (go_at_call 15; ((with_reducible refine (CC.out _ (HZ2.out _)).mono ?_); rintro e W2 ⟨rfl, bb⟩; have BB := Lib.hid bb; clear bb)))
      go_roundg (l.length - (k + 1))
      case measure => have := HN.out; omega
      case rel => exact ⟨k + 1, S + y, by omega, by go_num, by go_num, by omega, by omega, rfl, Lib.hid (by have h1 := HE.out; have h3 := HD.out; omega), HW.out.trans ((HZ2.out _).trans (BB.out.mono (by simp)) |>.mono HW.out.size)⟩
    · obtain rfl : k = l.length := by omega
      have HR : Hid (S = z) := by have h1 := HE.out; have h2 := HS.out; rw [List.take_length] at h1; show _ = _; omega
      go_wp2
      go_ret
      exact ⟨ret_int HR.out, HW.out⟩
theorem size_all (t : Tm) : SizeC t := by
  induction t using Tm.ind with
  | h4 s l ih => exact fun va w ha hb => size_step _ va w ha hb ih
  | _ => exact fun va w ha hb => size_step _ va w ha hb (by simp [Tm.args])
theorem size_c (t : Tm) (va : Value) (w : World) (ht : TmAt (fun _ => True) w t va) (hb : t.size ≤ 1000000000) :
    Calls Try.prog 15 #[tmV t va] w fun e w' => e = .returned (.int .i64 t.size) ∧ Below w.heap.size w w' := size_all t va w ht hb
end Go.Proofs.Ytmffobadnmkpbaa
namespace Go.Proofs.Ytmffobadnmkpbaa
open Go.RowKit

theorem box_one {w : World} {a0 a1 a2 a3 : Value} {T : TypeId} {W' : World} (h : Below (w.heap.size + 1) (w.alloc (.cells #[a0, a1, a2, a3] T)) W') :
    W'.cell? ⟨w.heap.size, 0, none⟩ = some a0 ∧ W'.cell? ⟨w.heap.size, 1, none⟩ = some a1 ∧ W'.cell? ⟨w.heap.size, 2, none⟩ = some a2 ∧ W'.cell? ⟨w.heap.size, 3, none⟩ = some a3 := by
  have h0 : BoxL W' w.heap.size [a0, a1, a2, a3] := (BoxL.mk' w #[a0, a1, a2, a3] T).block (h.block _ (by omega))
  exact ⟨(h0.get 0 rfl).1, (h0.get 1 rfl).1, (h0.get 2 rfl).1, (h0.get 3 rfl).1⟩
theorem below_box {w W : World} {o : Obj} (h : Below (w.heap.size + 1) (w.alloc o) W) : Below w.heap.size w W := (below_one w o).trans (h.mono (by omega))
theorem le_box {w W : World} {o : Obj} (h : Below (w.heap.size + 1) (w.alloc o) W) : w.heap.size + 1 ≤ W.heap.size := by have := h.size; simpa using this

def RSizeC (t : Tm) : Prop := ∀ (va : Value) (w : World), TmAt (fun _ => True) w t va → t.size ≤ 1000000000 →
  Calls Try.prog 16 #[tmV t va] w fun e w' => e = .returned (.int .i64 t.size) ∧ Below w.heap.size w w'

set_option maxRecDepth 100000 in
set_option maxHeartbeats 1600000 in
theorem rsize_step (t : Tm) (va : Value) (w : World) (ht : TmAt (fun _ => True) w t va) (hb : t.size ≤ 1000000000) (hC : ∀ u ∈ t.args, RSizeC u) :
    Calls Try.prog 16 #[tmV t va] w fun e w' => e = .returned (.int .i64 t.size) ∧ Below w.heap.size w w' := by
  obtain ⟨ao, cc, rfl, hc1, hc2⟩ := ht.shape
  have HT := Lib.hid (TsAt.of_tm ht)
  have HC := Lib.hid hC
  have HZ := Lib.hid (below_one w)
  have HS := Lib.hid t.size_eq
  have HB := Lib.hid hb
  have hl : t.args.length ≤ 1000000000 := by have h1 := Tm.sizes_len t.args; have h2 := t.size_eq; omega
  unfold tmV
  have H4 := Lib.hid (fun h : t.kind ≠ 4 => Tm.args_kind h)
  clear ht hC hb hc1 hc2
  generalize t.size = z at *
  generalize t.args = l at *
  by_cases hk4 : t.kind = 4
  · rw [hk4]
    clear hk4 H4
    go_enter Try.func16, Try.ntmps16
    go_wp2
    go_loopg [3, 4] l.length (fun n s i wr => ∃ (k : Nat) (S : Int), k ≤ l.length ∧ s = .int .i64 S ∧ i = .int .i64 k ∧ 0 ≤ S ∧ S ≤ 1000000000 ∧ Hid (n = l.length - k) ∧ Hid (S = 1 + Tm.sizes (l.take k)) ∧ Hid (Below (w.heap.size + 1) (w.alloc (.cells #[.int .i64 4, .int .i64 t.num, .string t.name, .slice ao l.length cc] 24)) wr))
    case atStart => exact ⟨0, 1, by omega, rfl, rfl, by omega, by omega, rfl, Lib.hid (by simp [Tm.sizes]), Below.refl _ _⟩
    case round =>
      obtain ⟨k, S, hk, rfl, rfl, hS0, hS1, HN, HE, HW⟩ := hrel
      have HWw := Lib.hid (below_box HW.out)
      obtain ⟨y0, y1, y2, y3⟩ := box_one HW.out
      by_cases hlt : k < l.length
      · obtain ⟨b, off, a1, rfl, -, hcc, hta⟩ := (HT.out.later HWw.out).get k hlt
        obtain ⟨ao1, c1, rfl, _⟩ := hta.shape
        have CX := Lib.hid (HC.out l[k] (List.getElem_mem hlt))
        have HD := Lib.hid (Tm.sizes_take l k hlt)
        have hbb : S + (l[k].size : Int) ≤ 1000000000 := by
          have h1 := HE.out; have h2 := HS.out; have h3 := HD.out; have h4 := Tm.sizes_take_le l (k + 1); have h5 := HB.out; omega
        generalize l[k] = u at *
        obtain ⟨x0, x1, x2, x3⟩ := hcc
        have CC : Hid (Calls Try.prog 16 #[.agg #[.int .i64 u.kind, .int .i64 u.num, .string u.name, .slice ao1 u.args.length c1]] wr fun e w' => e = .returned (.int .i64 u.size) ∧ Below wr.heap.size wr w') := CX.out _ wr hta (by omega)
        clear hta CX
        generalize u.size = y at *
        go_wp2_with (first | (go_at_call 16; ((with_reducible refine CC.out.mono ?_); rintro e W2 ⟨rfl, bb⟩; have BB := Lib.hid bb; clear bb)))
        go_roundg (l.length - (k + 1))
        case measure => have := HN.out; omega
        case rel => exact ⟨k + 1, S + y, by omega, by go_num, by go_num, by omega, by omega, rfl, Lib.hid (by have h1 := HE.out; have h3 := HD.out; omega), HW.out.trans (BB.out.mono (le_box HW.out))⟩
      · obtain rfl : k = l.length := by omega
        have HR : Hid (S = z) := by have h1 := HE.out; have h2 := HS.out; rw [List.take_length] at h1; show _ = _; omega
        go_wp2
        go_ret
        exact ⟨ret_int HR.out, HWw.out⟩
  · have hkb : (t.kind == 4) = false := by simpa using hk4
    have hl0 := H4.out hk4
    subst hl0
    have HR : Hid ((1 : Int) = z) := by have h2 := HS.out; simp only [Tm.sizes] at h2; show _ = _; omega
    clear hk4 H4
    go_enter Try.func16, Try.ntmps16
    go_wp2
    go_loopg [3, 4] 0 (fun n s i wr => s = .int .i64 1 ∧ i = .int .i64 0 ∧ Hid (Below (w.heap.size + 1) (w.alloc (.cells #[.int .i64 t.kind, .int .i64 t.num, .string t.name, .slice ao ([] : List Tm).length cc] 24)) wr))
    case atStart => exact ⟨rfl, rfl, Below.refl _ _⟩
    case round =>
      obtain ⟨rfl, rfl, HW⟩ := hrel
      have HWw := Lib.hid (below_box HW.out)
      obtain ⟨y0, y1, y2, y3⟩ := box_one HW.out
      go_wp2
      go_ret
      exact ⟨ret_int HR.out, HWw.out⟩
theorem rsize_all (t : Tm) : RSizeC t := by
  induction t using Tm.ind with
  | h4 s l ih => exact fun va w ha hb => rsize_step _ va w ha hb ih
  | _ => exact fun va w ha hb => rsize_step _ va w ha hb (by simp [Tm.args])
theorem rsize_c (t : Tm) (va : Value) (w : World) (ht : TmAt (fun _ => True) w t va) (hb : t.size ≤ 1000000000) :
    Calls Try.prog 16 #[tmV t va] w fun e w' => e = .returned (.int .i64 t.size) ∧ Below w.heap.size w w' := rsize_all t va w ht hb
end Go.Proofs.Ytmffobadnmkpbaa
namespace Go.Proofs.Ytmffobadnmkpbaa
open Go.RowKit

def IsAt (w : World) (v : Value) (zs : List Int) : Prop := SlAt w 1 v zs.length (zs.map (Value.int .i64))
theorem IsAt.below {w w' : World} {v : Value} {zs : List Int} (h : IsAt w v zs) (hb : Below w.heap.size w w') : IsAt w' v zs := SlAt.below h hb
theorem IsAt.shape {w : World} {v : Value} {zs : List Int} (h : IsAt w v zs) : ∃ ao cap, v = .slice ao zs.length cap ∧ zs.length ≤ cap ∧ cap ≤ maxLen := SlAt.shape h
theorem IsAt.own {w : World} {base : Nat} {e : TypeId} {v : Value} {zs : List Int} (h : w.ownsRow base e 1 v zs.length (zs.map (Value.int .i64))) : IsAt w v zs := SlAt.of_own h
theorem IsAt.getR {w : World} {ao : Option Addr} {n cap : Nat} {zs : List Int} (h : IsAt w (.slice ao n cap) zs) (k : Nat) (hk : k < zs.length) :
    ∃ b off, ao = some ⟨b, off, none⟩ ∧ zs.length ≤ cap ∧ b < w.heap.size ∧ w.cell? ⟨b, off + k, none⟩ = some (.int .i64 zs[k]) := by
  obtain ⟨b, off, c', he, hc, _, hb, hx⟩ := SlAt.pos h (by omega)
  simp only [Value.slice.injEq] at he
  obtain ⟨rfl, rfl, rfl⟩ := he
  exact ⟨b, off, rfl, hc, hb, by rw [hx k (by omega)]; simp [hk]⟩
/-- the list L, wherever it lies -/
def RetIs (L : List Int) (w : World) (e : Ending) (w' : World) : Prop := ∃ ao cap, e = .returned (.slice ao L.length cap) ∧ IsAt w' (.slice ao L.length cap) L ∧ Below w.heap.size w w'

theorem below_drewT {B : Nat} {w w' : World} (h : Below B w w') (q : Nat) : Below B w (w'.drewN q) := by
  induction q with
  | zero => exact h
  | succ q ih => exact ih.drew
set_option maxRecDepth 100000 in
theorem has_c (va : Value) (x : List Int) (n : Int) (w : World) (ha : IsAt w va x) (hl : x.length ≤ 1000000) :
    Calls Try.prog 64 #[va, .int .i64 n] w fun e w' => e = .returned (.bool (decide (n ∈ x))) ∧ Below w.heap.size w w' := by
  obtain ⟨ao, cap, rfl, _⟩ := ha.shape
  have HA := Lib.hid ha
  clear ha
  go_enter Try.func64, Try.ntmps64
  go_wp2
  go_loopg [5] x.length (fun m s wr => ∃ k : Nat, k ≤ x.length ∧ s = .int .i64 k ∧ Hid (m = x.length - k) ∧ Hid (n ∉ x.take k) ∧ Hid (Below w.heap.size w wr))
  case atStart => exact ⟨0, by omega, rfl, rfl, Lib.hid (by simp), Below.refl _ _⟩
  case round =>
    obtain ⟨k, hk, rfl, HN, HE, HW⟩ := hrel
    by_cases hlt : k < x.length
    · obtain ⟨b1, o1, rfl, q1, q2, hc1⟩ := (HA.out.below HW.out).getR k hlt
      have HS : Hid (n ≠ x[k] → n ∉ x.take (k + 1)) := fun h => by
        rw [List.take_succ_eq_append_getElem hlt, List.mem_append]; exact fun h3 => h3.elim (fun h2 => HE.out h2) (fun h2 => h (by simpa using h2))
      have HM : Hid (n = x[k] → n ∈ x) := fun h => h ▸ List.getElem_mem hlt
      generalize x[k] = p at *
      by_cases hpq : p = n
      · have hb : (p == n) = true := by simp [hpq]
        have HM2 := Lib.hid (HM.out hpq.symm)
        clear hpq HS HM
        go_wp2
        go_ret
        exact ⟨ret_bool (by symm; simp; exact HM2.out), HW.out⟩
      · have hb : (p == n) = false := by simp [hpq]
        have HS2 := Lib.hid (HS.out (fun e => hpq e.symm))
        clear hpq HS HM
        go_wp2
        go_roundg (x.length - (k + 1))
        case measure => have := HN.out; omega
        case rel => exact ⟨k + 1, by omega, by go_num, rfl, HS2, HW.out⟩
    · obtain rfl : k = x.length := by omega
      have HT : Hid (n ∉ x) := by have h := HE.out; rw [List.take_length] at h; exact h
      go_wp2
      go_ret
      exact ⟨ret_bool (by symm; simp; exact HT.out), HW.out⟩

set_option maxRecDepth 100000 in
theorem sameInts07_c (va vb : Value) (x y : List Int) (w : World) (ha : IsAt w va x) (hb : IsAt w vb y) (hl : x.length ≤ 1000000) :
    Calls Try.prog 19 #[va, vb] w fun e w' => e = .returned (.bool (decide (x = y))) ∧ Below w.heap.size w w' := by
  obtain ⟨ao, cap, rfl, _⟩ := SlAt.shape ha
  obtain ⟨ao2, cap2, rfl, _⟩ := SlAt.shape hb
  have HA := Lib.hid ha
  have HB := Lib.hid hb
  clear ha hb
  by_cases h1 : x.length = y.length
  case neg =>
    have hne : ((x.length : Int) != y.length) = true := by simp; omega
    have H1 := Lib.hid h1
    clear h1
    go_enter Try.func19, Try.ntmps19
    go_wp2
    go_ret
    exact ⟨ret_bool (by symm; simp; intro h; exact H1.out (by rw [h])), Below.refl _ _⟩
  case pos =>
    have H1 := Lib.hid h1
    have hne : ((x.length : Int) != y.length) = false := by rw [h1]; simp
    clear h1
    go_enter Try.func19, Try.ntmps19
    go_wp2
    go_loopg [5] x.length (fun m s wr => ∃ k : Nat, k ≤ x.length ∧ s = .int .i64 k ∧ Hid (m = x.length - k) ∧ Hid (x.take k = y.take k) ∧ Hid (Below w.heap.size w wr))
    case atStart => exact ⟨0, by omega, rfl, rfl, rfl, Lib.hid (Below.refl _ _)⟩
    case round =>
      obtain ⟨k, hk, rfl, HM, HE, HW⟩ := hrel
      by_cases hlt : k < x.length
      · have hly : k < y.length := by have := H1.out; omega
        obtain ⟨b1, o1, rfl, q1, q2, hc1⟩ := IsAt.getR (HA.out.below HW.out) k hlt
        obtain ⟨b2, o2, rfl, q3, q4, hc2⟩ := IsAt.getR (HB.out.below HW.out) k hly
        have j1 : (k : Int) < x.length := by omega
        have j2 : (k : Int) < y.length := by omega
        have HS : Hid (x[k] = y[k] → x.take (k + 1) = y.take (k + 1)) := fun h => by
          rw [List.take_succ_eq_append_getElem hlt, List.take_succ_eq_append_getElem hly, HE.out, h]
        have HN : Hid (x[k] ≠ y[k] → x ≠ y) := fun h he => by subst he; exact h rfl
        generalize x[k] = p at *
        generalize y[k] = q at *
        by_cases hpq : p = q
        · have hb : (p != q) = false := by simp [hpq]
          have HS2 := Lib.hid (HS.out hpq)
          clear HS HN
          go_wp2
          go_quiet (fail)
          go_wp2
          go_roundg (x.length - (k + 1))
          case measure => have := HM.out; omega
          case rel => exact ⟨k + 1, by omega, by go_num, rfl, HS2, Lib.hid (below_drewT HW.out _)⟩
        · have hb : (p != q) = true := by simp [hpq]
          have HN2 := Lib.hid (HN.out hpq)
          clear HS HN
          go_wp2
          go_quiet (fail)
          go_wp2
          go_ret
          exact ⟨ret_bool (by symm; simp; exact HN2.out), below_drewT HW.out _⟩
      · obtain rfl : k = x.length := by omega
        have HT : Hid (x = y) := by
          have h := HE.out
          rw [List.take_length, H1.out, List.take_length] at h
          exact h
        go_wp2
        go_ret
        exact ⟨ret_bool (by symm; simp; exact HT.out), HW.out⟩

set_option maxRecDepth 100000 in
theorem sameInts12_c (va vb : Value) (x y : List Int) (w : World) (ha : IsAt w va x) (hb : IsAt w vb y) (hl : x.length ≤ 1000000) :
    Calls Try.prog 48 #[va, vb] w fun e w' => e = .returned (.bool (decide (x = y))) ∧ Below w.heap.size w w' := by
  obtain ⟨ao, cap, rfl, _⟩ := SlAt.shape ha
  obtain ⟨ao2, cap2, rfl, _⟩ := SlAt.shape hb
  have HA := Lib.hid ha
  have HB := Lib.hid hb
  clear ha hb
  by_cases h1 : x.length = y.length
  case neg =>
    have hne : ((x.length : Int) != y.length) = true := by simp; omega
    have H1 := Lib.hid h1
    clear h1
    go_enter Try.func48, Try.ntmps48
    go_wp2
    go_ret
    exact ⟨ret_bool (by symm; simp; intro h; exact H1.out (by rw [h])), Below.refl _ _⟩
  case pos =>
    have H1 := Lib.hid h1
    have hne : ((x.length : Int) != y.length) = false := by rw [h1]; simp
    clear h1
    go_enter Try.func48, Try.ntmps48
    go_wp2
    go_loopg [5] x.length (fun m s wr => ∃ k : Nat, k ≤ x.length ∧ s = .int .i64 k ∧ Hid (m = x.length - k) ∧ Hid (x.take k = y.take k) ∧ Hid (Below w.heap.size w wr))
    case atStart => exact ⟨0, by omega, rfl, rfl, rfl, Lib.hid (Below.refl _ _)⟩
    case round =>
      obtain ⟨k, hk, rfl, HM, HE, HW⟩ := hrel
      by_cases hlt : k < x.length
      · have hly : k < y.length := by have := H1.out; omega
        obtain ⟨b1, o1, rfl, q1, q2, hc1⟩ := IsAt.getR (HA.out.below HW.out) k hlt
        obtain ⟨b2, o2, rfl, q3, q4, hc2⟩ := IsAt.getR (HB.out.below HW.out) k hly
        have j1 : (k : Int) < x.length := by omega
        have j2 : (k : Int) < y.length := by omega
        have HS : Hid (x[k] = y[k] → x.take (k + 1) = y.take (k + 1)) := fun h => by
          rw [List.take_succ_eq_append_getElem hlt, List.take_succ_eq_append_getElem hly, HE.out, h]
        have HN : Hid (x[k] ≠ y[k] → x ≠ y) := fun h he => by subst he; exact h rfl
        generalize x[k] = p at *
        generalize y[k] = q at *
        by_cases hpq : p = q
        · have hb : (p != q) = false := by simp [hpq]
          have HS2 := Lib.hid (HS.out hpq)
          clear HS HN
          go_wp2
          go_quiet (fail)
          go_wp2
          go_roundg (x.length - (k + 1))
          case measure => have := HM.out; omega
          case rel => exact ⟨k + 1, by omega, by go_num, rfl, HS2, Lib.hid (below_drewT HW.out _)⟩
        · have hb : (p != q) = true := by simp [hpq]
          have HN2 := Lib.hid (HN.out hpq)
          clear HS HN
          go_wp2
          go_quiet (fail)
          go_wp2
          go_ret
          exact ⟨ret_bool (by symm; simp; exact HN2.out), below_drewT HW.out _⟩
      · obtain rfl : k = x.length := by omega
        have HT : Hid (x = y) := by
          have h := HE.out
          rw [List.take_length, H1.out, List.take_length] at h
          exact h
        go_wp2
        go_ret
        exact ⟨ret_bool (by symm; simp; exact HT.out), HW.out⟩
end Go.Proofs.Ytmffobadnmkpbaa
namespace Go.Proofs.Ytmffobadnmkpbaa
open Go.RowKit Go.Maps

theorem Try.infoInt : (Try.prog.info? 3).map (fun i => (i.zero, i.size, i.bytes)) = some (some (.int .i64 0), 1, 8) := by kernel_rfl
theorem wpList_plainG {P : Program} {ops : Array Oper} {Q : Exit → Act → World → Prop} {a : Act} {w : World} {rest : List Oper} {o : Oper} (hg : Region.wanted o (yielded ops a.tmps) = true)
    (h : ∀ K : Act → World → Prop, (∀ a w, wpList P ops Q rest a w → K a w) → o.wp P a w K Q) : wpList P ops Q (o :: rest) a w :=
  wpList_step fun K hK => by rw [if_pos hg]; exact h K hK
/-- 'm[i]', guarded -/
theorem wpList_lookup_setG {P : Program} {K E : TypeId} {ops : Array Oper} {rest : List Oper} {o : Oper} {a : Act} {Q : Exit → Act → World → Prop} (w : World) (hg : Region.wanted o (yielded ops a.tmps) = true) (m x : Operand) (t : TypeId) (hop : o.op = Op.lookup t m x false)
    (hK : P.underlying K = some (.int .i64)) (ht : P.underlying t = some (.map K E)) (hE : P.underlying E = some .bool) (hz : (zeroValue E).run P w = .ok (.bool false) w)
    (b n : Nat) (S : Int → Bool) (hm : a.eval m = .map (some b)) (h : SetAt P K E w b n S) (i : Int) (hx : a.eval x = .int .i64 i) (hi : -9223372036854775808 ≤ i ∧ i ≤ 9223372036854775807)
    (hk : wpList P ops Q rest (a.put o.dst (.bool (S i))) w) : wpList P ops Q (o :: rest) a w := by
  refine wpList_plainG hg fun K' hK' => ?_
  obtain ⟨D, h1, h2, h3⟩ := h
  obtain ⟨v, ps, hrun, hv⟩ := h1.lookup (int_keyed hK) ht hz (plainElem_bool hE false) (keyOf_int_mk hK (wf64 hi))
  obtain ⟨c, rfl, hc⟩ := plainElem_bool_inv hE hv
  rw [h3] at hc
  simp only [Prod.mk.injEq, DataW.lit.injEq, Lit.bool.injEq] at hc
  unfold Oper.wp
  simp [execOp, hop, hm, hx, hrun, Result.andThen]
  rw [← hc.1]
  exact hK' _ _ hk
/-- what the closure of term.Vars holds on to: the list, what was seen, itself -/
structure VB (h : Nat) (w0 wr : World) (v : Value) (L M : List Int) : Prop where
  obox : Box1 wr (h + 1) v
  own : wr.ownsRow (h + 5) 3 1 v L.length (L.map (Value.int .i64))
  seen : Box1 wr (h + 3) (.map (some (h + 2)))
  walk : Box1 wr (h + 4) (.func (.func 63) #[] #[.pointer (some ⟨h + 3, 0, none⟩), .pointer (some ⟨h + 1, 0, none⟩), .pointer (some ⟨h + 4, 0, none⟩)])
  set : SetAt Try.prog 3 4 wr (h + 2) M.length (fun i => decide (i ∈ M))
  bel : Below h w0 wr
  size : h + 5 ≤ wr.heap.size
theorem Box1.blockEq {w w' : World} {b : Nat} {x : Value} (h : Box1 w b x) (e : w'.heap[b]? = w.heap[b]?) : Box1 w' b x :=
  ⟨(World.cell?_of_block (a := ⟨b, 0, none⟩) e).trans h.c0, (World.frozen?_of_block (a := ⟨b, 0, none⟩) e).trans h.f0⟩
theorem VB.below {h : Nat} {w0 wr wr' : World} {v : Value} {L M : List Int} (H : VB h w0 wr v L M) (hb : Below wr.heap.size wr wr') : VB h w0 wr' v L M :=
  ⟨H.obox.past hb, own_below H.own hb, H.seen.past hb, H.walk.past hb, H.set.later hb, H.bel.trans (hb.mono (by have := H.size; omega)), Nat.le_trans H.size hb.size⟩
theorem VB.grown {h : Nat} {w0 wr wr' : World} {v : Value} {L M M' : List Int} (H : VB h w0 wr v L M) (hg : wr.grownBy wr' (some (h + 2))) (hs : SetAt Try.prog 3 4 wr' (h + 2) M'.length (fun i => decide (i ∈ M'))) : VB h w0 wr' v L M' := by
  have hsz := H.size
  have hk : ∀ b, b < wr.heap.size → b ≠ h + 2 → wr'.heap[b]? = wr.heap[b]? := fun b hb hne => hg.block b hb (by simpa using hne)
  refine ⟨H.obox.blockEq (hk _ (by omega) (by omega)), ?_, H.seen.blockEq (hk _ (by omega) (by omega)), H.walk.blockEq (hk _ (by omega) (by omega)), hs, ?_, Nat.le_trans H.size hg.size⟩
  · refine ⟨H.own.1, ?_⟩
    rcases H.own.2 with hn | ⟨g, cap, cur, rfl, hg2, hgg, rest⟩
    · exact .inl hn
    · exact .inr ⟨g, cap, cur, rfl, hg2, (hk g (Array.getElem?_eq_some_iff.1 hgg).1 (by omega)).trans hgg, rest⟩
  · exact H.bel.grown hg (by omega) (fun j e => by cases e; omega)
theorem VB.app {h : Nat} {w0 wr w5 w6 : World} {v v' : Value} {L M : List Int} (H : VB h w0 wr v L M) (e5 : w5 = wr) {n : Int} (ho : w6.ownsRow (h + 5) 3 1 v' (L.length + 1) (L.map (Value.int .i64) ++ [.int .i64 n])) (hb : Below (h + 5) w5 w6) (hk : KeepsBut w5 w6 v) : VB h w0 (w6.setCell ⟨h + 1, 0, none⟩ v') v' (L ++ [n]) M := by
  subst e5
  have hsz := H.size
  have hn : ∀ b, b < h + 5 → w6.heap[b]? = w5.heap[b]? := fun b hb' => hk b (by omega) (own_ne H.own hb')
  refine ⟨(H.obox.blockEq (hn _ (by omega))).set v', ?_, (H.seen.blockEq (hn _ (by omega))).far (by simp) _, (H.walk.blockEq (hn _ (by omega))).far (by simp) _, (H.set.block (hn _ (by omega))).block (Below.heap_setCell _ _ _ _ (by simp)), ?_, ?_⟩
  · have := own_setCell ho (a := ⟨h + 1, 0, none⟩) (by simp) v'
    simpa using this
  · exact (H.bel.trans (hb.mono (by omega))).setCell (p := ⟨h + 1, 0, none⟩) (by simp) v'
  · have := hb.size; simp; omega

def WalkC (h : Nat) (w0 : World) (t : Tm) : Prop := ∀ (va : Value) (wr : World) (v : Value) (L : List Int), VB h w0 wr v L L → TmAt (fun b => b < h) w0 t va → t.ok → L.length + t.size ≤ 100000000 →
  Calls Try.prog 63 #[tmV t va, .pointer (some ⟨h + 3, 0, none⟩), .pointer (some ⟨h + 1, 0, none⟩), .pointer (some ⟨h + 4, 0, none⟩)] wr fun e w' => e = .returned (.tuple #[]) ∧ ∃ v', VB h w0 w' v' (addVs L t.vs) (addVs L t.vs)
end Go.Proofs.Ytmffobadnmkpbaa
