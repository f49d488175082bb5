/-
  CONSTRAINTS, their variables: plain; no program.
-/
import Derived.Test.YtkhiogcdamjocaaSet
namespace Go.Proofs.Ytkhiogcdamjocaa

/-- a constraint's variables, as they stand there -/
def allL (kind : Int) (vars : List Int) (x y z : Int) (vs : List Int) : List Int := if kind = 1 then vars else if kind = 2 then [x, y, z] else if kind = 3 then vs else if kind = 4 then x :: vars else []
/-- each once, where it comes first -/
def uniq (acc : List Int) (v : Int) : List Int := if acc.contains v then acc else acc ++ [v]
def uniqL (l : List Int) : List Int := l.foldl uniq []
theorem uniqL_snoc (l : List Int) (v : Int) : uniqL (l ++ [v]) = uniq (uniqL l) v := by unfold uniqL; rw [List.foldl_append]; rfl
theorem uniqL_len (l : List Int) : (uniqL l).length ≤ l.length := by
  suffices h : ∀ (l acc : List Int), (l.foldl uniq acc).length ≤ acc.length + l.length by simpa [uniqL] using h l []
  intro l
  induction l with
  | nil => intro acc; simp
  | cons v l ih =>
    intro acc
    have h1 := ih (uniq acc v)
    have h2 : (uniq acc v).length ≤ acc.length + 1 := by unfold uniq; split <;> simp
    simp only [List.foldl_cons, List.length_cons]; omega

structure PL where
  kind : Int
  rel : Int
  c : Int
  x : Int
  y : Int
  z : Int
  coef : List Int
  vars : List Int
  vs : List Int
end Go.Proofs.Ytkhiogcdamjocaa
