/-
  A sum's terms in memory; bounds of their ends.
-/
import Derived.Test.YtmmogifmogdegaaLin1
namespace Go.Proofs.Ytmmogifmogdegaa
open Go.RowKit

/-- a sum that Check has let by, over domains of at most 4096 ranges -/
structure GoodL (coef vars : List Int) (ds : Ds) : Prop where
  len : coef.length = vars.length
  le16 : coef.length ≤ 16
  coefs : ∀ c ∈ coef, -100000 ≤ c ∧ c ≤ 100000
  vars : ∀ v ∈ vars, 0 ≤ v ∧ v < ds.length
  doms : ∀ d ∈ ds, d.length ≤ 4096

theorem IsAt.shape {w : World} {v : Value} {zs : List Int} (h : IsAt w v zs) : ∃ ao cap, v = .slice ao zs.length cap ∧ zs.length ≤ cap ∧ cap ≤ maxLen := SlAt.shape h
theorem GoodL.zip_len {coef vars : List Int} {ds : Ds} (h : GoodL coef vars ds) : (coef.zip vars).length = coef.length := by
  rw [List.length_zip, ← h.len]; omega

def spans (ds : Ds) (ps : Ps) : List Rg := ps.map fun p => (loT p.1 (domOf ds p.2), hiT p.1 (domOf ds p.2))
theorem spans_length (ds : Ds) (ps : Ps) : (spans ds ps).length = ps.length := by simp [spans]

theorem domOf_in (ds : Ds) (v : Int) (h : 0 ≤ v ∧ v < ds.length) : ∃ n : Nat, v = n ∧ ∃ hn : n < ds.length, domOf ds v = ds[n] := by
  obtain ⟨h1, h2⟩ := h
  refine ⟨v.toNat, by omega, by omega, ?_⟩
  unfold domOf
  rw [List.getD_eq_getElem?_getD, List.getElem?_eq_getElem (by omega)]; rfl
theorem IsAt.get {w : World} {ao : Option Addr} {n cap : Nat} {zs : List Int} (h : IsAt w (.slice ao n cap) zs) (k : Nat) (hk : k < zs.length) :
    ∃ b off, ao = some ⟨b, off, none⟩ ∧ zs.length ≤ cap ∧ b < w.heap.size ∧ w.cell? ⟨b, off + k, none⟩ = some (.int .i64 zs[k]) := by
  obtain ⟨b, off, c', he, hc, hb, hx⟩ := IsAt.at h (by omega)
  simp only [Value.slice.injEq] at he
  obtain ⟨rfl, rfl, rfl⟩ := he
  exact ⟨b, off, rfl, hc, hb, hx k hk⟩

/-- the cells that hold term k: coefficient, variable, domain -/
theorem row_facts {w : World} {a0 a1 a2 : Option Addr} {c0 c1 c2 : Nat} {coef vars : List Int} {ds : Ds} (h0 : IsAt w (.slice a0 coef.length c0) coef) (h1 : IsAt w (.slice a1 vars.length c1) vars) (hd : DsAt w (.slice a2 ds.length c2) ds) (hg : GoodL coef vars ds) :
    ∀ k, (hk : k < (coef.zip vars).length) → ∃ (b0 o0 b1 o1 b2 o2 n : Nat) (ao : Option Addr) (cap : Nat) (cf : Int) (d : List Rg),
      (a0 = some ⟨b0, o0, none⟩ ∧ a1 = some ⟨b1, o1, none⟩ ∧ a2 = some ⟨b2, o2, none⟩) ∧ (coef.length ≤ c0 ∧ vars.length ≤ c1 ∧ ds.length ≤ c2) ∧ (b0 < w.heap.size ∧ b1 < w.heap.size ∧ b2 < w.heap.size) ∧ n < ds.length ∧
      w.cell? ⟨b0, o0 + k, none⟩ = some (.int .i64 cf) ∧ w.cell? ⟨b1, o1 + k, none⟩ = some (.int .i64 (n : Int)) ∧ w.cell? ⟨b2, o2 + n, none⟩ = some (.slice ao d.length cap) ∧ RgAt w (.slice ao d.length cap) d ∧
      (coef.zip vars)[k] = (cf, (n : Int)) ∧ domOf ds n = d ∧ d.length ≤ 4096 ∧ -100000 ≤ cf ∧ cf ≤ 100000 := fun k hk => by
  have hkc : k < coef.length := by rw [← hg.zip_len]; exact hk
  have hkv : k < vars.length := by rw [← hg.len]; exact hkc
  obtain ⟨b0, o0, rfl, q0, l0, x0⟩ := h0.get k hkc
  obtain ⟨b1, o1, rfl, q1, l1, x1⟩ := h1.get k hkv
  obtain ⟨n, e1, hn, e2⟩ := domOf_in ds vars[k] (hg.vars _ (List.getElem_mem _))
  obtain ⟨b2, o2, ao, cap, rfl, q2, l2, _, x2, x3⟩ := hd.get n hn
  rw [e1] at x1 e2
  have hc := hg.coefs _ (List.getElem_mem hkc)
  exact ⟨b0, o0, b1, o1, b2, o2, n, ao, cap, coef[k], ds[n], ⟨rfl, rfl, rfl⟩, ⟨q0, q1, q2⟩, ⟨l0, l1, l2⟩, hn, x0, x1, x2, x3, by rw [List.getElem_zip, e1], e2, hg.doms _ (List.getElem_mem _), hc.1, hc.2⟩

theorem loT_bnd (c : Int) (d : List Rg) (hc : -100000 ≤ c ∧ c ≤ 100000) : (-20000000 ≤ loT c d ∧ loT c d ≤ 20000000) ∧ (-20000000 ≤ hiT c d ∧ hiT c d ≤ 20000000) := by
  obtain ⟨b1, b2, b3, b4⟩ := ends_bnd d
  have m1 := mul_bnd (endsL (norm d)).1 c 100000 ⟨b1, b2⟩ hc
  have m2 := mul_bnd (endsL (norm d)).2.1 c 100000 ⟨b3, b4⟩ hc
  unfold loT hiT
  split <;> omega
theorem sum_take_bnd (f : Int × Int → Int) (B : Int) : ∀ (ps : Ps), (∀ p ∈ ps, -B ≤ f p ∧ f p ≤ B) → -(B * ps.length) ≤ (ps.map f).sum ∧ (ps.map f).sum ≤ B * ps.length
  | [], _ => by simp
  | p :: ps, h => by
    have h1 := sum_take_bnd f B ps (fun q hq => h q (by simp [hq]))
    have h2 := h p (by simp)
    simp only [List.map_cons, List.sum_cons, List.length_cons]
    push_cast
    rw [Int.mul_add]
    omega
theorem sums_bnd {coef vars : List Int} {ds : Ds} (hg : GoodL coef vars ds) : ∀ k, (-320000000 ≤ loS ds ((coef.zip vars).take k) ∧ loS ds ((coef.zip vars).take k) ≤ 320000000) ∧ (-320000000 ≤ hiS ds ((coef.zip vars).take k) ∧ hiS ds ((coef.zip vars).take k) ≤ 320000000) := fun k => by
  have hl : ((coef.zip vars).take k).length ≤ 16 := by
    rw [List.length_take, hg.zip_len]; have := hg.le16; omega
  have hc : ∀ p ∈ (coef.zip vars).take k, -100000 ≤ p.1 ∧ p.1 ≤ 100000 := fun p hp => hg.coefs _ (List.of_mem_zip (List.mem_of_mem_take hp : (p.1, p.2) ∈ coef.zip vars)).1
  have h1 := sum_take_bnd (fun p => loT p.1 (domOf ds p.2)) 20000000 _ (fun p hp => (loT_bnd p.1 (domOf ds p.2) (hc p hp)).1)
  have h2 := sum_take_bnd (fun p => hiT p.1 (domOf ds p.2)) 20000000 _ (fun p hp => (loT_bnd p.1 (domOf ds p.2) (hc p hp)).2)
  unfold loS hiS
  constructor <;> constructor <;> omega
theorem sums_step {coef vars : List Int} {ds : Ds} (_ : GoodL coef vars ds) : ∀ k, (hk : k < (coef.zip vars).length) → ∀ cf n d, (coef.zip vars)[k] = (cf, n) → domOf ds n = d →
    loS ds ((coef.zip vars).take (k + 1)) = loS ds ((coef.zip vars).take k) + loT cf d ∧ hiS ds ((coef.zip vars).take (k + 1)) = hiS ds ((coef.zip vars).take k) + hiT cf d ∧
    spans ds ((coef.zip vars).take (k + 1)) = spans ds ((coef.zip vars).take k) ++ [(loT cf d, hiT cf d)] ∧
    (allOk ds ((coef.zip vars).take k) = true → okT d = true → allOk ds ((coef.zip vars).take (k + 1)) = true) ∧ (okT d = false → allOk ds (coef.zip vars) = false) := fun k hk cf n d e1 e2 => by
  subst e2
  rw [List.take_succ_eq_append_getElem hk, e1]
  refine ⟨by simp [loS], by simp [hiS], by simp [spans], fun h1 h2 => ?_, fun h => ?_⟩
  · unfold allOk at *
    rw [List.all_append, h1]; simpa using h2
  · unfold allOk
    rw [List.all_eq_false]
    exact ⟨(coef.zip vars)[k], List.getElem_mem _, by rw [e1]; simpa using h⟩
end Go.Proofs.Ytmmogifmogdegaa
