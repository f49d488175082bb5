/-
  PLAIN LAWS of the search for the least: what is found holds, and where nothing is found nothing holds; no program.
  label.Minimize: what its loop keeps.
  A statement that draws its order, in a round.
-/
import Derived.Test.YtaekdgikgbdnnaaGreatKsol8
import Derived.Test.YtaekdgikgbdnnaaGreatKsol6
import Derived.OrdersHeld
import Derived.OrdersIn
import Derived.RangeFuncCalls
import Derived.Deep.RegionHeld
namespace Go.Proofs.YtaekdgikgbdnnaaGreat

/-- what is found holds, however many nodes there are; and where they did not run out, all is found -/
theorem find_sound {ps : List PL} {n : Nat} {o : SOpt} (hg : ∀ p ∈ ps, p.Lin n) (ho : o.ord = 0 ∨ o.ord = 1) (hb : o.br = 0 ∨ o.br = 1) : ∀ (fuel : Nat) (st : List Ds), (∀ D ∈ st, D.length = n) →
    (∀ x ∈ (find ps (allV n) o fuel st).1, ∃ D ∈ st, Sol ps D x) ∧ ((find ps (allV n) o fuel st).2 = false → ∀ D ∈ st, ∀ x, Sol ps D x → x ∈ (find ps (allV n) o fuel st).1)
  | 0, [], _ => ⟨fun x hx => by simp [find] at hx, fun _ D hD => by cases hD⟩
  | fuel + 1, [], _ => ⟨fun x hx => by simp [find] at hx, fun _ D hD => by cases hD⟩
  | 0, D :: st, _ => ⟨fun x hx => by simp [find] at hx, fun h => by simp [find] at h⟩
  | fuel + 1, D :: st, hl => by
    have hD : D.length = n := hl D List.mem_cons_self
    have hgD : ∀ p ∈ ps, p.Lin D.length := by rw [hD]; exact hg
    obtain ⟨R, hR⟩ := fixOf_exists (ps := ps) (D := D) (fun p hp => (hgD p hp).good)
    have hsol := fun x => sol_iff hgD hR x
    have hl' : ∀ E ∈ st, E.length = n := fun E hE => hl E (List.mem_cons_of_mem _ hE)
    rw [find, theFix_eq hR]
    cases R with
    | none =>
      obtain ⟨i1, i2⟩ := find_sound hg ho hb fuel st hl'
      refine ⟨fun x hx => ?_, fun h E hE x hs => ?_⟩
      · obtain ⟨E, hE, h⟩ := i1 x hx
        exact ⟨E, List.mem_cons_of_mem _ hE, h⟩
      · rcases List.mem_cons.1 hE with rfl | hE
        · obtain ⟨r, e, _⟩ := (hsol x).1 hs; cases e
        · exact i2 h E hE x hs
    | some now =>
      have hnl : now.length = n := hR.1.len.trans hD
      have hs2 : ∀ x, Sol ps D x ↔ Sol ps now x := fun x => by
        rw [hsol x]
        exact ⟨fun ⟨r, e, h⟩ => by cases e; exact h, fun h => ⟨now, rfl, h⟩⟩
      dsimp only
      cases hc : chooseL now (allV n) o.sel o.ws (allV n).length with
      | none =>
        obtain ⟨i1, i2⟩ := find_sound hg ho hb fuel st hl'
        have hleaf := leaf_sol (o := o) hg hD hR hc
        dsimp only
        refine ⟨fun x hx => ?_, fun h E hE x hs => ?_⟩
        · rcases List.mem_cons.1 hx with h | h
          · exact ⟨D, List.mem_cons_self, (hs2 x).2 ((hleaf x).2 h)⟩
          · obtain ⟨E, hE, h⟩ := i1 x h
            exact ⟨E, List.mem_cons_of_mem _ hE, h⟩
        · rcases List.mem_cons.1 hE with rfl | hE
          · rw [(hleaf x).1 ((hs2 x).1 hs)]; exact List.mem_cons_self
          · exact List.mem_cons_of_mem _ (i2 h E hE x hs)
      | some k =>
        have hk : k < n := by have := chooseL_lt _ _ _ _ _ _ hc; rwa [allV_len] at this
        have hsz := choose_some hc
        rw [allV_at hk, domAt_nat] at hsz
        have hkv : ((allV n).getD k 0).toNat = k := by rw [allV_at hk, Int.toNat_natCast]
        dsimp only
        rw [hkv]
        have hparts := fun x => part_sol (ps := ps) (o := o) (by omega : k < now.length) hsz ho hb x
        obtain ⟨i1, i2⟩ := find_sound hg ho hb fuel ((partAt now k o).1 :: (partAt now k o).2 :: st) (fun E hE => by
          rcases List.mem_cons.1 hE with rfl | hE
          · show (now.set _ _).length = n; rw [List.length_set]; exact hnl
          · rcases List.mem_cons.1 hE with rfl | hE
            · show (now.set _ _).length = n; rw [List.length_set]; exact hnl
            · exact hl' E hE)
        refine ⟨fun x hx => ?_, fun h E hE x hs => ?_⟩
        · obtain ⟨E, hE, h⟩ := i1 x hx
          rcases List.mem_cons.1 hE with rfl | hE
          · exact ⟨D, List.mem_cons_self, (hs2 x).2 ((hparts x).1.2 (.inl h))⟩
          · rcases List.mem_cons.1 hE with rfl | hE
            · exact ⟨D, List.mem_cons_self, (hs2 x).2 ((hparts x).1.2 (.inr h))⟩
            · exact ⟨E, List.mem_cons_of_mem _ hE, h⟩
        · rcases List.mem_cons.1 hE with rfl | hE
          · rcases (hparts x).1.1 ((hs2 x).1 hs) with h' | h'
            · exact i2 h _ List.mem_cons_self x h'
            · exact i2 h _ (List.mem_cons_of_mem _ List.mem_cons_self) x h'
          · exact i2 h E (List.mem_cons_of_mem _ (List.mem_cons_of_mem _ hE)) x hs
section
variable {ps : List PL} {D : Ds} {o : SOpt} {k n : Nat} {x : List Int}
/-- one that is found holds -/
theorem findR_one (hg : ∀ p ∈ ps, p.Lin D.length) (ho : o.ord = 0 ∨ o.ord = 1) (hb : o.br = 0 ∨ o.br = 1) {ov : Bool} (h : findR ps (allV D.length) o 1 k [D] = ([x], n, ov)) : Sol ps D x := by
  obtain ⟨b1, _⟩ := findR_M ps (allV D.length) o k 1 [D]
  obtain ⟨c1, _⟩ := findM_eq ps (allV D.length) o k 1 [D]
  rw [h] at b1
  have hx : x ∈ (find ps (allV D.length) o k [D]).1 := List.mem_of_mem_take (i := 1) (by rw [← c1, ← b1]; exact List.mem_singleton.2 rfl)
  obtain ⟨E, hE, hs⟩ := (find_sound hg ho hb k [D] (fun E hE => by rw [List.mem_singleton.1 hE])).1 x hx
  rw [List.mem_singleton.1 hE] at hs
  exact hs
/-- where none is found, and the nodes did not run out, none holds -/
theorem findR_none (hg : ∀ p ∈ ps, p.Lin D.length) (ho : o.ord = 0 ∨ o.ord = 1) (hb : o.br = 0 ∨ o.br = 1) (h : findR ps (allV D.length) o 1 k [D] = ([], n, false)) (x : List Int) : ¬ Sol ps D x := fun hs => by
  obtain ⟨b1, b2⟩ := findR_M ps (allV D.length) o k 1 [D]
  obtain ⟨c1, _, c3⟩ := findM_eq ps (allV D.length) o k 1 [D]
  rw [h] at b1 b2
  have h0 : (find ps (allV D.length) o k [D]).1 = [] := by
    have e : (find ps (allV D.length) o k [D]).1.take 1 = [] := c1.symm.trans b1.symm
    cases hf : (find ps (allV D.length) o k [D]).1 with
    | nil => rfl
    | cons a l => rw [hf] at e; simp at e
  have h1 : (find ps (allV D.length) o k [D]).2 = false := (c3 (by rw [h0]; decide)).symm.trans b2.symm
  have := (find_sound hg ho hb k [D] (fun E hE => by rw [List.mem_singleton.1 hE])).2 h1 D (List.mem_singleton.2 rfl) x hs
  rw [h0] at this
  cases this
end
/-- the domains where the cost is below that of x -/
def lessD (D : Ds) (c : Nat) (z : Int) : Ds := D.set c (meetL (D.getD c []) [(-200, z - 1)])
theorem lessD_sol {ps : List PL} {D : Ds} {k : Nat} {z : Int} (hc : k < D.length) (x : List Int) : Sol ps (lessD D k z) x ↔ Sol ps D x ∧ x.getD k 0 < z := by
  unfold Sol lessD
  rw [has_set hc, has_self hc]
  have hn : norm (meetL (D.getD k []) [(-200, z - 1)]) = meetL (D.getD k []) [(-200, z - 1)] := norm_of_normal (canon_normal _)
  have hm : memL (meetL (D.getD k []) [(-200, z - 1)]) (x.getD k 0) = (inD (x.getD k 0) && (memL (D.getD k []) (x.getD k 0) && memL [(-200, z - 1)] (x.getD k 0))) := canon_mem _ _
  rw [hn, hm, memL_norm, mem1]
  constructor
  · rintro ⟨⟨a, b, c⟩, d⟩
    rw [Bool.and_eq_true, Bool.and_eq_true, Bool.and_eq_true, decide_eq_true_eq, decide_eq_true_eq] at c
    exact ⟨⟨⟨a, b, by rw [c.1, c.2.1]; rfl⟩, d⟩, by have := c.2.2.2; omega⟩
  · rintro ⟨⟨⟨a, b, c⟩, d⟩, e⟩
    rw [Bool.and_eq_true] at c
    refine ⟨⟨a, b, ?_⟩, d⟩
    have h1 := c.1
    unfold inD at h1
    rw [Bool.and_eq_true, Bool.and_eq_true, Bool.and_eq_true, decide_eq_true_eq, decide_eq_true_eq]
    refine ⟨c.1, c.2, ?_⟩
    have h2 : -200 ≤ x.getD k 0 := by simp only [Bool.and_eq_true, decide_eq_true_eq] at h1; omega
    exact ⟨h2, by omega⟩
theorem sol_bnd {ps : List PL} {D : Ds} {x : List Int} (h : Sol ps D x) {c : Nat} (hc : c < D.length) : -200 ≤ x.getD c 0 ∧ x.getD c 0 ≤ 200 := by
  have hl := h.1.1
  rw [List.length_map] at hl
  have : x.getD c 0 ∈ x := by
    rw [List.getD_eq_getElem?_getD, List.getElem?_eq_getElem (by omega)]
    exact List.getElem_mem _
  exact has_bnd h.1 _ this
/-- the search for the least: what has been found last, and whether the nodes ran out -/
noncomputable def minP (ps : List PL) (vars : List Int) (o : SOpt) (i c : Nat) (D0 : Ds) : Nat → Nat → Ds → Option (List Int) → Option (List Int) × Bool
  | 0, _, _, best => (best, false)
  | m + 1, k, now, best => match findR ps vars o 1 k [now] with
    | ([], _, ov) => (best, ov)
    | (x :: _, n, _) => minP ps vars o i c D0 m n (lessD D0 c (x.getD i 0)) (some x)
theorem minP_stop {ps : List PL} {vars : List Int} {o : SOpt} {i c : Nat} {D0 : Ds} {m k n : Nat} {now : Ds} {best : Option (List Int)} {ov : Bool} (h : findR ps vars o 1 k [now] = ([], n, ov)) : minP ps vars o i c D0 (m + 1) k now best = (best, ov) := by
  rw [minP, h]
theorem minP_more {ps : List PL} {vars : List Int} {o : SOpt} {i c : Nat} {D0 : Ds} {m k n : Nat} {now : Ds} {best : Option (List Int)} {ov : Bool} {x : List Int} (h : findR ps vars o 1 k [now] = ([x], n, ov)) : minP ps vars o i c D0 (m + 1) k now best = minP ps vars o i c D0 m n (lessD D0 c (x.getD i 0)) (some x) := by
  rw [minP, h]
/-- an answer takes a node -/
theorem findR_less (ps : List PL) (vars : List Int) (o : SOpt) : ∀ (k m : Nat) (st : List Ds), (findR ps vars o m k st).2.1 ≤ k ∧ ((findR ps vars o m k st).1 ≠ [] → (findR ps vars o m k st).2.1 < k)
  | k, 0, st => by cases k <;> cases st <;> simp [findR]
  | k, m + 1, [] => by cases k <;> simp [findR]
  | 0, m + 1, D :: st => by simp [findR]
  | k + 1, m + 1, D :: st => by
    rw [findR]
    cases theFix ps D with
    | none => have := findR_less ps vars o k (m + 1) st; dsimp only; exact ⟨by omega, fun _ => by omega⟩
    | some now =>
      dsimp only
      cases chooseL now vars o.sel o.ws vars.length with
      | none => have := findR_less ps vars o k m st; dsimp only; exact ⟨by omega, fun _ => by omega⟩
      | some i => have := findR_less ps vars o k (m + 1) ((partAt now (vars.getD i 0).toNat o).1 :: (partAt now (vars.getD i 0).toNat o).2 :: st); dsimp only; exact ⟨by omega, fun _ => by omega⟩
theorem findR_list {ps : List PL} {vars : List Int} {o : SOpt} : ∀ (k : Nat) (st : List Ds), (findR ps vars o 1 k st).1.length ≤ 1
  | k, [] => by cases k <;> simp [findR]
  | 0, D :: st => by simp [findR]
  | k + 1, D :: st => by
    rw [findR]
    cases theFix ps D with
    | none => exact findR_list k st
    | some now =>
      dsimp only
      cases chooseL now vars o.sel o.ws vars.length with
      | none => dsimp only; cases k <;> cases st <;> simp [findR]
      | some i => exact findR_list k _
/-- with all variables labeled: the least, and none just if there is none -/
theorem minP_least {ps : List PL} {o : SOpt} {c : Nat} {D0 : Ds} (hg : ∀ p ∈ ps, p.Lin D0.length) (ho : o.ord = 0 ∨ o.ord = 1) (hb : o.br = 0 ∨ o.br = 1) (hc : c < D0.length) : ∀ (m k : Nat) (now : Ds) (best : Option (List Int)), k < m →
    ((best = none ∧ now = D0) ∨ ∃ x, best = some x ∧ Sol ps D0 x ∧ now = lessD D0 c (x.getD c 0)) → ∀ R, minP ps (allV D0.length) o c c D0 m k now best = (R, false) →
    (R = none ∧ ∀ x, ¬ Sol ps D0 x) ∨ ∃ x, R = some x ∧ Sol ps D0 x ∧ ∀ y, Sol ps D0 y → x.getD c 0 ≤ y.getD c 0
  | 0, _, _, _, h, _, _, _ => by omega
  | m + 1, k, now, best, hk, hin, R, hR => by
    have hl : now.length = D0.length := by
      rcases hin with ⟨_, rfl⟩ | ⟨x, _, _, rfl⟩
      · rfl
      · unfold lessD; rw [List.length_set]
    have hf : ∃ L n ov, findR ps (allV now.length) o 1 k [now] = (L, n, ov) := ⟨_, _, _, rfl⟩
    obtain ⟨L, n, ov, hf⟩ := hf
    have hg' : ∀ p ∈ ps, p.Lin now.length := by rw [hl]; exact hg
    have h1 := findR_list (ps := ps) (vars := allV now.length) (o := o) k [now]
    have h2 := (findR_less ps (allV now.length) o k 1 [now]).2
    rw [hf] at h1 h2
    rcases L with _ | ⟨x, L⟩
    · have hf2 := hf
      rw [hl] at hf2
      rw [minP_stop hf2] at hR
      cases hR
      have hno := findR_none hg' ho hb hf
      rcases hin with ⟨rfl, rfl⟩ | ⟨x, rfl, hx, rfl⟩
      · exact .inl ⟨rfl, hno⟩
      · refine .inr ⟨x, rfl, hx, fun y hy => ?_⟩
        rcases Int.lt_or_le (y.getD c 0) (x.getD c 0) with h | h
        · exact absurd ((lessD_sol hc y).2 ⟨hy, h⟩) (hno y)
        · exact h
    · have hL : L = [] := by
        cases L with
        | nil => rfl
        | cons _ _ => simp at h1
      subst hL
      have hx := findR_one hg' ho hb hf
      have hn : n < k := h2 (by simp)
      rw [hl] at hf
      rw [minP_more hf] at hR
      have hx0 : Sol ps D0 x := by
        rcases hin with ⟨_, rfl⟩ | ⟨x', _, _, rfl⟩
        · exact hx
        · exact ((lessD_sol hc x).1 hx).1
      exact minP_least hg ho hb hc m n _ _ (by omega) (.inr ⟨x, rfl, hx0, rfl⟩) R hR
end Go.Proofs.YtaekdgikgbdnnaaGreat
namespace Go.Proofs.YtaekdgikgbdnnaaGreat
open Go.RowKit

/-- what the value of the least found lies at -/
def BestV (W : World) (M : Nat → Prop) (bb bn bt : Nat) (L : List Nat) (vb : Value) : Option (List Int) → Prop
  | none => vb = .slice none 0 0
  | some x => IsAt W vb x ∧ ∀ b, vb.ownBlock = some b → M b ∧ b ≠ bb ∧ b ≠ bn ∧ b ≠ bt ∧ b ∉ L
/-- the state at the loop's head -/
structure MinW (w : World) (n0 bd bc ba bb bn sb : Nat) (vds vps vv vw : Value) (o : SOpt) (cost at_ : Int) (Wr : World) (M : Nat → Prop) (L : List Nat) (bt : Nat) (better : Bool) (best : Option (List Int)) (now : Ds) (k : Int) (ov : Bool) : Prop where
  b : Below n0 w Wr
  s : Srch Wr sb vps vv o.sel o.ord o.br vw k ov
  xd : Wr.cell? ⟨bd, 0, none⟩ = some vds
  xc : Wr.cell? ⟨bc, 0, none⟩ = some (.int .i64 cost)
  xa : Wr.cell? ⟨ba, 0, none⟩ = some (.int .i64 at_)
  xb : ∃ vb, Wr.cell? ⟨bb, 0, none⟩ = some vb ∧ Wr.frozen? ⟨bb, 0, none⟩ = false ∧ BestV Wr M bb bn bt L vb best
  xn : ∃ vn, Wr.cell? ⟨bn, 0, none⟩ = some vn ∧ Wr.frozen? ⟨bn, 0, none⟩ = false ∧ (better = true → DsQ (fun b => ¬ M b ∧ b ≠ sb) Wr vn now)
  xt : Wr.cell? ⟨bt, 0, none⟩ = some (.bool better) ∧ Wr.frozen? ⟨bt, 0, none⟩ = false
  md : M bd
  mc : M bc
  ma : M ba
  mb : M bb
  mn : M bn
  mt : M bt
  ml : ∀ b, M b → n0 ≤ b
  lt : ∀ b, M b → b < Wr.heap.size
  ms : ¬ M sb
  sl : n0 ≤ sb
  o1 : bd < bc
  o2 : bc < ba
  o3 : ba < bb
  o4 : bb < bn
  o5 : bn < bt
  dl : ∀ D ∈ L, Wr.heap[D]? = some (.deferred (some [])) ∧ M D ∧ D ≠ bb ∧ D ≠ bn ∧ D ≠ bt
  nd : L.Nodup
theorem FixIn.setN {D : Ds} {ps : List PL} (h : FixIn D ps) {d : List Rg} (hd : d.length ≤ 4096) (v : Nat) : FixIn (D.set v d) ps := by
  have hm : ∀ e ∈ D.set v d, e.length ≤ 4096 := fun e he => by
    rcases List.mem_or_eq_of_mem_set he with h1 | rfl
    · exact h.dm e h1
    · exact hd
  refine ⟨fun p hp => ?_, h.ok, by rw [List.length_set]; exact h.n, hm, h.P⟩
  have hp' := h.fine p hp
  exact ⟨hp'.kind, fun hk => by
    obtain ⟨g, a, b, c, e⟩ := hp'.lin hk
    exact ⟨⟨g.len, g.le16, g.coefs, fun v hv => by rw [List.length_set]; exact g.vars v hv, hm⟩, a, b, c, e⟩, hp'.vsl, fun v hv => by rw [List.length_set]; exact hp'.vars v hv⟩
theorem FixIn.less {D : Ds} {ps : List PL} (h : FixIn D ps) (c : Nat) (z : Int) : FixIn (lessD D c z) ps := h.setN (Nat.le_trans (normal_len (canon_normal _)) (by decide)) c
theorem lessD_len (D : Ds) (c : Nat) (z : Int) : (lessD D c z).length = D.length := by unfold lessD; rw [List.length_set]
/-- a frame on its way out with marks alone -/
theorem leaves_marks {F : Fence} {n : Nat} {P : Program} {fn : Func} {tmps : Array Value} {R : Ending → World → Prop} {c : Nat} : ∀ (L : List Nat) (W : World), (∀ D ∈ L, W.heap[D]? = some (.deferred (some [])) ∧ c ≤ D) → L.Nodup → c ≤ W.heap.size →
    (∀ W', W'.heap.size = W.heap.size → Below c W W' → (∀ b, b ∉ L → W'.heap[b]? = W.heap[b]?) → LeavesIn F n P fn tmps R [] .returning W') → LeavesInM F n P fn tmps R (L.map fun D => { target := .collected D, args := #[] }) .returning W
  | [], W, _, _, _, h => h W rfl (Below.refl _ _) (fun _ _ => rfl)
  | D :: L, W, hL, hn, hc, h => by
    obtain ⟨n1, n2⟩ := List.nodup_cons.1 hn
    have hD := hL D List.mem_cons_self
    refine ⟨by simp, .inl ⟨D, _, rfl, run_takeDeferred hD.1, leaves_marks L (W.putObj D (.deferred none)) (fun E hE => ?_) n2 (by simpa using hc) (fun W' hs hb hk => ?_)⟩⟩
    · have hE' := hL E (List.mem_cons_of_mem _ hE)
      exact ⟨(World.putObj_heap_other (fun (e : E = D) => n1 (by rw [← e]; exact hE))).trans hE'.1, hE'.2⟩
    · have hb1 : Below c W (W.putObj D (.deferred none)) := (Below.refl c W).grown (grownBy_putObj' W D _) hc (fun k e => by cases e; exact hD.2)
      exact h W' (hs.trans (by simp)) (hb1.trans hb) (fun b hb' => (hk b (fun e => hb' (List.mem_cons_of_mem _ e))).trans (World.putObj_heap_other (fun e => hb' (by rw [e]; exact List.mem_cons_self))))
theorem box_in {W1 Wn : World} {X : Value} {T : TypeId} (hb : Below (W1.heap.size + 1) (W1.alloc (.cells #[X] T)) Wn) : Wn.cell? ⟨W1.heap.size, 0, none⟩ = some X ∧ Wn.frozen? ⟨W1.heap.size, 0, none⟩ = false :=
  ((BoxL.mk' W1 #[X] T).below hb (by omega)).get 0 rfl
/-- at the next head -/
theorem MinW.next {w : World} {n0 bd bc ba bb bn sb : Nat} {vds vps vv vw : Value} {o : SOpt} {cost at_ : Int} {W W5 : World} {M M1 : Nat → Prop} {L : List Nat} {bt D : Nat} {bet bet' : Bool} {best best' : Option (List Int)} {now now' : Ds} {k k' : Int} {ov ov' : Bool}
    (h : MinW w n0 bd bc ba bb bn sb vds vps vv vw o cost at_ W M L bt bet best now k ov) (hb : Below n0 w W5) (hs : Srch W5 sb vps vv o.sel o.ord o.br vw k' ov') (hM : ∀ b, M b → M1 b) (hsame : ∀ b, M b → b ≠ bb → b ≠ bn → b ≠ bt → W5.heap[b]? = W.heap[b]?)
    (hD : W5.heap[D]? = some (.deferred (some []))) (hDM : ¬ M1 D) (hDn : n0 ≤ D) (hm1 : ∀ b, M1 b → n0 ≤ b ∧ b < W5.heap.size) (hms : ¬ M1 sb)
    (xb : ∃ vb, W5.cell? ⟨bb, 0, none⟩ = some vb ∧ W5.frozen? ⟨bb, 0, none⟩ = false ∧ BestV W5 M1 bb bn bt L vb best') (xn : ∃ vn, W5.cell? ⟨bn, 0, none⟩ = some vn ∧ W5.frozen? ⟨bn, 0, none⟩ = false ∧ (bet' = true → DsQ (fun b => ¬ M1 b ∧ b ≠ sb ∧ b ≠ D) W5 vn now')) (T : TypeId) :
    MinW w n0 bd bc ba bb bn sb vds vps vv vw o cost at_ (W5.alloc (.cells #[.bool bet'] T)) (fun b => (M1 b ∨ b = D) ∨ b = W5.heap.size) (D :: L) W5.heap.size bet' best' now' k' ov' := by
  have hDl : D < W5.heap.size := (Array.getElem?_eq_some_iff.1 hD).1
  have hal : ∀ b, b < W5.heap.size → (W5.alloc (.cells #[.bool bet'] T)).heap[b]? = W5.heap[b]? := fun b hb => Below.heap_alloc W5 _ b hb
  have q1 := h.o1
  have q2 := h.o2
  have q3 := h.o3
  have q4 := h.o4
  have q5 := h.o5
  have hsz : (W5.alloc (.cells #[.bool bet'] T)).heap.size = W5.heap.size + 1 := by simp
  have hsl := hs.lt
  have hDs : D ≠ sb := fun e => by
    have h1 := hs.c0
    subst e
    simp [World.cell?, hD] at h1
  have cel : ∀ b v, M b → b ≠ bb → b ≠ bn → b ≠ bt → W.cell? ⟨b, 0, none⟩ = some v → (W5.alloc (.cells #[.bool bet'] T)).cell? ⟨b, 0, none⟩ = some v := fun b v hm n1 n2 n3 hc =>
    (World.cell?_of_block (a := ⟨b, 0, none⟩) ((hal b (hm1 b (hM b hm)).2).trans (hsame b hm n1 n2 n3))).trans hc
  obtain ⟨vb, e1, e2, e3⟩ := xb
  obtain ⟨vn, f1, f2, f3⟩ := xn
  have lb := (hm1 bb (hM bb h.mb)).2
  have ln := (hm1 bn (hM bn h.mn)).2
  have hbox := box_in (W1 := W5) (X := .bool bet') (T := T) (Below.refl _ _)
  exact {
    b := hb.alloc (by have g1 := hm1 _ (hM _ h.md); omega) _
    s := hs.on (hal sb hsl)
    xd := cel bd _ h.md (by omega) (by omega) (by omega) h.xd
    xc := cel bc _ h.mc (by omega) (by omega) (by omega) h.xc
    xa := cel ba _ h.ma (by omega) (by omega) (by omega) h.xa
    xb := ⟨vb, (World.cell?_of_block (a := ⟨bb, 0, none⟩) (hal bb lb)).trans e1, (World.frozen?_of_block (a := ⟨bb, 0, none⟩) (hal bb lb)).trans e2, by
      cases best' with
      | none => exact e3
      | some x =>
        refine ⟨SlAt.ownB e3.1 (by omega) (fun b hb _ => hal b hb), fun b e => ?_⟩
        obtain ⟨g1, g2, g3, g4, g5⟩ := e3.2 b e
        have g6 := (hm1 b g1).2
        exact ⟨.inl (.inl g1), g2, g3, by omega, fun hm => by
          rcases List.mem_cons.1 hm with rfl | hm
          · exact hDM g1
          · exact g5 hm⟩⟩
    xn := ⟨vn, (World.cell?_of_block (a := ⟨bn, 0, none⟩) (hal bn ln)).trans f1, (World.frozen?_of_block (a := ⟨bn, 0, none⟩) (hal bn ln)).trans f2,
      fun hbt => ((f3 hbt).weaken (fun b hb hq => ⟨by rintro ((g | g) | g); exact hq.1 g; exact hq.2.2 g; omega, hq.2.1⟩)).on (by omega) (fun b hb _ => hal b hb)⟩
    xt := hbox
    md := .inl (.inl (hM _ h.md))
    mc := .inl (.inl (hM _ h.mc))
    ma := .inl (.inl (hM _ h.ma))
    mb := .inl (.inl (hM _ h.mb))
    mn := .inl (.inl (hM _ h.mn))
    mt := .inr rfl
    ml := fun b hb' => by
      rcases hb' with (g | rfl) | rfl
      · exact (hm1 b g).1
      · exact hDn
      · have g1 := hm1 _ (hM _ h.md); omega
    lt := fun b hb' => by
      rcases hb' with (g | rfl) | rfl
      · have := (hm1 b g).2; omega
      · omega
      · omega
    ms := by
      rintro ((g | g) | g)
      · exact hms g
      · exact hDs g.symm
      · omega
    sl := h.sl
    o1 := q1
    o2 := q2
    o3 := q3
    o4 := q4
    o5 := ln
    dl := fun E hE => by
      rcases List.mem_cons.1 hE with rfl | hE
      · exact ⟨(hal E hDl).trans hD, .inl (.inr rfl), fun e => hDM (e ▸ hM _ h.mb), fun e => hDM (e ▸ hM _ h.mn), by omega⟩
      · obtain ⟨g1, g2, g3, g4, g5⟩ := h.dl E hE
        have g6 := (hm1 E (hM E g2)).2
        exact ⟨(hal E g6).trans ((hsame E g2 g3 g4 g5).trans g1), .inl (.inl (hM E g2)), g3, g4, by omega⟩
    nd := List.nodup_cons.2 ⟨fun hm => hDM (hM D (h.dl D hm).2.1), h.nd⟩ }
/-- behind a round of the inner loop -/
structure MinE (w W4 : World) (n0 bb bn bt sb : Nat) (M : Nat → Prop) (x : List Int) (X : Nat → Prop) (now' : Ds) (M1 : Nat → Prop) (Wb : World) : Prop where
  b : Below n0 w Wb
  up : ∀ b, M b → M1 b
  same : ∀ b, M b → b ≠ bb → b ≠ bn → b ≠ bt → Wb.heap[b]? = W4.heap[b]?
  xx : ∀ b, X b → M1 b ∧ ¬ M b ∧ b ≠ sb
  xb : ∃ vx, Wb.cell? ⟨bb, 0, none⟩ = some vx ∧ Wb.frozen? ⟨bb, 0, none⟩ = false ∧ IsAt Wb vx x ∧ ∀ b, vx.ownBlock = some b → X b
  xn : ∃ vn, Wb.cell? ⟨bn, 0, none⟩ = some vn ∧ Wb.frozen? ⟨bn, 0, none⟩ = false ∧ DsQ (fun b => (b < n0 ∨ M1 b) ∧ ¬ M b ∧ ¬ X b ∧ b ≠ sb) Wb vn now'
  xt : Wb.cell? ⟨bt, 0, none⟩ = some (.bool true) ∧ Wb.frozen? ⟨bt, 0, none⟩ = false
  ml : ∀ b, M1 b → n0 ≤ b
  lt : ∀ b, M1 b → b < Wb.heap.size
/-- what has been seen of a world, in blocks that have stayed since -/
def MinX (w W4 : World) (n0 bb bn bt sb : Nat) (M : Nat → Prop) (x : List Int) (now' : Ds) (M1 : Nat → Prop) (W : World) : Prop :=
  ∃ (X : Nat → Prop) (Wb : World), MinE w W4 n0 bb bn bt sb M x X now' M1 Wb ∧ Wb.heap.size ≤ W.heap.size ∧ ∀ b, M1 b → W.heap[b]? = Wb.heap[b]?
/-- what Minimize hands back -/
def MinR (R : Option (List Int) × Bool) (w : World) (e : Ending) (w' : World) : Prop :=
  Below w.heap.size w w' ∧ ((R.2 = true ∧ e = .returned (.tuple #[.slice none 0 0, .int .i64 34])) ∨ (R.2 = false ∧ ∃ vb, e = .returned (.tuple #[vb, .int .i64 0]) ∧ ((R.1 = none ∧ vb = .slice none 0 0) ∨ ∃ x, R.1 = some x ∧ IsAt w' vb x)))
end Go.Proofs.YtaekdgikgbdnnaaGreat
namespace Go.Proofs.YtaekdgikgbdnnaaGreat
open Go.RowKit

theorem wpIn_round_op {l n i : Nat} {P : Program} {ops : Array Oper} {Q : Exit → Act → World → Prop} {K : Act → World → Prop} {a : Act} {w : World} (hd : ∀ (j : Nat) (o : Oper) c, ops[j]? = some o → o.op ≠ .defer c) (hQ : ¬ LetsOut Q)
    (h : wpOp P ops Q i K a w) : wpOpIn (Fence.wide.inRound l) n P ops Q i K a w := by
  unfold wpOp at h
  unfold wpOpIn
  split
  · rename_i h0
    simp only [h0] at h
    exact h
  · rename_i o ho
    simp only [ho] at h
    split
    · rename_i hw
      simp only [hw, if_true] at h
      rcases h with h | h
      · refine ⟨fun f _ => trivial, ?_⟩
        rw [Oper.semAt_eq _ _ _ (fun c => hd i o c ho)]
        unfold Oper.wp at h
        generalize (execOp a.eval o).run P w = r at *
        cases r with
        | ok x w' =>
          cases x <;> simp only [Oper.upon, Oper.uponIn] at h ⊢
          case value => exact h
          case skip => exact h
          case defer => exact h
          case enter f args => exact ⟨fun h => by simp [Fence.wide] at h, CallsIn.inRound l (callsIn_wide.2 h)⟩
          case row row args => exact ⟨fun h => by simp [Fence.wide] at h, fun c cs _ => let ⟨v, w', r, s⟩ := h c cs; ⟨v, w', r, stepsIn_wide.2 s⟩⟩
        | halt x w' =>
          cases x <;> simp only [Oper.upon, Oper.uponIn] at h ⊢
          case panic => exact h
      · exact absurd h.2 hQ
    · rename_i hw
      simp only [hw] at h
      exact ⟨fun f _ => trivial, h⟩
theorem wpAnyIn_round {l n : Nat} {P : Program} {ops : Array Oper} {Q : Exit → Act → World → Prop} {md : Region.Mode} (hd : ∀ (j : Nat) (o : Oper) c, ops[j]? = some o → o.op ≠ .defer c) (hQ : ¬ LetsOut Q) :
    ∀ (fuel : Nat) (listed : Array Bool) (a : Act) (w : World), wpAny P md ops Q fuel listed a w → wpAnyIn (Fence.wide.inRound l) n P md ops Q fuel listed a w
  | 0, _, _, _, h => h
  | fuel + 1, _, _, _, h => ⟨h.1, fun i hi => wpOpIn_mono (fun a w => wpAnyIn_round hd hQ fuel _ a w) (wpIn_round_op hd hQ (h.2 i hi))⟩
/-- **a statement that draws its order, in a round: by the same moves as in an activation** -/
theorem wpIn_region_round {l n id : Nat} {P : Program} {ops : Array Oper} {Q : Exit → Act → World → Prop} {S : World → Prop} {a : Act} {w : World} (hm : P.follows .mixedOrders = true) (hd : ∀ (j : Nat) (o : Oper) c, ops[j]? = some o → o.op ≠ .defer c) (hQ : ¬ LetsOut Q)
    (hS : S w.drew) (h : S w.drew → wpAnyH P .any ops Q S ops.size (Array.replicate ops.size false) a w.drew) : (Code.region id ops true).wpIn (Fence.wide.inRound l) n P Q a w :=
  wpIn_region_any hm (wpAnyIn_round hd hQ _ _ _ _ (wpAny_of_held _ _ _ _ (h hS)))
/-- the same, where it does not panic -/
theorem wpIn_region_roundK {l n id : Nat} {P : Program} {ops : Array Oper} {K : Act → World → Prop} {Q' : Exit → Act → World → Prop} {S : World → Prop} {a : Act} {w : World} (hm : P.follows .mixedOrders = true) (hd : ∀ (j : Nat) (o : Oper) c, ops[j]? = some o → o.op ≠ .defer c)
    (hS : S w.drew) (h : S w.drew → wpAnyH P .any ops (Exit.then K (fun _ _ _ => False)) S ops.size (Array.replicate ops.size false) a w.drew) : (Code.region id ops true).wpIn (Fence.wide.inRound l) n P (Exit.then K Q') a w :=
  wpIn_mono (wpIn_region_round hm hd (by rintro ⟨a, w, h⟩; exact h) hS h) (by
    intro e a w h
    cases e <;> first | exact h | exact h.elim)
/-- an operation taken first, its place told -/
theorem wpAnyH_takeD {P : Program} {ops : Array Oper} {Q : Exit → Act → World → Prop} {md : Region.Mode} {S : World → Prop} {i : Nat} {oi : Oper} {d : Option Tmp} {v : Value} {fuel : Nat} {listed : Array Bool} {a : Act} {w : World} (hi : ops[i]? = some oi) (hd : oi.dst = d)
    (hs : Region.noSelect ops = true) (hf : Region.free md ops listed i = true) (hr : (Region.ready md ops listed).contains i = true) (hQ : ∀ c a w, Q (.panic c) (a.put oi.dst v) w → Q (.panic c) a w)
    (hy : YieldsIf P ops S oi v a) (hS : S w) (h : wpAnyH P md ops Q S fuel (listed.setIfInBounds i true) (a.put d v) w) : wpAnyH P md ops Q S (fuel + 1) listed a w := by
  subst hd
  exact wpAnyH_take hi hs hf hr hQ hy hS h
/-- no operation of a list is one that defers -/
theorem noDefer_of {ops : Array Oper} (h : ops.all (fun o => match o.op with | .defer _ => false | _ => true) = true) : ∀ (j : Nat) (o : Oper) c, ops[j]? = some o → o.op ≠ .defer c := fun j o c ho e => by
  have hm : o ∈ ops := Array.mem_of_getElem? ho
  have := (Array.all_eq_true' ..).1 h o hm
  rw [e] at this
  simp at this
end Go.Proofs.YtaekdgikgbdnnaaGreat
