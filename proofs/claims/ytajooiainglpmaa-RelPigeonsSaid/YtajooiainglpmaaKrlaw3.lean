/-
  What RelPigeons' tail calls: rel.Once of variables all unlike; appends of many, and under a guard.
  LISTS OF uint8 THAT COME IN.
  RelPigeons, walked.
-/
import Derived.Test.YtajooiainglpmaaKrlaw2
import Derived.Test.YtajooiainglpmaaKonce7
import Derived.Test.YtajooiainglpmaaKlin6
namespace Go.Proofs.Ytajooiainglpmaa
open Go.RowKit

theorem pig_pre {wr w4 w5 : World} {B g6 g7 c6 c7 : Nat} {o6 o7 o8 : Value} {vs : List Int} {us : List Value} {m : Int} {T : TypeId} (h : ThreeL wr B o6 o7 o8 vs us)
    (own6 : w4.ownsRow B 25 1 (.slice (some ⟨g6, 0, none⟩) (vs.length + 1) c6) (vs.length + 1) (us ++ [.slice (some ⟨wr.heap.size, 0, none⟩) 1 1])) (k6 : KeepsBut (wr.alloc (.cells #[.int .i64 0, .int .i64 m] T)) w4 o6) (h6 : o6.ownBlock = some g6 ∨ (wr.alloc (.cells #[.int .i64 0, .int .i64 m] T)).heap.size ≤ g6)
    (own7 : w5.ownsRow B 3 1 (.slice (some ⟨g7, 0, none⟩) (vs.length + 1) c7) (vs.length + 1) ((pigV vs.length).map (Value.int .i64) ++ [.int .i64 vs.length])) (k7 : KeepsBut w4 w5 o7) (h7 : o7.ownBlock = some g7 ∨ w4.heap.size ≤ g7) :
    TwoL w5 B (.slice (some ⟨g6, 0, none⟩) (vs.length + 1) c6) (.slice (some ⟨g7, 0, none⟩) (vs.length + 1) c7) (single vs ++ [[(0, m)]]) (pigV vs.length ++ [(vs.length : Int)]) (us ++ [.slice (some ⟨wr.heap.size, 0, none⟩) 1 1]) ∧
      RgAt w5 o8 (takenL vs) ∧ RgAt w5 (.slice (some ⟨wr.heap.size, 0, none⟩) 1 1) [(0, m)] := by
  have hs : (single vs).length = vs.length := single_len vs
  have hb := (Below.refl wr.heap.size wr).alloc (Nat.le_refl _) (.cells #[.int .i64 0, .int .i64 m] T)
  have hdv : ∀ b, (Value.slice (some ⟨wr.heap.size, 0, none⟩) 1 1).ownBlock = some b → wr.heap.size ≤ b := fun b hb => by simp [Value.ownBlock] at hb; omega
  have r0 := rgAt_lit2 wr (0, m) T
  have d6 := apart_made h.two.app.2.1 hdv
  have d7 := apart_made h.two.own hdv
  have t1 := h.two.below hb
  have t2 := t1.sets (g := g6) (cap := c6) (d := [(0, m)]) r0 (fun _ => d6) (fun _ => d7) (by rw [hs]; exact own6) k6 h6
  rw [hs] at t2
  have hpl : (pigV vs.length).length = vs.length := pigV_len _
  have t3 := t2.ints (g := g7) (cap := c7) (vs.length : Int) (by rw [hpl]; exact own7) k7 h7
  rw [hpl] at t3
  refine ⟨t3, ?_, (r0.keptBut k6 (fun _ => d6)).keptBut k7 (fun _ => d7)⟩
  have := SlAt.of_own (own_kept (own_kept (own_below h.tak hb) k6 h.a6.symm) k7 h.a7.symm)
  rw [show vs.length = (takenL vs).length by simp [takenL]] at this
  exact this

theorem pig_fine (vs : List Int) (d : List Rg) (h : vs.length ≤ 8) : (pigP vs.length).Fine (single vs ++ [d]) where
  kind := .inr (.inr (.inl rfl))
  lin hk := by simp [pigP] at hk
  vsl _ := by show (pigV _).length ≤ 64; rw [pigV_len]; omega
  vars v hv := by
    have := pigV_mem.1 (show v ∈ pigV (vs.length + 1) from hv)
    simp [single_len]; omega
theorem pigOnce_c {w5 : World} {B g6 g7 c6 c7 : Nat} {vs : List Int} {us : List Value} {d : List Rg} (h : TwoL w5 B (.slice (some ⟨g6, 0, none⟩) (vs.length + 1) c6) (.slice (some ⟨g7, 0, none⟩) (vs.length + 1) c7) (single vs ++ [d]) (pigV vs.length ++ [(vs.length : Int)]) us) (hv : vs.length ≤ 8) (hd : d.length ≤ 4096) :
    Calls Try.prog 8 #[.agg #[.int .i64 3, .slice none 0 0, .slice none 0 0, .int .i64 0, .int .i64 0, .int .i64 0, .int .i64 0, .int .i64 0, .slice (some ⟨g7, 0, none⟩) (vs.length + 1) c7], .slice (some ⟨g6, 0, none⟩) (vs.length + 1) c6] w5
      (RetO (onceP (pigP vs.length) (single vs ++ [d])) w5) := by
  have hi : IsAt w5 (.slice (some ⟨g7, 0, none⟩) (vs.length + 1) c7) (pigV (vs.length + 1)) := by rw [pigV_snoc]; exact SlAt.of_own h.own
  have hD : DsAt w5 (.slice (some ⟨g6, 0, none⟩) (vs.length + 1) c6) (single vs ++ [d]) := h.app.own.at
  have hn : IsAt w5 (.slice none 0 0) [] := SlAt.nil
  refine once_all (pigP vs.length) (.slice none 0 0) (.slice none 0 0) _ _ (single vs ++ [d]) w5 hn hn hi hD (pig_fine vs d hv) (by simp [single_len]; omega) (fun e he => ?_)
  rcases List.mem_append.1 he with h1 | h1
  · obtain ⟨v, _, rfl⟩ := List.mem_map.1 h1; simp
  · simp at h1; subst h1; exact hd

/-- append of all cells of another row onto an empty one -/
theorem wpList_appendAll {P : Program} {ops : Array Oper} {rest : List Oper} {o : Oper} {a : Act} {w : World} {Q : Exit → Act → World → Prop} (hgd : o.guard = none) (s x : Operand) (t : TypeId)
    (ho : o.op = .call { callee := .builtin .append, args := #[s, x], argTypes := #[t, t] })
    (base : Nat) (e : TypeId) (i : TypeInfo) (z : Value) (bytes : Nat) (ht : P.underlying t = some (.slice e)) (hi : P.info? e = some i) (hz : i.zero = some z)
    (hsize : i.size = 1) (hby : i.bytes = bytes) (hzs : z.cells.size = 1)
    (v : Value) (hs : a.eval s = v) (hown : w.ownsRow base e 1 v 0 []) (g0 m c : Nat) (news : List Value) (hx : a.eval x = .slice (some ⟨g0, 0, none⟩) m c) (hl : news.length = m) (hnews : ∀ j u, news[j]? = some u → w.cell? ⟨g0, j, none⟩ = some u) (h1 : ∀ u ∈ news, u.oneCell' = true)
    (hm : 0 < m) (hbytes : m * bytes ≤ 140737488355328 ∧ m ≤ 140737488355328) (hbase : base ≤ w.heap.size)
    (h : ∀ g cap w', w'.ownsRow base e 1 (.slice (some ⟨g, 0, none⟩) m cap) m news → Below base w w' → wpList P ops Q rest (a.put o.dst (.slice (some ⟨g, 0, none⟩) m cap)) w') :
    wpList P ops Q (o :: rest) a w := by
  refine wpList_append_lies _ hgd s x t ho base e i z 1 bytes ht hi hz hsize hby hzs (by decide) v 0 [] hs hown ⟨g0, 0, none⟩ m c news hx (by omega) (fun j u hj => by rw [Go.WideShapes.add_plain, Nat.zero_add]; exact hnews j u hj) h1 hm (by unfold maxLen; omega) (by rw [Nat.zero_add]; exact hbytes.1) hbase _ rfl ?_
  intro g cap w' r1 r2 r3 _
  rw [Nat.zero_add, List.nil_append] at r1
  rw [Nat.zero_add]
  exact h g cap w' r1 ((Below.refl base w).grown r2 hbase (ownBlock_ge hown))

/-- append of one cell, under a guard that lets it -/
theorem wpList_append1G {P : Program} {ops : Array Oper} {rest : List Oper} {o : Oper} {a : Act} {w : World} {Q : Exit → Act → World → Prop} (hw : Region.wanted o (yielded ops a.tmps) = true) (s x : Operand) (t : TypeId)
    (ho : o.op = .call { callee := .builtin .append, args := #[s, x], argTypes := #[t, t] })
    (base : Nat) (e : TypeId) (i : TypeInfo) (z : Value) (bytes : Nat) (ht : P.underlying t = some (.slice e)) (hi : P.info? e = some i) (hz : i.zero = some z)
    (hsize : i.size = 1) (hby : i.bytes = bytes) (hzs : z.cells.size = 1)
    (v : Value) (n : Nat) (xs : List Value) (hs : a.eval s = v) (hown : w.ownsRow base e 1 v n xs) {e' : TypeId}
    (u1 : Value) (hx : a.eval x = .slice (some ⟨w.heap.size, 0, none⟩) 1 1) (h1 : u1.oneCell' = true)
    (hbytes : (n + 1) * bytes ≤ 140737488355328 ∧ n + 1 ≤ 140737488355328) (hbase : base ≤ w.heap.size)
    (h : ∀ g cap w', w'.ownsRow base e 1 (.slice (some ⟨g, 0, none⟩) (n + 1) cap) (n + 1) (xs ++ [u1]) → Below base w w' → KeepsBut w w' v → (v.ownBlock = some g ∨ w.heap.size ≤ g) → wpList P ops Q rest (a.put o.dst (.slice (some ⟨g, 0, none⟩) (n + 1) cap)) w') :
    wpList P ops Q (o :: rest) a (w.alloc (.cells #[u1] e')) := by
  refine wpList_step fun K hK => ?_
  rw [if_pos hw]
  refine wp_append_lies _ s x t ho base e i z 1 bytes ht hi hz hsize hby hzs (by decide) v n xs hs (hown.alloc _) ⟨w.heap.size, 0, none⟩ 1 1 [u1] hx rfl ?_ ?_ (by decide) ?_ hbytes.1 (by simp; omega) _ rfl ?_
  · intro j y hj
    match j, hj with
    | 0, hj => simp at hj; subst hj; simp [Addr.add]
  · intro y hy; simp at hy; subst hy; exact h1
  · unfold maxLen; omega
  · intro g cap w' r1 r2 r3 _
    refine hK _ _ (h g cap w' r1 (below_grown hbase r2 (ownBlock_ge hown)) (fun b hb hne => ?_) ?_)
    · rw [r2.block b (by simp; omega) (fun he => hne he.symm)]
      exact Below.heap_alloc w _ b hb
    · rcases r3 with h3 | h3
      · exact .inl h3
      · right; rw [h3]; simp
theorem own_cap {w : World} {B e g n cap : Nat} {xs : List Value} (h : w.ownsRow B e 1 (.slice (some ⟨g, 0, none⟩) n cap) n xs) : n ≤ cap ∧ cap ≤ maxLen := by
  obtain ⟨a, c, he, h1, h2⟩ := SlAt.shape (SlAt.of_own h)
  cases he
  exact ⟨h1, h2⟩
theorem own_cells {w : World} {B e g n cap : Nat} {xs : List Value} (h : w.ownsRow B e 1 (.slice (some ⟨g, 0, none⟩) n cap) n xs) (j : Nat) (u : Value) (hj : xs[j]? = some u) : w.cell? ⟨g, j, none⟩ = some u := by
  have hs := SlAt.of_own h
  have hl : xs.length = n * 1 := hs.1
  have hjl := (List.getElem?_eq_some_iff.1 hj).1
  obtain ⟨b, off, c', he, _, _, _, hx⟩ := SlAt.pos hs (by omega)
  simp only [Value.slice.injEq, Option.some.injEq, Addr.mk.injEq] at he
  obtain ⟨⟨rfl, rfl, _⟩, _, rfl⟩ := he
  have := hx j (by omega)
  rw [hj, Nat.zero_add] at this
  exact this
theorem one_cells {w : World} {B : Nat} {v : Value} {ds : Ds} {us : List Value} (h : DsApp w B v ds us) : ∀ u ∈ us, u.oneCell' = true := fun u hu => by
  obtain ⟨j, hj, rfl⟩ := List.getElem_of_mem hu
  obtain ⟨u', e, r, _⟩ := h.2.2 j (by rw [← h.1]; exact hj)
  rw [List.getElem?_eq_getElem hj] at e
  cases e
  obtain ⟨a, c, he, _⟩ := r.shape
  rw [he]; rfl
theorem pig_want {w7 w8 : World} {B g9 c9 : Nat} {o6 o7 dv : Value} {vs : List Int} {ys : List Int} {us : List Value} {d : List Rg} (h : TwoL w7 B o6 o7 (single vs ++ [d]) ys (us ++ [dv]))
    (own9 : w8.ownsRow w7.heap.size 25 1 (.slice (some ⟨g9, 0, none⟩) vs.length c9) vs.length us) (hb : Below w7.heap.size w7 w8) : DsApp w8 w7.heap.size (.slice (some ⟨g9, 0, none⟩) vs.length c9) (single vs) us := by
  have hus : us.length = (single vs).length := by have := h.app.1; simp at this; simpa using this
  refine ⟨hus, by rw [single_len]; exact own9, fun j hj => ?_⟩
  have hj' : j < (single vs ++ [d]).length := by simp; omega
  obtain ⟨u, e, r, _⟩ := h.app.2.2 j hj'
  rw [List.getElem?_append_left (by omega)] at e
  rw [List.getElem_append_left hj] at r
  refine ⟨u, e, r.below hb, fun hne b hb1 he => ?_⟩
  have h1 := r.blk hne b hb1
  have h2 := (own9.lt b he).1
  omega
theorem pig_all {w8 w9 : World} {B g9 c9 g10 c10 : Nat} {vs : List Int} {us : List Value} {L : List Rg} {a9 : Option Addr} {n9 k9 : Nat} (h : DsApp w8 B (.slice (some ⟨g9, 0, none⟩) vs.length c9) (single vs) us) (hr : RgAt w8 (.slice a9 n9 k9) L) (ha : ∀ b, (Value.slice a9 n9 k9).ownBlock = some b → L ≠ [] → b < B)
    (ow : w9.ownsRow B 25 1 (.slice (some ⟨g10, 0, none⟩) (vs.length + 1) c10) (vs.length + 1) (us ++ [.slice a9 n9 k9])) (kw : KeepsBut w8 w9 (.slice (some ⟨g9, 0, none⟩) vs.length c9)) (gw : (Value.slice (some ⟨g9, 0, none⟩) vs.length c9).ownBlock = some g10 ∨ w8.heap.size ≤ g10) :
    DsAt w9 (.slice (some ⟨g10, 0, none⟩) (vs.length + 1) c10) (single vs ++ [L]) := by
  have hs : (single vs).length = vs.length := single_len vs
  have := DsApp.push (g := g10) (cap := c10) h hr (fun hne b hb he => by have := ha b hb hne; have := (h.2.1.lt b he).1; omega) (by rw [hs]; exact ow) kw gw
  rw [hs] at this
  exact this.own.at
end Go.Proofs.Ytajooiainglpmaa
namespace Go.Proofs.Ytajooiainglpmaa
open Go.RowKit Go.ChangeShapes Go.WideShapes Go.ChangeAt

theorem cellsU8 : Try.prog.cellsOf 5 = 1 := by kernel_rfl
set_option maxRecDepth 100000 in
theorem open_u8s {H : Type} {enc : TypeId × Value → H} {w : World} {sp : Nat → Bool} {held : Bool} {base : Nat} {v : Value} {d : DataW H} {ps : List MemPlace}
    (hval : Value.okWide Try.prog w .any base 22 v) (h0 : DataW.Trod enc Try.prog w 0 sp held 22 v d ps) : ∃ zs : List Int, SlAt w 1 v zs.length (zs.map (Value.int .u8)) ∧ ∀ z ∈ zs, 0 ≤ z ∧ z ≤ 255 := by
  obtain ⟨a0, l0, c0, rfl⟩ := okWide_slice Try.underlying22 hval
  obtain ⟨fuel, h⟩ := Joins.field_of_Trod h0 rfl
  obtain ⟨n, xs, hS, hE⟩ := open_sl (k := 1) Try.underlying22 cellsU8 h
  have hx : ∀ i, i < n → ∃ z : Int, xs[i]? = some (.int .u8 z) ∧ (Lit.int .u8 z).wf = true := fun i hi => by
    obtain ⟨m, y, hy⟩ := hE i hi
    obtain ⟨z, hz, _, hwf⟩ := DataW.trod_int Try.underlying5 hy
    refine ⟨z, ?_, hwf⟩
    have := congrArg (·[0]?) hz
    simpa [List.getElem?_take, List.getElem?_drop] using this
  obtain ⟨f, hf⟩ := Deep.choose_lt hx
  have hl := hS.len
  have e : xs = ((List.range n).map f).map (Value.int .u8) := by
    apply List.ext_getElem?
    intro i
    by_cases hi : i < n
    · rw [(hf i hi).1]; simp [hi]
    · rw [List.getElem?_eq_none (by omega), List.getElem?_eq_none (by simp; omega)]
  refine ⟨(List.range n).map f, ?_, fun z hz => ?_⟩
  · rw [← e]
    simpa using hS
  · obtain ⟨i, hi, rfl⟩ := List.mem_map.1 hz
    have := (hf i (by simpa using hi)).2
    simpa [Lit.wf, IntKind.min, IntKind.max, IntKind.bits, IntKind.signed] using this
end Go.Proofs.Ytajooiainglpmaa
namespace Go.Proofs.Ytajooiainglpmaa
open Go.RowKit

def U8At (w : World) (v : Value) (zs : List Int) : Prop := SlAt w 1 v zs.length (zs.map (Value.int .u8))
theorem U8At.below {w w' : World} {v : Value} {zs : List Int} (h : U8At w v zs) (hb : Below w.heap.size w w') : U8At w' v zs := SlAt.below h hb
theorem U8At.get {w : World} {ao : Option Addr} {n cap : Nat} {zs : List Int} (h : U8At w (.slice ao n cap) zs) (k : Nat) (hk : k < zs.length) :
    ∃ b off, ao = some ⟨b, off, none⟩ ∧ zs.length ≤ cap ∧ b < w.heap.size ∧ w.cell? ⟨b, off + k, none⟩ = some (.int .u8 zs[k]) := by
  obtain ⟨b, off, c', he, hc, _, hb, hx⟩ := SlAt.pos h (by omega)
  simp only [Value.slice.injEq] at he
  obtain ⟨rfl, rfl, rfl⟩ := he
  exact ⟨b, off, rfl, hc, hb, by rw [hx k (by omega), List.getElem?_map, List.getElem?_eq_getElem hk]; rfl⟩
theorem us_sl {w7 : World} {B e g6 c6 m n' : Nat} {us : List Value} {x : Value} (h : w7.ownsRow B e 1 (.slice (some ⟨g6, 0, none⟩) (m + 1) c6) n' (us ++ [x])) (hu : us.length = m) : SlAt w7 1 (.slice (some ⟨g6, 0, none⟩) m c6) m us := by
  have hs := SlAt.of_own h
  obtain ⟨_, _, he, hc, _⟩ := hs.shape
  simp only [Value.slice.injEq] at he
  obtain ⟨rfl, rfl, rfl⟩ := he
  have := SlAt.take hs m c6 (by omega) (by omega) (Nat.le_refl _)
  rw [Nat.mul_one, ← hu, List.take_left' rfl, hu] at this
  exact this
theorem pig_want2 {w7 w8 : World} {B : Nat} {o6 o7 dv v9 : Value} {vs : List Int} {ys : List Int} {us : List Value} {d : List Rg} (h : TwoL w7 B o6 o7 (single vs ++ [d]) ys (us ++ [dv]))
    (own9 : w8.ownsRow w7.heap.size 25 1 v9 (0 + vs.length) ([] ++ us)) (hb : Below w7.heap.size w7 w8) : DsApp w8 w7.heap.size v9 (single vs) us := by
  have hus : us.length = (single vs).length := by have := h.app.1; simp at this; simpa using this
  rw [Nat.zero_add, List.nil_append] at own9
  refine ⟨hus, by rw [single_len]; exact own9, fun j hj => ?_⟩
  have hj' : j < (single vs ++ [d]).length := by simp; omega
  obtain ⟨u, e, r, _⟩ := h.app.2.2 j hj'
  rw [List.getElem?_append_left (by omega)] at e
  rw [List.getElem_append_left hj] at r
  refine ⟨u, e, r.below hb, fun hne b hb1 he => ?_⟩
  have h1 := r.blk hne b hb1
  have h2 := (own9.lt b he).1
  omega
theorem pig_all2 {w8 w9 : World} {B g10 c10 : Nat} {v9 : Value} {vs : List Int} {us : List Value} {L : List Rg} {a9 : Option Addr} {n9 k9 : Nat} (h : DsApp w8 B v9 (single vs) us) (hr : RgAt w8 (.slice a9 n9 k9) L) (ha : ∀ b, (Value.slice a9 n9 k9).ownBlock = some b → L ≠ [] → b < B)
    (ow : w9.ownsRow B 25 1 (.slice (some ⟨g10, 0, none⟩) (0 + vs.length + 1) c10) (0 + vs.length + 1) ([] ++ us ++ [.slice a9 n9 k9])) (kw : KeepsBut w8 w9 v9) (gw : v9.ownBlock = some g10 ∨ w8.heap.size ≤ g10) :
    DsAt w9 (.slice (some ⟨g10, 0, none⟩) (vs.length + 1) c10) (single vs ++ [L]) := by
  have hs : (single vs).length = vs.length := single_len vs
  rw [Nat.zero_add, List.nil_append] at ow
  have := DsApp.push (g := g10) (cap := c10) h hr (fun hne b hb he => by have := ha b hb hne; have := (h.2.1.lt b he).1; omega) (by rw [hs]; exact ow) kw gw
  rw [hs] at this
  exact this.own.at
theorem three_nil (W : World) (T1 T2 T3 : TypeId) (h1 : T1 = 25) (h2 : T2 = 3) (h3 : T3 = 28) :
    ThreeL (((W.alloc (.cells #[] T1)).alloc (.cells #[] T2)).alloc (.cells #[] T3)) W.heap.size (.slice (some ⟨W.heap.size, 0, none⟩) 0 0) (.slice (some ⟨W.heap.size + 1, 0, none⟩) 0 0) (.slice (some ⟨W.heap.size + 1 + 1, 0, none⟩) 0 0) [] [] := by
  subst h1 h2 h3
  have a1 := World.ownsRow_made W #[] 0 (base := W.heap.size) (e := 25) (size := 1) (Nat.le_refl _) (by decide) rfl
  have a2 := World.ownsRow_made (W.alloc (.cells #[] 25)) #[] 0 (base := W.heap.size) (e := 3) (size := 1) (by simp) (by decide) rfl
  have a3 := World.ownsRow_made ((W.alloc (.cells #[] 25)).alloc (.cells #[] 3)) #[] 0 (base := W.heap.size) (e := 28) (size := 2) (by simp; omega) (by decide) rfl
  rw [show (W.alloc (.cells #[] 25)).heap.size = W.heap.size + 1 by simp] at a2
  rw [show ((W.alloc (.cells #[] 25)).alloc (.cells #[] 3)).heap.size = W.heap.size + 1 + 1 by simp] at a3
  have hb : ∀ (X : World) o, Below X.heap.size X (X.alloc o) := fun X o => (Below.refl _ _).alloc (Nat.le_refl _) _
  have hne : ∀ {x y : Nat}, x ≠ y → Apart (.slice (some ⟨x, 0, none⟩) 0 0) (.slice (some ⟨y, 0, none⟩) 0 0) := fun {x y} hxy b h1 h2 => by
    simp [Value.ownBlock] at h1 h2; omega
  exact ⟨⟨DsApp.nil (own_below (own_below a1 (hb _ _)) (hb _ _)), own_below a2 (hb _ _), hne (by omega), fun j hj => by simp [single] at hj⟩, a3, hne (by omega), hne (by omega), fun j hj => by simp [single] at hj⟩
theorem tmodn {z : Int} {n : Int} (hz : 0 ≤ z) (hn : 0 < n) : 0 ≤ z.tmod n ∧ z.tmod n < n := ⟨Int.tmod_nonneg _ hz, Int.tmod_lt_of_pos z hn⟩

set_option maxRecDepth 100000 in
set_option maxHeartbeats 6400000 in
theorem relPigeons_any (vp : Value) (wide : Int) (zs : List Int) (w : World) (hp : U8At w vp zs) (hz : ∀ z ∈ zs, 0 ≤ z ∧ z ≤ 255) (hw : 0 ≤ wide ∧ wide ≤ 255) :
    Calls Try.prog 3 #[vp, .int .u8 wide] w fun e w' => e = .returned (.bool true) ∧ Below w.heap.size w w' := by
  obtain ⟨i0, hi, hz0, hz1, hz2⟩ := info_parts Try.infoInt
  obtain ⟨i5, ki, kz0, kz1, kz2⟩ := info_parts Try.infoRgs
  obtain ⟨i6, li, lz0, lz1, lz2⟩ := info_parts Try.infoRg
  have HP := Lib.hid hp
  have HZ := Lib.hid hz
  obtain ⟨a4, c4, rfl, hpl, hpc⟩ := SlAt.shape hp
  unfold maxLen at hpc
  clear hp hz
  go_enter Try.func3, Try.ntmps3
  go_wp2
  go_loopw [5, 6, 7, 8, 9] (fun n o6 o7 o8 s wr => ∃ vs : List Int, ∃ us : List Value, ∃ k : Nat, vs.length ≤ k ∧ k ≤ zs.length ∧ k ≤ 8 ∧ n = .int .i64 vs.length ∧ s = .int .i64 k ∧ Hid (ThreeL wr w.heap.size o6 o7 o8 vs us) ∧ Hid (Below w.heap.size w wr) ∧ Hid (vs.Nodup ∧ ∀ v ∈ vs, 0 ≤ v ∧ v ≤ 11)) (fun _ _ _ _ s _ => 8 - (intOf s).toNat)
  case atStart =>
    exact ⟨[], [], 0, by simp, by omega, by omega, rfl, rfl, Lib.hid (three_nil w _ _ _ rfl rfl rfl), Lib.hid ((((Below.refl _ _).alloc (Nat.le_refl _) _).alloc (by simp) _).alloc (by simp; omega) _), List.Pairwise.nil, fun v hv => by simp at hv⟩
  case round =>
    obtain ⟨vs, us, k, hvk, hkl, hk8, rfl, rfl, HT, HB, HV⟩ := hrel
    have hle := HB.out.size
    by_cases hlt : k < zs.length
    · by_cases hlt8 : k < 8
      · obtain ⟨b3, o3, rfl, q3, q4, x3⟩ := HP.out.get k hlt
        have j1 : (k : Int) < zs.length := by omega
        have j2 : (k : Int) < 8 := by omega
        rw [← HB.out.cell (p := ⟨b3, o3 + k, none⟩) q4] at x3
        have hzb := HZ.out _ (List.getElem_mem hlt)
        generalize zs[k] = z0 at *
        have t12 := tmodn hzb.1 (n := 12) (by decide)
        obtain ⟨hzb1, hzb2⟩ := hzb
        generalize hq : z0.tmod 12 = v at *
        have htl : (takenL vs).length ≤ 4096 := by simp [takenL]; omega
        have CHs := Lib.hid (refHas_c u8 (takenL vs) v wr HT.out.taken htl)
        have hin : (inD v && memL (takenL vs) v) = vs.contains v := by rw [taken_mem]; simp [inD]; omega
        rw [hin] at CHs
        cases hc : vs.contains v with
        | true =>
          rw [hc] at CHs
          clear hin hc
          go_wp2_with (go_at_call 7; (with_reducible refine CHs.out.mono ?_); rintro e w' ⟨rfl, rfl⟩)
          exact ⟨⟨vs, us, k + 1, by omega, by omega, by omega, rfl, by go_num, HT, HB, HV⟩, by simp [intOf]; omega⟩
        | false =>
          rw [hc] at CHs
          have HNV : Hid (v ∉ vs) := fun h => by
            rw [← List.contains_iff_mem] at h
            rw [hc] at h; cases h
          clear hin hc
          have HO6 := HT.out.two.app.2.1
          have HO7 := HT.out.two.own
          rw [single_len] at HO6
          rw [pigV_len] at HO7
          have HO6 := Lib.hid HO6
          have HO7 := Lib.hid HO7
          have HO8 := Lib.hid HT.out.tak
          go_wp2_with (first
            | (go_at_call 7; (with_reducible refine CHs.out.mono ?_); rintro e w' ⟨rfl, rfl⟩)
            | (at_builtin; refine wpList_append2S rfl (.tmp 43) (.tmp 44) 25 rfl w.heap.size 28 i6 (.agg #[.int .i64 0, .int .i64 0]) 16 Try.underlying25 li lz0 lz1 lz2 rfl _ _ _ rfl HO8.out (.int .i64 v) (.int .i64 v) rfl rfl rfl rfl (by omega) (by omega) ?_; intro g8 cap8 w1 ow8 bw8 kw8 gw8 sz8; have OW8 := Lib.hid ow8; have KW8 := Lib.hid kw8; have GW8 := Lib.hid gw8; have BW8 := Lib.hid bw8; have hs1 := bw8.size; have HP6 := Lib.hid (own_kept (own_below HO6.out ((Below.refl _ _).alloc (Nat.le_refl _) (.cells #[.int .i64 v, .int .i64 v] 28))) kw8 HT.out.a6); have HP7 := Lib.hid (own_kept (own_below HO7.out ((Below.refl _ _).alloc (Nat.le_refl _) (.cells #[.int .i64 v, .int .i64 v] 28))) kw8 HT.out.a7); clear ow8 kw8 gw8 bw8 sz8)
            | (at_builtin; refine wpList_append1L rfl (.tmp 46) (.tmp 48) 23 rfl w.heap.size 25 i5 (.slice none 0 0) 24 Try.underlying23 ki kz0 kz1 kz2 rfl _ _ _ rfl HP6.out _ rfl rfl (by omega) (by omega) ?_; intro g6 cap6 w2 ow6 bw6 kw6 gw6; have OW6 := Lib.hid ow6; have KW6 := Lib.hid kw6; have GW6 := Lib.hid gw6; have BW6 := Lib.hid bw6; have hs2 := bw6.size; have HQ7 := Lib.hid (own_kept HP7.out kw6 HT.out.two.ap.symm); clear ow6 kw6 gw6 bw6)
            | (at_builtin; refine wpList_append1L rfl (.tmp 50) (.tmp 52) 24 rfl w.heap.size 3 i0 (.int .i64 0) 8 Try.underlying24 hi hz0 hz1 hz2 rfl _ _ _ rfl HQ7.out _ rfl rfl (by omega) (by omega) ?_; intro g7 cap7 w3 ow7 bw7 kw7 gw7))
          refine ⟨⟨vs ++ [v], us ++ [.slice (some ⟨wr.heap.size, 0, none⟩) 1 1], k + 1, by simp; omega, by omega, by omega, by rw [List.length_append]; go_num, by go_num, ?_, Lib.hid (((HB.out.trans BW8.out).trans BW6.out).trans bw7), ?_⟩, by simp [intOf]; omega⟩
          · exact Lib.hid (ThreeL.step HT.out OW8.out KW8.out GW8.out OW6.out KW6.out GW6.out hs2 ow7 kw7 gw7)
          · refine ⟨?_, fun x hx => ?_⟩
            · rw [List.nodup_append]
              exact ⟨HV.out.1, by simp, fun x hx y hy e => by simp at hy; subst hy; subst e; exact HNV.out hx⟩
            · rcases List.mem_append.1 hx with h | h
              · exact HV.out.2 x h
              · simp at h; subst h; omega
      · have j1 : (k : Int) < zs.length := by omega
        have j2 : ¬ (k : Int) < 8 := by omega
        have hv8 : vs.length ≤ 8 := by omega
        obtain ⟨hw1, hw2⟩ := hw
        have t14 := tmodn hw1 (n := 14) (by decide)
        generalize hq : wide.tmod 14 = m at *
        have HO6 := HT.out.two.app.2.1
        have HO7 := HT.out.two.own
        rw [single_len] at HO6
        rw [pigV_len] at HO7
        have HD6 := Lib.hid (own_below HO6 ((Below.refl _ _).alloc (Nat.le_refl _) (.cells #[.int .i64 0, .int .i64 m] 28)))
        have HD7 := Lib.hid (own_below HO7 ((Below.refl _ _).alloc (Nat.le_refl _) (.cells #[.int .i64 0, .int .i64 m] 28)))
        clear HO6 HO7
        have HPO := Lib.hid (pig_once vs m HV.out.1 (fun v hv => by have := HV.out.2 v hv; omega) (by omega))
        have htl : (takenL vs).length ≤ 4096 := by simp [takenL]; omega
        have HTL := Lib.hid htl
        have HML : Hid ((minusL [(0, m)] (takenL vs)).length ≤ 201) := canon_len _
        obtain ⟨RES, hRES⟩ : ∃ RES, RES = minusL [(0, m)] (takenL vs) := ⟨_, rfl⟩
        have HRS := Lib.hid hRES
        clear hRES htl
        by_cases hT : RES = []
        · have HPN : Hid (onceP (pigP vs.length) (single vs ++ [[(0, m)]]) = none) := by show _ = _; rw [HPO.out, ← HRS.out, if_pos hT]
          have HR0 : Hid (RES.length = 0) := by show _ = _; rw [hT]; rfl
          clear hT HPO
          go_wp2_with (first
            | (at_builtin; refine wpList_append1L rfl (.tmp 61) (.tmp 63) 23 rfl w.heap.size 25 i5 (.slice none 0 0) 24 Try.underlying23 ki kz0 kz1 kz2 rfl _ _ _ rfl HD6.out _ (by first | rfl | (show Value.slice _ _ _ = _; simp)) rfl (by omega) (by simp; omega) ?_; intro g6 cap6 w4 ow6 bw6 kw6 gw6; obtain ⟨hcp6, hcq6⟩ := own_cap ow6; unfold maxLen at hcq6; have OW6 := Lib.hid ow6; have KW6 := Lib.hid kw6; have GW6 := Lib.hid gw6; have BW6 := Lib.hid bw6; have hs2 := bw6.size; have HQ7 := Lib.hid (own_kept HD7.out kw6 HT.out.two.ap.symm); clear ow6 kw6 gw6 bw6)
            | (at_builtin; refine wpList_append1L rfl (.tmp 66) (.tmp 68) 24 rfl w.heap.size 3 i0 (.int .i64 0) 8 Try.underlying24 hi hz0 hz1 hz2 rfl _ _ _ rfl HQ7.out _ rfl rfl (by omega) (by simp at hs2; omega) ?_; intro g7 cap7 w5 ow7 bw7 kw7 gw7; have PR := Lib.hid (pig_pre HT.out OW6.out KW6.out GW6.out ow7 kw7 gw7); have CO := Lib.hid (pigOnce_c PR.out.1 (by omega) (by simp)); have CMN5 : Hid (∀ W, Below w5.heap.size w5 W → Calls Try.prog 9 #[.slice (some ⟨wr.heap.size, 0, none⟩) 1 1, u8] W (RetR (minusL [(0, m)] (takenL vs)) W)) := (fun W h => refMinus_c _ _ _ _ W (PR.out.2.2.below h) (PR.out.2.1.below h) (by simp) HTL.out); have BX := Lib.hid (HB.out.trans ((((Below.refl _ _).alloc hle (.cells #[.int .i64 0, .int .i64 m] 28)).trans BW6.out).trans bw7)); clear ow7 kw7 gw7 bw7)
            | (go_at_call 8; (with_reducible refine CO.out.mono ?_); rintro e w6 ⟨bb, hh⟩; obtain ⟨_, _, _, h0, _⟩ | ⟨_, rfl⟩ := hh; (rw [HPN.out] at h0; cases h0); have B6 := Lib.hid bb; have CMN := Lib.hid (CMN5.out w6 bb); clear bb)
            | (go_at_call 9; (with_reducible refine CMN.out.mono ?_); rintro e w7 ⟨a9, c9, he, hr9, bb⟩; rw [← HRS.out, HR0.out] at he; subst he; have B7 := Lib.hid (B6.out.trans (bb.mono B6.out.size)); clear bb hr9))
          go_ret
          exact ⟨rfl, BX.out.trans (B7.out.mono BX.out.size)⟩
        · have HPN : Hid (onceP (pigP vs.length) (single vs ++ [[(0, m)]]) = some (single vs ++ [RES])) := by show _ = _; rw [HPO.out, ← HRS.out, if_neg hT]
          have hrp : 0 < RES.length := List.length_pos_iff.2 hT
          have HRL : Hid (RES.length ≤ 201) := by show _ ≤ _; rw [HRS.out]; exact HML.out
          have HTN := Lib.hid hT
          have hrz : (((RES.length : Nat) : Int) == 0) = false := by simp; omega
          clear HPO hrp
          have HLN : Hid ((single vs ++ [RES]).length = vs.length + 1) := by show _ = _; simp [single_len]
          have HSM : Hid (∀ d ∈ single vs ++ [RES], d.length ≤ 4096) := fun d hd => by
            rcases List.mem_append.1 hd with h1 | h1
            · obtain ⟨v, _, rfl⟩ := List.mem_map.1 h1; simp
            · simp at h1; subst h1; have := HRL.out; omega
          go_wp2_with (first
            | (at_builtin; refine wpList_append1L rfl (.tmp 61) (.tmp 63) 23 rfl w.heap.size 25 i5 (.slice none 0 0) 24 Try.underlying23 ki kz0 kz1 kz2 rfl _ _ _ rfl HD6.out _ (by first | rfl | (show Value.slice _ _ _ = _; simp)) rfl (by omega) (by simp; omega) ?_; intro g6 cap6 w4 ow6 bw6 kw6 gw6; obtain ⟨hcp6, hcq6⟩ := own_cap ow6; unfold maxLen at hcq6; have OW6 := Lib.hid ow6; have KW6 := Lib.hid kw6; have GW6 := Lib.hid gw6; have BW6 := Lib.hid bw6; have hs2 := bw6.size; have HQ7 := Lib.hid (own_kept HD7.out kw6 HT.out.two.ap.symm); clear ow6 kw6 gw6 bw6)
            | (at_builtin; refine wpList_append1L rfl (.tmp 66) (.tmp 68) 24 rfl w.heap.size 3 i0 (.int .i64 0) 8 Try.underlying24 hi hz0 hz1 hz2 rfl _ _ _ rfl HQ7.out _ rfl rfl (by omega) (by simp at hs2; omega) ?_; intro g7 cap7 w5 ow7 bw7 kw7 gw7; have PR := Lib.hid (pig_pre HT.out OW6.out KW6.out GW6.out ow7 kw7 gw7); have CO := Lib.hid (pigOnce_c PR.out.1 (by omega) (by simp)); have CMN5 : Hid (∀ W, Below w5.heap.size w5 W → Calls Try.prog 9 #[.slice (some ⟨wr.heap.size, 0, none⟩) 1 1, u8] W (RetR (minusL [(0, m)] (takenL vs)) W)) := (fun W h => refMinus_c _ _ _ _ W (PR.out.2.2.below h) (PR.out.2.1.below h) (by simp) HTL.out); have BX := Lib.hid (HB.out.trans ((((Below.refl _ _).alloc hle (.cells #[.int .i64 0, .int .i64 m] 28)).trans BW6.out).trans bw7)); clear ow7 kw7 gw7 bw7)
            | (go_at_call 8; (with_reducible refine CO.out.mono ?_); rintro e w6 hh; rw [HPN.out] at hh; have h2 := hh.is; rw [HLN.out] at h2; obtain ⟨a8, c8, rfl, d8, bb⟩ := h2; have D8 := Lib.hid d8; have B6 := Lib.hid bb; have CMN := Lib.hid (CMN5.out w6 bb); clear bb d8 hh)
            | (go_at_call 9; (with_reducible refine CMN.out.mono ?_); rintro e w7 ⟨a9, c9, he, hr9, bb⟩; rw [← HRS.out] at he hr9; subst he; have R9 := Lib.hid hr9; have B7 := Lib.hid (B6.out.trans (bb.mono B6.out.size)); have D9 := Lib.hid (D8.out.below bb); have T7 := Lib.hid (PR.out.1.below B7.out); have HUL : Hid (us.length = vs.length) := (by have h := HT.out.two.app.1; rw [single_len] at h; exact h); have HU1 := Lib.hid (one_cells HT.out.two.app); have HG6 := Lib.hid (T7.out.app.2.1.lt g6 rfl).2; have HBL : Hid (∀ b, (Value.slice a9 RES.length c9).ownBlock = some b → RES ≠ [] → b < w7.heap.size) := (fun b hb hne => R9.out.blk hne b hb); clear bb hr9)
            | (at_builtin; refine wpList_append_sl rfl (.tmp 89) (.tmp 92) 23 rfl w7.heap.size 25 i5 (.slice none 0 0) 1 24 Try.underlying23 ki kz0 kz1 kz2 rfl (by decide) _ 0 [] rfl (World.ownsRow_made w7 #[] 0 (Nat.le_refl _) (by decide) rfl) _ _ us rfl ((us_sl T7.out.app.2.1 HUL.out).alloc _) HU1.out (by omega) (by simp) ?_; intro v9 w8 ow9 bw9 _; have BW9 := Lib.hid (((Below.refl w7.heap.size w7).alloc (Nat.le_refl _) _).trans bw9); have DA := Lib.hid (pig_want2 T7.out ow9 BW9.out); have OW9 := Lib.hid ow9; have hs8 := bw9.size; have R8 := Lib.hid (R9.out.below BW9.out); clear ow9 bw9)
            | (at_builtin; refine wpList_append1G (by rfl) (.tmp 97) (.tmp 99) 23 rfl w7.heap.size 25 i5 (.slice none 0 0) 24 Try.underlying23 ki kz0 kz1 kz2 rfl _ _ _ rfl OW9.out _ rfl rfl (by omega) (by have := BW9.out.size; omega) ?_; intro g10 cap10 w9 ow bw kw gw; have DL := Lib.hid (pig_all2 DA.out R8.out HBL.out ow kw gw); have BW10 := Lib.hid (BW9.out.trans bw); have CS := Lib.hid (sameDs_c _ _ _ _ w9 (D9.out.below BW10.out) DL.out (by rw [HLN.out]; omega) HSM.out); clear ow bw kw gw)
            | (go_at_call 10; (with_reducible refine CS.out.mono ?_); rintro e wA ⟨rfl, bb⟩; have BA := Lib.hid (BW10.out.trans (bb.mono BW10.out.size)); clear bb))
          go_ret
          exact ⟨ret_bool (by simp), BX.out.trans (B7.out.trans (BA.out.mono B7.out.size) |>.mono BX.out.size)⟩
    · have j1 : ¬ (k : Int) < zs.length := by omega
      have hv8 : vs.length ≤ 8 := by omega
      obtain ⟨hw1, hw2⟩ := hw
      have t14 := tmodn hw1 (n := 14) (by decide)
      generalize hq : wide.tmod 14 = m at *
      have HO6 := HT.out.two.app.2.1
      have HO7 := HT.out.two.own
      rw [single_len] at HO6
      rw [pigV_len] at HO7
      have HD6 := Lib.hid (own_below HO6 ((Below.refl _ _).alloc (Nat.le_refl _) (.cells #[.int .i64 0, .int .i64 m] 28)))
      have HD7 := Lib.hid (own_below HO7 ((Below.refl _ _).alloc (Nat.le_refl _) (.cells #[.int .i64 0, .int .i64 m] 28)))
      clear HO6 HO7
      have HPO := Lib.hid (pig_once vs m HV.out.1 (fun v hv => by have := HV.out.2 v hv; omega) (by omega))
      have htl : (takenL vs).length ≤ 4096 := by simp [takenL]; omega
      have HTL := Lib.hid htl
      have HML : Hid ((minusL [(0, m)] (takenL vs)).length ≤ 201) := canon_len _
      obtain ⟨RES, hRES⟩ : ∃ RES, RES = minusL [(0, m)] (takenL vs) := ⟨_, rfl⟩
      have HRS := Lib.hid hRES
      clear hRES htl
      by_cases hT : RES = []
      · have HPN : Hid (onceP (pigP vs.length) (single vs ++ [[(0, m)]]) = none) := by show _ = _; rw [HPO.out, ← HRS.out, if_pos hT]
        have HR0 : Hid (RES.length = 0) := by show _ = _; rw [hT]; rfl
        clear hT HPO
        go_wp2_with (first
          | (at_builtin; refine wpList_append1L rfl (.tmp 61) (.tmp 63) 23 rfl w.heap.size 25 i5 (.slice none 0 0) 24 Try.underlying23 ki kz0 kz1 kz2 rfl _ _ _ rfl HD6.out _ (by first | rfl | (show Value.slice _ _ _ = _; simp)) rfl (by omega) (by simp; omega) ?_; intro g6 cap6 w4 ow6 bw6 kw6 gw6; obtain ⟨hcp6, hcq6⟩ := own_cap ow6; unfold maxLen at hcq6; have OW6 := Lib.hid ow6; have KW6 := Lib.hid kw6; have GW6 := Lib.hid gw6; have BW6 := Lib.hid bw6; have hs2 := bw6.size; have HQ7 := Lib.hid (own_kept HD7.out kw6 HT.out.two.ap.symm); clear ow6 kw6 gw6 bw6)
          | (at_builtin; refine wpList_append1L rfl (.tmp 66) (.tmp 68) 24 rfl w.heap.size 3 i0 (.int .i64 0) 8 Try.underlying24 hi hz0 hz1 hz2 rfl _ _ _ rfl HQ7.out _ rfl rfl (by omega) (by simp at hs2; omega) ?_; intro g7 cap7 w5 ow7 bw7 kw7 gw7; have PR := Lib.hid (pig_pre HT.out OW6.out KW6.out GW6.out ow7 kw7 gw7); have CO := Lib.hid (pigOnce_c PR.out.1 (by omega) (by simp)); have CMN5 : Hid (∀ W, Below w5.heap.size w5 W → Calls Try.prog 9 #[.slice (some ⟨wr.heap.size, 0, none⟩) 1 1, u8] W (RetR (minusL [(0, m)] (takenL vs)) W)) := (fun W h => refMinus_c _ _ _ _ W (PR.out.2.2.below h) (PR.out.2.1.below h) (by simp) HTL.out); have BX := Lib.hid (HB.out.trans ((((Below.refl _ _).alloc hle (.cells #[.int .i64 0, .int .i64 m] 28)).trans BW6.out).trans bw7)); clear ow7 kw7 gw7 bw7)
          | (go_at_call 8; (with_reducible refine CO.out.mono ?_); rintro e w6 ⟨bb, hh⟩; obtain ⟨_, _, _, h0, _⟩ | ⟨_, rfl⟩ := hh; (rw [HPN.out] at h0; cases h0); have B6 := Lib.hid bb; have CMN := Lib.hid (CMN5.out w6 bb); clear bb)
          | (go_at_call 9; (with_reducible refine CMN.out.mono ?_); rintro e w7 ⟨a9, c9, he, hr9, bb⟩; rw [← HRS.out, HR0.out] at he; subst he; have B7 := Lib.hid (B6.out.trans (bb.mono B6.out.size)); clear bb hr9))
        go_ret
        exact ⟨rfl, BX.out.trans (B7.out.mono BX.out.size)⟩
      · have HPN : Hid (onceP (pigP vs.length) (single vs ++ [[(0, m)]]) = some (single vs ++ [RES])) := by show _ = _; rw [HPO.out, ← HRS.out, if_neg hT]
        have hrp : 0 < RES.length := List.length_pos_iff.2 hT
        have HRL : Hid (RES.length ≤ 201) := by show _ ≤ _; rw [HRS.out]; exact HML.out
        have HTN := Lib.hid hT
        have hrz : (((RES.length : Nat) : Int) == 0) = false := by simp; omega
        clear HPO hrp
        have HLN : Hid ((single vs ++ [RES]).length = vs.length + 1) := by show _ = _; simp [single_len]
        have HSM : Hid (∀ d ∈ single vs ++ [RES], d.length ≤ 4096) := fun d hd => by
          rcases List.mem_append.1 hd with h1 | h1
          · obtain ⟨v, _, rfl⟩ := List.mem_map.1 h1; simp
          · simp at h1; subst h1; have := HRL.out; omega
        go_wp2_with (first
          | (at_builtin; refine wpList_append1L rfl (.tmp 61) (.tmp 63) 23 rfl w.heap.size 25 i5 (.slice none 0 0) 24 Try.underlying23 ki kz0 kz1 kz2 rfl _ _ _ rfl HD6.out _ (by first | rfl | (show Value.slice _ _ _ = _; simp)) rfl (by omega) (by simp; omega) ?_; intro g6 cap6 w4 ow6 bw6 kw6 gw6; obtain ⟨hcp6, hcq6⟩ := own_cap ow6; unfold maxLen at hcq6; have OW6 := Lib.hid ow6; have KW6 := Lib.hid kw6; have GW6 := Lib.hid gw6; have BW6 := Lib.hid bw6; have hs2 := bw6.size; have HQ7 := Lib.hid (own_kept HD7.out kw6 HT.out.two.ap.symm); clear ow6 kw6 gw6 bw6)
          | (at_builtin; refine wpList_append1L rfl (.tmp 66) (.tmp 68) 24 rfl w.heap.size 3 i0 (.int .i64 0) 8 Try.underlying24 hi hz0 hz1 hz2 rfl _ _ _ rfl HQ7.out _ rfl rfl (by omega) (by simp at hs2; omega) ?_; intro g7 cap7 w5 ow7 bw7 kw7 gw7; have PR := Lib.hid (pig_pre HT.out OW6.out KW6.out GW6.out ow7 kw7 gw7); have CO := Lib.hid (pigOnce_c PR.out.1 (by omega) (by simp)); have CMN5 : Hid (∀ W, Below w5.heap.size w5 W → Calls Try.prog 9 #[.slice (some ⟨wr.heap.size, 0, none⟩) 1 1, u8] W (RetR (minusL [(0, m)] (takenL vs)) W)) := (fun W h => refMinus_c _ _ _ _ W (PR.out.2.2.below h) (PR.out.2.1.below h) (by simp) HTL.out); have BX := Lib.hid (HB.out.trans ((((Below.refl _ _).alloc hle (.cells #[.int .i64 0, .int .i64 m] 28)).trans BW6.out).trans bw7)); clear ow7 kw7 gw7 bw7)
          | (go_at_call 8; (with_reducible refine CO.out.mono ?_); rintro e w6 hh; rw [HPN.out] at hh; have h2 := hh.is; rw [HLN.out] at h2; obtain ⟨a8, c8, rfl, d8, bb⟩ := h2; have D8 := Lib.hid d8; have B6 := Lib.hid bb; have CMN := Lib.hid (CMN5.out w6 bb); clear bb d8 hh)
          | (go_at_call 9; (with_reducible refine CMN.out.mono ?_); rintro e w7 ⟨a9, c9, he, hr9, bb⟩; rw [← HRS.out] at he hr9; subst he; have R9 := Lib.hid hr9; have B7 := Lib.hid (B6.out.trans (bb.mono B6.out.size)); have D9 := Lib.hid (D8.out.below bb); have T7 := Lib.hid (PR.out.1.below B7.out); have HUL : Hid (us.length = vs.length) := (by have h := HT.out.two.app.1; rw [single_len] at h; exact h); have HU1 := Lib.hid (one_cells HT.out.two.app); have HG6 := Lib.hid (T7.out.app.2.1.lt g6 rfl).2; have HBL : Hid (∀ b, (Value.slice a9 RES.length c9).ownBlock = some b → RES ≠ [] → b < w7.heap.size) := (fun b hb hne => R9.out.blk hne b hb); clear bb hr9)
          | (at_builtin; refine wpList_append_sl rfl (.tmp 89) (.tmp 92) 23 rfl w7.heap.size 25 i5 (.slice none 0 0) 1 24 Try.underlying23 ki kz0 kz1 kz2 rfl (by decide) _ 0 [] rfl (World.ownsRow_made w7 #[] 0 (Nat.le_refl _) (by decide) rfl) _ _ us rfl ((us_sl T7.out.app.2.1 HUL.out).alloc _) HU1.out (by omega) (by simp) ?_; intro v9 w8 ow9 bw9 _; have BW9 := Lib.hid (((Below.refl w7.heap.size w7).alloc (Nat.le_refl _) _).trans bw9); have DA := Lib.hid (pig_want2 T7.out ow9 BW9.out); have OW9 := Lib.hid ow9; have hs8 := bw9.size; have R8 := Lib.hid (R9.out.below BW9.out); clear ow9 bw9)
          | (at_builtin; refine wpList_append1G (by rfl) (.tmp 97) (.tmp 99) 23 rfl w7.heap.size 25 i5 (.slice none 0 0) 24 Try.underlying23 ki kz0 kz1 kz2 rfl _ _ _ rfl OW9.out _ rfl rfl (by omega) (by have := BW9.out.size; omega) ?_; intro g10 cap10 w9 ow bw kw gw; have DL := Lib.hid (pig_all2 DA.out R8.out HBL.out ow kw gw); have BW10 := Lib.hid (BW9.out.trans bw); have CS := Lib.hid (sameDs_c _ _ _ _ w9 (D9.out.below BW10.out) DL.out (by rw [HLN.out]; omega) HSM.out); clear ow bw kw gw)
          | (go_at_call 10; (with_reducible refine CS.out.mono ?_); rintro e wA ⟨rfl, bb⟩; have BA := Lib.hid (BW10.out.trans (bb.mono BW10.out.size)); clear bb))
        go_ret
        exact ⟨ret_bool (by simp), BX.out.trans (B7.out.trans (BA.out.mono B7.out.size) |>.mono BX.out.size)⟩
end Go.Proofs.Ytajooiainglpmaa
