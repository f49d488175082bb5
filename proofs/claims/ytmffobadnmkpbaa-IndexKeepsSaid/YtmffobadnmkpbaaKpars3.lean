/-
  A ROW OF TERMS that is gathered while the reader goes on: what holds at its loop's head.
  coneyref05's row, walked over the contract of term.
  A LIST that is made of a row from its end on: what holds while it is made.
  coneyref05's list, walked over the contract of term.
  A METHOD OF THE READER UNDER WAY: its boxes lie in new blocks and stay.
-/
import Derived.Test.YtmffobadnmkpbaaKpars2
import Derived.Deep.CutBlock
import Derived.Deep.RegionWith
import Derived.Deep.DeepCutAuto
namespace Go.Proofs.Ytmffobadnmkpbaa
open Go.RowKit

theorem TmAt.nw {B : Nat} {v v1 : Value} {w w0 w1 w2 : World} {t : Tm} {a : Value} (h : TmAt (Nw B v w w1) w1 t a) (hk : KR B v w1 v1 w2) (hw : w0.heap.size ≤ w.heap.size) : TmAt (Nw B v1 w0 w2) w2 t a :=
  h.mono fun b _ hb => ⟨⟨by have := hb.1; omega, (hk.good hb.2).1⟩, (hk.good hb.2).2⟩
theorem heap_new (w : World) (o : Obj) : (w.alloc o).heap[w.heap.size]? = some o := by
  show (w.heap.push o)[w.heap.size]? = _
  simp
structure RowW (B : Nat) (s : ByteArray) (lv : Value) (toks : List Tok) (k0 : Nat) (nv0 : Value) (e0 : Int) (w : World) (m : Nat) (v : Value) (wr : World) (k : Nat) (nv : Value) (ns : List ByteArray) (pl e : Int) (L : List (Tm × Value)) : Prop where
  rd : RdAt wr B s lv toks k nv ns pl e
  kr : KR B nv0 w nv wr
  own : wr.ownsRow w.heap.size 24 4 v L.length (tmCs L)
  ne : ∀ g, v.ownBlock = some g → nv.ownBlock ≠ some g
  tms : ∀ x ∈ L, TmAt (fun b => Nw B nv w wr b ∧ v.ownBlock ≠ some b) wr x.1 x.2
  le : k0 ≤ k
  bad : e0 ≠ 0 → e ≠ 0
  size : Tm.sizes (L.map Prod.fst) + L.length + m ≤ 2 * (k - k0) + 2
  ok : e = 0 → ∀ x ∈ L, x.1.ok
section
variable {B : Nat} {s : ByteArray} {lv : Value} {toks : List Tok} {k0 : Nat} {nv0 : Value} {e0 : Int} {w : World} {m : Nat} {v : Value} {wr : World} {k : Nat} {nv : Value} {ns : List ByteArray} {pl e : Int} {L : List (Tm × Value)}
/-- behind what leaves all but the reader's struct and its names as it was -/
theorem RowW.call (h : RowW B s lv toks k0 nv0 e0 w m v wr k nv ns pl e L) (hB : B < w.heap.size) {W : World} {k1 : Nat} {nv1 : Value} {ns1 : List ByteArray} {pl1 e1 : Int} (hr : RdAt W B s lv toks k1 nv1 ns1 pl1 e1) (hk : KR B nv wr nv1 W) (hle : k ≤ k1) (hb : e ≠ 0 → e1 ≠ 0) :
    RowW B s lv toks k0 nv0 e0 w (m + 2 * (k1 - k)) v W k1 nv1 ns1 pl1 e1 L := by
  have hgood : ∀ g, v.ownBlock = some g → Gd B nv wr g := fun g hg => by
    have := h.own.lt g hg
    exact ⟨this.2, by omega, h.ne g hg⟩
  refine ⟨hr, h.kr.trans hk, ?_, fun g hg => (hk.good (hgood g hg)).1.2.2, fun x hx => ?_, Nat.le_trans h.le hle, fun h0 => hb (h.bad h0), ?_, fun h1 x hx => h.ok ?_ x hx⟩
  · refine ⟨h.own.1, ?_⟩
    rcases h.own.2 with hx | ⟨g, cap, cur, rfl, hg, hgg, rest⟩
    · exact .inl hx
    · exact .inr ⟨g, cap, cur, rfl, hg, by rw [(hk.good (hgood g rfl)).2]; exact hgg, rest⟩
  · exact (h.tms x hx).mono fun b _ hb => ⟨⟨⟨hb.1.1, (hk.good hb.1.2).1⟩, hb.2⟩, (hk.good hb.1.2).2⟩
  · have := h.size; have := h.le; omega
  · rcases Classical.em (e = 0) with h2 | h2
    · exact h2
    · exact absurd h1 (hb h2)
theorem RowW.slack (h : RowW B s lv toks k0 nv0 e0 w m v wr k nv ns pl e L) {m' : Nat} (hm : m' ≤ m) : RowW B s lv toks k0 nv0 e0 w m' v wr k nv ns pl e L :=
  ⟨h.rd, h.kr, h.own, h.ne, h.tms, h.le, h.bad, by have := h.size; omega, h.ok⟩
theorem RowW.later (h : RowW B s lv toks k0 nv0 e0 w m v wr k nv ns pl e L) (hB : B < w.heap.size) {W : World} (hb : Below wr.heap.size wr W) : RowW B s lv toks k0 nv0 e0 w m v W k nv ns pl e L :=
  (h.call hB (h.rd.later hb) (KR.of_below hb) (Nat.le_refl _) (fun h => h)).slack (by omega)
theorem RowW.comma (h : RowW B s lv toks k0 nv0 e0 w m v wr k nv ns pl e L) (hB : B < w.heap.size) (hk : k < toks.length) : RowW B s lv toks k0 nv0 e0 w (m + 2) v (wr.setCell ⟨B, 2, none⟩ (.int .i64 ((k : Int) + 1))) (k + 1) nv ns pl e L :=
  (h.call hB (h.rd.setAt hk) (KR.setB _ _ _ _ _) (Nat.le_succ _) (fun h => h)).slack (by omega)
theorem RdAt.kept {W : World} (h : RdAt wr B s lv toks k nv ns pl e) (hk : KeepsBut wr W v) (hB : v.ownBlock ≠ some B) (ht : ∀ b, b < B → v.ownBlock ≠ some b) (hn : ∀ g, v.ownBlock = some g → nv.ownBlock ≠ some g) : RdAt W B s lv toks k nv ns pl e := by
  refine ⟨h.box.block (hk B h.lt hB), h.tks.mono fun b hb hl => hk b hl (ht b hb), ?_, h.le, h.nle⟩
  refine ⟨h.nms.1, ?_⟩
  rcases h.nms.2 with hx | ⟨g, cap, cur, rfl, hg, hgg, rest⟩
  · exact .inl hx
  · exact .inr ⟨g, cap, cur, rfl, hg, by rw [hk g (Array.getElem?_eq_some_iff.1 hgg).1 (fun he => hn g he rfl)]; exact hgg, rest⟩
/-- one more term is appended -/
theorem RowW.push (h : RowW B s lv toks k0 nv0 e0 w m v wr k nv ns pl e L) (hB : B < w.heap.size) {t : Tm} {a : Value} {w1 : World} (ht : TmAt (Nw B nv w1 wr) wr t a) (hw1 : w.heap.size ≤ w1.heap.size) (hv1 : ∀ g, v.ownBlock = some g → g < w1.heap.size) (hs : t.size + 1 ≤ m) (hok : e = 0 → t.ok)
    {W : World} {g cap : Nat} (ho : W.ownsRow w.heap.size 24 4 (.slice (some ⟨g, 0, none⟩) (L.length + 1) cap) (L.length + 1) (tmCs L ++ (#[.int .i64 t.kind, .int .i64 t.num, .string t.name, a] : Array Value).toList))
    (hb : Below w.heap.size wr W) (hk : KeepsBut wr W v) (hl : v.ownBlock = some g ∨ wr.heap.size ≤ g) : RowW B s lv toks k0 nv0 e0 w 0 (.slice (some ⟨g, 0, none⟩) (L.length + 1) cap) W k nv ns pl e (L ++ [(t, a)]) := by
  have hge : ∀ b, v.ownBlock = some b → w.heap.size ≤ b := fun b hb => (h.own.lt b hb).1
  have hg : w.heap.size ≤ g := (ho.lt g rfl).1
  have hnv : nv.ownBlock ≠ some g := by
    rcases hl with hl | hl
    · exact h.ne g hl
    · intro he; have := h.rd.own_lt g he; omega
  refine ⟨h.rd.kept hk (fun he => by have := hge _ he; omega) (fun b hb he => by have := hge _ he; omega) h.ne, ?_, ?_, ?_, ?_, h.le, h.bad, ?_, ?_⟩
  · exact ⟨hb.os.trans h.kr.os, hb.tape.trans h.kr.tape, hb.output.trans h.kr.output, Nat.le_trans h.kr.size hb.size, fun b h1 h2 h3 => by rw [hk b (Nat.lt_of_lt_of_le h1 h.kr.size) (fun he => by have := hge b he; omega)]; exact h.kr.block b h1 h2 h3, h.kr.own⟩
  · rw [tmCs_snoc, List.length_append]; exact ho
  · intro g' hg'
    simp only [Value.ownBlock, Option.some.injEq] at hg'
    subst hg'; exact hnv
  · intro x hx
    have key : ∀ b, b < wr.heap.size → v.ownBlock ≠ some b → (Value.slice (some ⟨g, 0, none⟩) (L.length + 1) cap).ownBlock ≠ some b := fun b hb hv he => by
      simp only [Value.ownBlock, Option.some.injEq] at he
      subst he
      rcases hl with hl | hl
      · exact hv hl
      · omega
    rcases List.mem_append.1 hx with hx | hx
    · refine (h.tms x hx).mono fun b hbl hp => ⟨⟨⟨hp.1.1, ?_⟩, key b hbl hp.2⟩, hk b hbl hp.2⟩
      exact ⟨Nat.lt_of_lt_of_le hp.1.2.1 hb.size, hp.1.2.2⟩
    · obtain rfl := List.mem_singleton.1 hx
      refine ht.mono fun b hbl hp => ?_
      have hv : v.ownBlock ≠ some b := fun he => by have := hv1 b he; have := hp.1; omega
      exact ⟨⟨⟨by have := hp.1; omega, Nat.lt_of_lt_of_le hp.2.1 hb.size, hp.2.2⟩, key b hbl hv⟩, hk b hbl hv⟩
  · have := h.size
    simp only [List.map_append, List.map_cons, List.map_nil, Tm.sizes_append, Tm.sizes, List.length_append, List.length_cons, List.length_nil]
    omega
  · intro h0 x hx
    rcases List.mem_append.1 hx with hx | hx
    · exact h.ok h0 x hx
    · obtain rfl := List.mem_singleton.1 hx; exact hok h0
/-- the first term, laid alone -/
theorem RowW.first {t : Tm} {a : Value} {W : World} {k1 : Nat} {nv1 : Value} {ns1 : List ByteArray} {pl1 e1 : Int} (_hB : B < w.heap.size) (hr : RdAt W B s lv toks k1 nv1 ns1 pl1 e1) (hk : KR B nv0 w nv1 W) (hle : k0 ≤ k1) (hb : e0 ≠ 0 → e1 ≠ 0) (ht : TmAt (Nw B nv1 w W) W t a) (hs : t.size ≤ 2 * (k1 - k0) + 1) (hok : e1 = 0 → t.ok) (T : TypeId) (hT : T = 24) :
    RowW B s lv toks k0 nv0 e0 w 0 (.slice (some ⟨W.heap.size, 0, none⟩) 1 1) (W.alloc (.cells #[.int .i64 t.kind, .int .i64 t.num, .string t.name, a] T)) k1 nv1 ns1 pl1 e1 [(t, a)] := by
  subst hT
  have hbl : Below W.heap.size W (W.alloc (.cells #[.int .i64 t.kind, .int .i64 t.num, .string t.name, a] 24)) := (Below.refl _ _).alloc (Nat.le_refl _) _
  refine ⟨hr.later hbl, hk.trans (KR.of_below hbl), ?_, ?_, ?_, hle, hb, ?_, ?_⟩
  · exact ⟨rfl, .inr ⟨W.heap.size, 1, #[.int .i64 t.kind, .int .i64 t.num, .string t.name, a], rfl, hk.size, heap_new _ _, Nat.le_refl _, by simp [maxLen], rfl, rfl⟩⟩
  · intro g hg he
    simp only [Value.ownBlock, Option.some.injEq] at hg
    have := hr.own_lt g he
    omega
  · intro x hx
    obtain rfl := List.mem_singleton.1 hx
    refine ht.mono fun b hbl2 hp => ⟨⟨⟨hp.1, Nat.lt_of_lt_of_le hp.2.1 hbl.size, hp.2.2⟩, ?_⟩, hbl.block b hbl2⟩
    intro he
    simp only [Value.ownBlock, Option.some.injEq] at he
    omega
  · simp [Tm.sizes]; omega
  · intro h0 x hx
    obtain rfl := List.mem_singleton.1 hx; exact hok h0
end
end Go.Proofs.Ytmffobadnmkpbaa
namespace Go.Proofs.Ytmffobadnmkpbaa
open Go.RowKit

/-- what is asked of term at a depth -/
def TermOk (d : Int) : Prop := ∀ (w : World) (B : Nat) (s : ByteArray) (lv : Value) (toks : List Tok) (k : Nat) (nv : Value) (ns : List ByteArray) (pl e : Int), RdAt w B s lv toks k nv ns pl e → TksOk s toks → ∀ most : Int,
  Calls Try.prog 103 #[.pointer (some ⟨B, 0, none⟩), .int .i64 most, .int .i64 d] w (RetTm B s lv toks k nv e w)
theorem TermOk.call {d : Int} (hT : TermOk d) {w : World} {B : Nat} {s : ByteArray} {lv : Value} {toks : List Tok} {k : Nat} {nv : Value} {ns : List ByteArray} {pl e : Int} (h : RdAt w B s lv toks k nv ns pl e) (hok : TksOk s toks) (most : Int) :
    Calls Try.prog 103 #[.pointer (some ⟨B, 0, none⟩), .int .i64 most, .int .i64 d] w (RetTm B s lv toks k nv e w) := hT w B s lv toks k nv ns pl e h hok most
def RetRow (B : Nat) (s : ByteArray) (lv : Value) (toks : List Tok) (k : Nat) (nv : Value) (e0 : Int) (w : World) (ex : Ending) (w' : World) : Prop :=
  ∃ k1 nv1 ns1 pl1 e1 l v, ex = .returned v ∧ RdAt w' B s lv toks k1 nv1 ns1 pl1 e1 ∧ KR B nv w nv1 w' ∧ k ≤ k1 ∧ (e0 ≠ 0 → e1 ≠ 0) ∧ TsAt (Nw B nv1 w w') w' v l ∧ Tm.sizes l + l.length ≤ 2 * (k1 - k) + 2 ∧ 0 < l.length ∧ (e1 = 0 → ∀ t ∈ l, t.ok)
theorem one4r {a b c d : Value} (h : a.oneCell' = true) (h2 : b.oneCell' = true) (h3 : c.oneCell' = true) (h4 : d.oneCell' = true) : ∀ u ∈ (#[a, b, c, d] : Array Value).toList, u.oneCell' = true := by
  intro u hu; simp at hu; rcases hu with rfl | rfl | rfl | rfl <;> assumption
theorem RowW.ret {B : Nat} {s : ByteArray} {lv : Value} {toks : List Tok} {k0 : Nat} {nv0 : Value} {e0 : Int} {w : World} {m : Nat} {v : Value} {wr : World} {k : Nat} {nv : Value} {ns : List ByteArray} {pl e : Int} {L : List (Tm × Value)}
    (h : RowW B s lv toks k0 nv0 e0 w m v wr k nv ns pl e L) (hB : B < w.heap.size) (hp : 0 < L.length) : RetRow B s lv toks k0 nv0 e0 w (.returned v) wr := by
  refine ⟨k, nv, ns, pl, e, L.map Prod.fst, v, rfl, h.rd, h.kr, h.le, h.bad, ?_, by have := h.size; simp only [List.length_map]; omega, by simpa using hp, fun h0 t ht => ?_⟩
  · refine TsAt.of_sl (SlAt.of_own h.own) (fun b hb => ?_) (fun x hx => (h.tms x hx).mono fun b _ hb => ⟨hb.1, rfl⟩)
    have := h.own.lt b hb
    exact ⟨this.1, this.2, by omega, h.ne b hb⟩
  · obtain ⟨x, hx, rfl⟩ := List.mem_map.1 ht
    exact h.ok h0 x hx
set_option maxRecDepth 100000 in
set_option maxHeartbeats 1600000 in
theorem row_c {d : Int} (hd0 : 0 ≤ d) (hd : d ≤ 64) (hT : TermOk (d + 1)) {w : World} {B : Nat} {s : ByteArray} {lv : Value} {toks : List Tok} {k : Nat} {nv : Value} {ns : List ByteArray} {pl e : Int} (h : RdAt w B s lv toks k nv ns pl e) (hok : TksOk s toks) :
    Calls Try.prog 175 #[.pointer (some ⟨B, 0, none⟩), .int .i64 d] w (RetRow B s lv toks k nv e w) := by
  obtain ⟨i0, hi, hz0, hz1, hz2⟩ := info_parts Try.infoTerm
  have hB := h.lt
  have hll := hok.len
  have HOK := Lib.hid hok
  have HT := Lib.hid hT
  have CT := Lib.hid (hT w B s lv toks k nv ns pl e h hok 999)
  clear h hok hT
  go_enter Try.func175, Try.ntmps175
  go_wp2_with (go_at_call 103; ((with_reducible refine CT.out.mono ?_); rintro ex W1 ⟨k1, nv1, ns1, pl1, e1, t, a, rfl, r1, kr1, hle1, hb1, ht1, hs1, ho1⟩; obtain ⟨ao1, c1, rfl, _⟩ := ht1.shape; have R1 := Lib.hid (RowW.first hB r1 kr1 hle1 hb1 ht1 hs1 ho1 24 rfl); clear r1 kr1 hle1 hb1 ht1 hs1 ho1; unfold tmV))
  go_loopg [5] (toks.length - k1) (fun n v wr => ∃ (k2 : Nat) (nv2 : Value) (ns2 : List ByteArray) (pl2 e2 : Int) (L : List (Tm × Value)), Hid (RowW B s lv toks k nv e w 0 v wr k2 nv2 ns2 pl2 e2 L) ∧ Hid (n = toks.length - k2) ∧ 0 < L.length)
  case atStart => exact ⟨k1, nv1, ns1, pl1, e1, _, R1, Lib.hid rfl, by simp⟩
  case round =>
    obtain ⟨k2, nv2, ns2, pl2, e2, L, R2, HN, hLp⟩ := hrel
    clear R1 CT
    obtain ⟨c0, c1, c2, c3, c4, c5, f2, f3, f4, f5⟩ := R2.out.rd.six
    have hk2 := R2.out.rd.le
    have hLl : L.length ≤ 2002 := by have := R2.out.size; have := R2.out.le; omega
    have hB2 := R2.out.rd.lt
    have hB3 := R2.out.kr.size
    obtain ⟨oa, oc, rfl, _⟩ := (SlAt.of_own R2.out.own).shape
    have CM := Lib.hid (mark_c R2.out.rd HOK.out ⟨#[44]⟩)
    by_cases he : e2 = 0
    · subst he
      go_wp2_with (first
        | (go_at_call 133; ((with_reducible refine CM.out.mono ?_); rintro ex W2 ⟨b, rfl, hb, b2⟩; have R3 := Lib.hid (R2.out.later hB b2); have HBB := Lib.hid hb; obtain ⟨y0, y1, y2, y3, y4, y5, g2, g3, g4, g5⟩ := (R2.out.later hB b2).rd.six; clear hb b2 c0 c1 c2 c3 c4 c5 f2 f3 f4 f5; cases b))
        | (go_at_call 103; (have R3c := Lib.hid (R3.out.comma hB (HBB.out (by first | rfl | trivial))); (with_reducible refine (HT.out.call R3c.out.rd HOK.out 999).mono ?_); rintro ex W4 ⟨k4, nv4, ns4, pl4, e4, t4, a4, rfl, r4, kr4, hle4, hb4, ht4, hs4, ho4⟩; obtain ⟨ao4, cc4, rfl, _⟩ := ht4.shape; have R4 := Lib.hid (R3c.out.call hB r4 kr4 hle4 hb4); have T4 := Lib.hid ht4; have S4 := Lib.hid hs4; have O4 := Lib.hid ho4; have L4 := Lib.hid hle4; clear r4 kr4 hle4 hb4 ht4 hs4 ho4; unfold tmV))
        | (at_builtin; refine wpList_appendX rfl (.tmp 27) (.tmp 32) 22 rfl w.heap.size 24 i0 (.agg #[.int .i64 0, .int .i64 0, .string ByteArray.empty, .slice none 0 0]) 4 56 Try.underlying22 hi hz0 hz1 hz2 rfl (by decide) _ L.length (tmCs L) rfl R4.out.own _ _ rfl rfl rfl (one4r rfl rfl rfl rfl) ⟨by omega, by omega⟩ ?_ ?_; (· exact R4.out.kr.size); intro g cap W5 ho5 hb5 hk5 hl5; have R5 := Lib.hid (R4.out.push hB T4.out R3c.out.kr.size (fun g hg => (R3c.out.own.lt g hg).2) (by have := S4.out; omega) O4.out ho5 hb5 hk5 hl5); clear ho5 hb5 hk5 hl5))
      · go_ret
        exact R3.out.ret hB hLp
      · go_roundg (toks.length - k4)
        case measure => have := HN.out; have := R5.out.rd.le; have := L4.out; omega
        case rel => exact ⟨k4, nv4, ns4, pl4, e4, _, R5, Lib.hid rfl, by simp⟩
    · have heb : (e2 == 0) = false := by simpa using he
      clear he
      go_wp2
      go_ret
      exact R2.out.ret hB hLp
end Go.Proofs.Ytmffobadnmkpbaa
namespace Go.Proofs.Ytmffobadnmkpbaa
open Go.RowKit

theorem tmC_box {w : World} {B : Nat} {t : Tm} {a : Value} (h : BoxL w B (tmC (t, a))) : CellsT w B 0 t a := ⟨(h.get 0 rfl).1, (h.get 1 rfl).1, (h.get 2 rfl).1, (h.get 3 rfl).1⟩
theorem put4_box {W : World} {R : Nat} {cs : List Value} (h : BoxL W R cs) (hl : cs.length = 4) (t : Tm) (a : Value) : BoxL (put4 W R t a) R (tmC (t, a)) := by
  have h0 := h.set 0 (by omega) (.int .i64 t.kind)
  have h1 := h0.set 1 (by simp; omega) (.int .i64 t.num)
  have h2 := h1.set 2 (by simp; omega) (.string t.name)
  have h3 := h2.set 3 (by simp; omega) a
  match cs, hl with
  | [c0, c1, c2, c3], _ => simpa [tmC, put4] using h3
/-- a block that is new, stays, and is none of two -/
def P2 (B : Nat) (nv : Value) (w wr : World) (R0 R1 : Nat) (b : Nat) : Prop := Nw B nv w wr b ∧ b ≠ R0 ∧ b ≠ R1
structure LsW (B : Nat) (s : ByteArray) (lv : Value) (toks : List Tok) (k0 : Nat) (nv0 : Value) (e0 : Int) (w : World) (R0 R1 : Nat) (v : Value) (l : List Tm) (wr : World) (k : Nat) (nv : Value) (ns : List ByteArray) (pl e : Int) (rest : Tm) (a : Value) : Prop where
  rd : RdAt wr B s lv toks k nv ns pl e
  kr : KR B nv0 w nv wr
  new0 : w.heap.size ≤ R0
  new1 : w.heap.size ≤ R1
  ne : R0 ≠ R1
  g0 : Gd B nv wr R0
  g1 : Gd B nv wr R1
  box0 : BoxL wr R0 (tmC (.nil, .slice none 0 0))
  box1 : BoxL wr R1 (tmC (rest, a))
  ts : TsAt (P2 B nv w wr R0 R1) wr v l
  tm : TmAt (P2 B nv w wr R0 R1) wr rest a
  le : k0 ≤ k
  bad : e0 ≠ 0 → e ≠ 0
  okl : e = 0 → ∀ t ∈ l, t.ok
  okr : e = 0 → rest.ok
section
variable {B : Nat} {s : ByteArray} {lv : Value} {toks : List Tok} {k0 : Nat} {nv0 : Value} {e0 : Int} {w : World} {R0 R1 : Nat} {v : Value} {l : List Tm} {wr : World} {k : Nat} {nv : Value} {ns : List ByteArray} {pl e : Int} {rest : Tm} {a : Value}
theorem LsW.call (h : LsW B s lv toks k0 nv0 e0 w R0 R1 v l wr k nv ns pl e rest a) {W : World} {k1 : Nat} {nv1 : Value} {ns1 : List ByteArray} {pl1 e1 : Int} (hr : RdAt W B s lv toks k1 nv1 ns1 pl1 e1) (hk : KR B nv wr nv1 W) (hle : k ≤ k1) (hb : e ≠ 0 → e1 ≠ 0) :
    LsW B s lv toks k0 nv0 e0 w R0 R1 v l W k1 nv1 ns1 pl1 e1 rest a := by
  have hz : e1 = 0 → e = 0 := fun h1 => Classical.byContradiction fun h2 => hb h2 h1
  have hp : ∀ b, b < wr.heap.size → P2 B nv w wr R0 R1 b → P2 B nv1 w W R0 R1 b ∧ W.heap[b]? = wr.heap[b]? := fun b _ hb => ⟨⟨⟨hb.1.1, (hk.good hb.1.2).1⟩, hb.2⟩, (hk.good hb.1.2).2⟩
  exact ⟨hr, h.kr.trans hk, h.new0, h.new1, h.ne, (hk.good h.g0).1, (hk.good h.g1).1, h.box0.block (hk.good h.g0).2, h.box1.block (hk.good h.g1).2, h.ts.mono hp, h.tm.mono hp, Nat.le_trans h.le hle, fun h0 => hb (h.bad h0), fun h1 => h.okl (hz h1), fun h1 => h.okr (hz h1)⟩
theorem LsW.later (h : LsW B s lv toks k0 nv0 e0 w R0 R1 v l wr k nv ns pl e rest a) {W : World} (hb : Below wr.heap.size wr W) : LsW B s lv toks k0 nv0 e0 w R0 R1 v l W k nv ns pl e rest a :=
  h.call (h.rd.later hb) (KR.of_below hb) (Nat.le_refl _) (fun h => h)
theorem LsW.step (h : LsW B s lv toks k0 nv0 e0 w R0 R1 v l wr k nv ns pl e rest a) (hk : k < toks.length) : LsW B s lv toks k0 nv0 e0 w R0 R1 v l (wr.setCell ⟨B, 2, none⟩ (.int .i64 ((k : Int) + 1))) (k + 1) nv ns pl e rest a :=
  h.call (h.rd.setAt hk) (KR.setB _ _ _ _ _) (Nat.le_succ _) (fun h => h)
/-- another rest is stored -/
theorem LsW.store (h : LsW B s lv toks k0 nv0 e0 w R0 R1 v l wr k nv ns pl e rest a) (hB : B < w.heap.size) {t : Tm} {c : Value} (ht : TmAt (P2 B nv w wr R0 R1) wr t c) (hok : e = 0 → t.ok) : LsW B s lv toks k0 nv0 e0 w R0 R1 v l (put4 wr R1 t c) k nv ns pl e t c := by
  have hp : ∀ b, b < wr.heap.size → P2 B nv w wr R0 R1 b → P2 B nv w (put4 wr R1 t c) R0 R1 b ∧ (put4 wr R1 t c).heap[b]? = wr.heap[b]? := fun b _ hb =>
    ⟨⟨⟨hb.1.1, ⟨by rw [put4_size]; exact hb.1.2.1, hb.1.2.2⟩⟩, hb.2⟩, put4_heap _ _ _ _ _ hb.2.2⟩
  refine ⟨h.rd.put (by have := h.new1; omega) h.g1.2.2 t c, h.kr.put h.new1 t c, h.new0, h.new1, h.ne, ⟨by rw [put4_size]; exact h.g0.1, h.g0.2⟩, ⟨by rw [put4_size]; exact h.g1.1, h.g1.2⟩, h.box0.block (put4_heap _ _ _ _ _ h.ne), put4_box h.box1 rfl t c, h.ts.mono hp, ht.mono hp, h.le, h.bad, h.okl, hok⟩
/-- a term made in new memory, behind a call -/
theorem LsW.new (_h : LsW B s lv toks k0 nv0 e0 w R0 R1 v l wr k nv ns pl e rest a) {t : Tm} {c : Value} {w1 : World} (ht : TmAt (Nw B nv w1 wr) wr t c) (hw : w.heap.size ≤ w1.heap.size) (h0 : R0 < w1.heap.size) (h1 : R1 < w1.heap.size) : TmAt (P2 B nv w wr R0 R1) wr t c :=
  ht.mono fun b _ hb => ⟨⟨⟨by have := hb.1; omega, hb.2⟩, by have := hb.1; omega, by have := hb.1; omega⟩, rfl⟩
theorem LsW.made (h : LsW B s lv toks k0 nv0 e0 w R0 R1 v l wr k nv ns pl e rest a) {t : Tm} {c : Value} {W : World} (ht : TmAt (OrNew (P2 B nv w wr R0 R1) wr) W t c) (_hb : Below wr.heap.size wr W) (hB : B < w.heap.size) : TmAt (P2 B nv w W R0 R1) W t c :=
  ht.mono fun b hl hp => by
    refine ⟨?_, rfl⟩
    rcases hp with hp | hp
    · exact ⟨⟨hp.1.1, hl, hp.1.2.2⟩, hp.2⟩
    · have hs := h.kr.size
      exact ⟨⟨by omega, hl, by omega, fun he => by have := h.rd.own_lt b he; omega⟩, by have := h.g0.1; omega, by have := h.g1.1; omega⟩
def RetLs (B : Nat) (s : ByteArray) (lv : Value) (toks : List Tok) (k : Nat) (nv : Value) (e0 : Int) (w : World) (ex : Ending) (w' : World) : Prop :=
  ∃ k1 nv1 ns1 pl1 e1 t a, ex = .returned (tmV t a) ∧ RdAt w' B s lv toks k1 nv1 ns1 pl1 e1 ∧ KR B nv w nv1 w' ∧ k ≤ k1 ∧ (e0 ≠ 0 → e1 ≠ 0) ∧ TmAt (Nw B nv1 w w') w' t a ∧ t.size ≤ 2 * (k1 - k) + 3 ∧ (e1 = 0 → t.ok)
theorem LsW.ret (h : LsW B s lv toks k0 nv0 e0 w R0 R1 v l wr k nv ns pl e rest a) (hB : B < w.heap.size) (hs : rest.size ≤ 2 * (k - k0) + 3) : RetLs B s lv toks k0 nv0 e0 w (.returned (tmV rest a)) (put4 wr R0 rest a) := by
  refine ⟨k, nv, ns, pl, e, rest, a, rfl, h.rd.put (by have := h.new0; omega) h.g0.2.2 _ _, h.kr.put h.new0 _ _, h.le, h.bad, ?_, hs, h.okr⟩
  exact h.tm.mono fun b _ hb => ⟨⟨hb.1.1, ⟨by rw [put4_size]; exact hb.1.2.1, hb.1.2.2⟩⟩, put4_heap _ _ _ _ _ hb.2.1⟩
end
end Go.Proofs.Ytmffobadnmkpbaa
namespace Go.Proofs.Ytmffobadnmkpbaa
open Go.RowKit

def RetAtom (x : ByteArray) (w : World) (e : Ending) (w' : World) : Prop := e = .returned (.agg #[.int .i64 3, .int .i64 0, .string x, .slice none 0 0]) ∧ Below w.heap.size w w'
theorem atom_c2 (x : ByteArray) (w : World) : Calls Try.prog 156 #[.string x] w (RetAtom x w) := (atom_c (fun _ => True) x w).mono fun _ _ ⟨a, he, ht, hb⟩ => by
  cases ht with
  | leaf _ => exact ⟨he, hb⟩
theorem e_or (x : Int) : (Hid (x = 0) ∧ (x == 0) = true ∧ (x != 0) = false) ∨ (Hid (x ≠ 0) ∧ (x == 0) = false ∧ (x != 0) = true) := by
  by_cases h : x = 0
  · exact .inl ⟨Lib.hid h, by simp [h], by simp [h]⟩
  · exact .inr ⟨Lib.hid h, by simpa using h, by simpa using h⟩
theorem two_ok {s : ByteArray} {a b : Tm} (hs : s.size ≤ 4096) (ha : a.ok) (hb : b.ok) : (Tm.cmp s [a, b]).ok := .cmp hs (by simp) (fun t ht => by
  rcases List.mem_cons.1 ht with rfl | ht
  · exact ha
  · obtain rfl := List.mem_singleton.1 ht; exact hb)
theorem shape2 {p : Nat → Prop} {w : World} {s : ByteArray} {a b : Tm} {v : Value} (h : TmAt p w (.cmp s [a, b]) v) : ∃ ao cap, v = .slice ao 2 cap := by
  obtain ⟨ao, cap, rfl, _⟩ := h.shapeC
  exact ⟨ao, cap, rfl⟩
theorem sizes_take (l : List Tm) (i : Nat) (h : i < l.length) : Tm.sizes (l.take (i + 1)) = Tm.sizes (l.take i) + (l[i]).size := by
  rw [List.take_succ_eq_append_getElem h, Tm.sizes_append]; simp [Tm.sizes]
theorem leaf_at {p : Nat → Prop} {w : World} (x : ByteArray) : TmAt p w (.atom x) (.slice none 0 0) := .leaf rfl
/-- the start: a row has been read, its rest is the empty list -/
theorem LsW.start {B : Nat} {s : ByteArray} {lv : Value} {toks : List Tok} {k0 : Nat} {nv0 : Value} {e0 : Int} {w W1 W2 W3 : World} {v : Value} {l : List Tm} {k : Nat} {nv : Value} {ns : List ByteArray} {pl e : Int} (hB : B < w.heap.size) (hv : ∀ g, nv0.ownBlock = some g → g < w.heap.size)
    (b1 : Below (w.alloc (.cells #[.int .i64 0, .int .i64 0, .string ⟨#[]⟩, .slice none 0 0] 24)).heap.size (w.alloc (.cells #[.int .i64 0, .int .i64 0, .string ⟨#[]⟩, .slice none 0 0] 24)) W1)
    (r2 : RdAt W2 B s lv toks k nv ns pl e) (k2 : KR B nv0 W1 nv W2) (t2 : TsAt (Nw B nv W1 W2) W2 v l) (b3 : Below W2.heap.size W2 W3) (hle : k0 ≤ k) (hb : e0 ≠ 0 → e ≠ 0) (hok : e = 0 → ∀ t ∈ l, t.ok) (x : ByteArray) (hx : x.size ≤ 4096) :
    LsW B s lv toks k0 nv0 e0 w w.heap.size W3.heap.size v l (W3.alloc (.cells #[.int .i64 3, .int .i64 0, .string x, .slice none 0 0] 24)) k nv ns pl e (.atom x) (.slice none 0 0) := by
  have hs1 : w.heap.size + 1 ≤ W1.heap.size := by have := b1.size; simpa using this
  have hs2 := k2.size
  have hs3 := b3.size
  have hal : Below W3.heap.size W3 (W3.alloc (.cells #[.int .i64 3, .int .i64 0, .string x, .slice none 0 0] 24)) := (Below.refl _ _).alloc (Nat.le_refl _) _
  have b34 : Below W2.heap.size W2 (W3.alloc (.cells #[.int .i64 3, .int .i64 0, .string x, .slice none 0 0] 24)) := b3.trans (hal.mono hs3)
  have hsz : (W3.alloc (.cells #[.int .i64 3, .int .i64 0, .string x, .slice none 0 0] 24)).heap.size = W3.heap.size + 1 := by simp
  have bw1 : Below w.heap.size w W1 := ((Below.refl _ _).alloc (Nat.le_refl _) _).trans (b1.mono (by simp))
  have g0 : Gd B nv0 W1 w.heap.size := ⟨by omega, by omega, fun he => by have := hv _ he; omega⟩
  have kr2 : KR B nv W2 nv (W3.alloc (.cells #[.int .i64 3, .int .i64 0, .string x, .slice none 0 0] 24)) := KR.of_below b34
  refine ⟨r2.later b34, ((KR.of_below bw1).trans k2).trans kr2, Nat.le_refl _, by omega, by omega, (kr2.good (k2.good g0).1).1, ⟨by omega, by omega, fun he => by have := r2.own_lt _ he; omega⟩, ?_, ?_, ?_, leaf_at x, hle, hb, hok, fun _ => .atom hx⟩
  · have h1 : BoxL W1 w.heap.size (tmC (.nil, .slice none 0 0)) := (BoxL.mk' w #[.int .i64 0, .int .i64 0, .string ⟨#[]⟩, .slice none 0 0] 24).below b1 (by simp)
    exact (h1.block (k2.good g0).2).block (kr2.good (k2.good g0).1).2
  · exact BoxL.mk' W3 #[.int .i64 3, .int .i64 0, .string x, .slice none 0 0] 24
  · refine t2.mono fun b hbl hp => ⟨⟨⟨by have := hp.1; omega, (kr2.good hp.2).1⟩, by have := hp.1; omega, by omega⟩, (kr2.good hp.2).2⟩
set_option maxRecDepth 100000 in
set_option maxHeartbeats 3200000 in
theorem list_c {d : Int} (hd0 : 0 ≤ d) (hd : d ≤ 64) (hT : TermOk (d + 1)) {w : World} {B : Nat} {s : ByteArray} {lv : Value} {toks : List Tok} {k : Nat} {nv : Value} {ns : List ByteArray} {pl e : Int} (h : RdAt w B s lv toks k nv ns pl e) (hok : TksOk s toks) :
    Calls Try.prog 155 #[.pointer (some ⟨B, 0, none⟩), .int .i64 d] w (RetLs B s lv toks k nv e w) := by
  have hB := h.lt
  have hll := hok.len
  have hkl := h.le
  have HR := Lib.hid h
  have HOK := Lib.hid hok
  have HT := Lib.hid hT
  have HV := Lib.hid h.own_lt
  have ha0 : Below w.heap.size w (w.alloc (.cells #[.int .i64 0, .int .i64 0, .string ⟨#[]⟩, .slice none 0 0] 24)) := (Below.refl _ _).alloc (Nat.le_refl _) _
  have CM := Lib.hid (mark_c (h.later ha0) hok ⟨#[93]⟩)
  clear h hok hT ha0
  go_enter Try.func155, Try.ntmps155
  go_upto_region 6 with (first
    | (go_at_call 133; ((with_reducible refine CM.out.mono ?_); rintro ex W1 ⟨b, rfl, hb, b1⟩; have B1 := Lib.hid b1; have R1 := Lib.hid ((HR.out.later ((Below.refl _ _).alloc (Nat.le_refl _) _)).later b1); have HBB := Lib.hid hb; obtain ⟨c0, c1, c2, c3, c4, c5, f2, f3, f4, f5⟩ := ((HR.out.later ((Below.refl _ _).alloc (Nat.le_refl _) _)).later b1).six; clear hb b1; cases b))
    | (go_at_call 175; ((with_reducible refine (row_c hd0 hd HT.out R1.out HOK.out).mono ?_); rintro ex W2 ⟨k2, nv2, ns2, pl2, e2, l, v, rfl, r2, kr2, hle2, hb2, ht2, hs2, hp2, ho2⟩; have hk2 := r2.le; have R2 := Lib.hid r2; have K2 := Lib.hid kr2; have L2 := Lib.hid hle2; have BB2 := Lib.hid hb2; have T2 := Lib.hid ht2; have S2 := Lib.hid hs2; have P2' := Lib.hid hp2; have O2 := Lib.hid ho2; obtain ⟨ao2, cc2, rfl, _⟩ := ht2.shape; clear r2 kr2 hle2 hb2 ht2 hs2 hp2 ho2 c0 c1 c2 c3 c4 c5 f2 f3 f4 f5; rcases e_or e2 with ⟨HE, heb, hen⟩ | ⟨HE, heb, hen⟩))
    | (go_at_call 156; (refine (atom_c2 _ _).mono ?_); rintro ex W3 ⟨rfl, b3⟩; have LS := Lib.hid (LsW.start hB HV.out B1.out R2.out K2.out T2.out b3 L2.out BB2.out O2.out ⟨#[91, 93]⟩ (by decide)); obtain ⟨c0, c1, c2, c3, c4, c5, f2, f3, f4, f5⟩ := (LsW.start hB HV.out B1.out R2.out K2.out T2.out b3 L2.out BB2.out O2.out ⟨#[91, 93]⟩ (by decide)).rd.six; clear b3)
    | (go_at_call 156; (refine (atom_c2 _ _).mono ?_); rintro ex W3 ⟨rfl, b3⟩; have B3 := Lib.hid b3; have hbx := ((box_below B1.out).far (a := ⟨B, 2, none⟩) (by dsimp only; omega) (.int .i64 ((k : Int) + 1))).below b3 (by have := B1.out.size; simp [World.setCell] at this ⊢; omega); obtain ⟨x0, fx0⟩ := hbx.get 0 rfl; obtain ⟨x1, fx1⟩ := hbx.get 1 rfl; obtain ⟨x2, fx2⟩ := hbx.get 2 rfl; obtain ⟨x3, fx3⟩ := hbx.get 3 rfl; clear b3 hbx))
  rotate_left 2
  · refine bodyPost_ret (v := tmV (.atom ⟨#[91, 93]⟩) (.slice none 0 0)) (by simp [results, Try.results155, go_sem, tmV, Tm.kind, Tm.num, Tm.name, x0, x1, x2, x3]; try rfl) rfl ?_
    have hkt := HBB.out (by first | rfl | trivial)
    have r5 := ((R1.out.setAt hkt).later B3.out).put (R := w.heap.size) hB (fun he => by have := HV.out _ he; omega) (.atom ⟨#[91, 93]⟩) (.slice none 0 0)
    have k5 := (((KR.of_below (((Below.refl w.heap.size w).alloc (Nat.le_refl _) _).trans (B1.out.mono (by simp)))).trans (KR.setB B nv W1 2 _)).trans (KR.of_below B3.out)).put (R := w.heap.size) (Nat.le_refl _) (.atom ⟨#[91, 93]⟩) (.slice none 0 0)
    exact ⟨k + 1, nv, ns, pl, e, .atom ⟨#[91, 93]⟩, _, rfl, r5, k5, Nat.le_succ _, fun h => h, .leaf rfl, by simp [Tm.size], fun _ => .atom (by decide)⟩
  · have CM2 := Lib.hid (mark_c LS.out.rd HOK.out ⟨#[124]⟩)
    go_upto_region 9 with (first
      | (go_at_call 133; ((with_reducible refine CM2.out.mono ?_); rintro ex W4 ⟨b, rfl, hb, b4⟩; have LS4 := Lib.hid (LS.out.later b4); have HB4 := Lib.hid hb; clear c0 c1 c2 c3 c4 c5 f2 f3 f4 f5; obtain ⟨c0, c1, c2, c3, c4, c5, f2, f3, f4, f5⟩ := (LS.out.later b4).rd.six; clear hb b4; cases b))
      | (go_at_call 103; (have LS5 := Lib.hid (LS4.out.step (HB4.out (by first | rfl | trivial))); (with_reducible refine (HT.out.call LS5.out.rd HOK.out 999).mono ?_); rintro ex W6 ⟨k6, nv6, ns6, pl6, e6, t6, a6, rfl, r6, kr6, hle6, hb6, ht6, hs6, ho6⟩; obtain ⟨ao6, cc6, rfl, _⟩ := ht6.shape; have LS6 := Lib.hid (LS5.out.call r6 kr6 hle6 hb6); have T6 := Lib.hid ht6; have S6 := Lib.hid hs6; have O6 := Lib.hid ho6; have L6 := Lib.hid hle6; obtain ⟨x0, fx0⟩ := LS6.out.box1.get 0 rfl; obtain ⟨x1, fx1⟩ := LS6.out.box1.get 1 rfl; obtain ⟨x2, fx2⟩ := LS6.out.box1.get 2 rfl; obtain ⟨x3, fx3⟩ := LS6.out.box1.get 3 rfl; clear r6 kr6 hle6 hb6 ht6 hs6 ho6; unfold tmV)))
    --WAYS
    · have HSZ : Hid ((Tm.atom ⟨#[91, 93]⟩).size + Tm.sizes l + l.length ≤ 2 * (k2 - k) + 3) := Lib.hid (by have := S2.out; simp only [Tm.size]; omega)
      have CU := Lib.hid (must_c LS4.out.rd HOK.out ⟨#[93]⟩)
      have hlen : l.length ≤ 2010 := by have := S2.out; have := R2.out.le; omega
      go_wp2_with (go_at_call 154; ((with_reducible refine CU.out.mono ?_); rintro ex W8 ⟨u8, k8, pl8, e8, rfl, r8, kr8, hle8, hb8⟩; have LS8 := Lib.hid (LS4.out.call r8 kr8 hle8 hb8); have L8 := Lib.hid hle8; clear r8 kr8 hle8 hb8))
      go_loopg [7] l.length (fun m v wr => ∃ (j : Nat) (rest : Tm) (a : Value), j ≤ l.length ∧ v = .int .i64 ((j : Int) - 1) ∧ Hid (m = j) ∧ Hid (LsW B s lv toks k nv e w w.heap.size W3.heap.size (.slice ao2 l.length cc2) l wr k8 nv2 ns2 pl8 e8 rest a) ∧ Hid (rest.size + Tm.sizes (l.take j) + j ≤ 2 * (k8 - k) + 3))
      case atStart => exact ⟨l.length, _, _, Nat.le_refl _, rfl, Lib.hid rfl, LS8, Lib.hid (by rw [List.take_length]; have := HSZ.out; have := L8.out; omega)⟩
      case round =>
        obtain ⟨j, rest, a, hj, rfl, HM, LS9, HS9⟩ := hrel
        obtain ⟨ao9, cc9, rfl, _⟩ := LS9.out.tm.shape
        obtain ⟨z0, fz0⟩ := LS9.out.box1.get 0 rfl
        obtain ⟨z1, fz1⟩ := LS9.out.box1.get 1 rfl
        obtain ⟨z2, fz2⟩ := LS9.out.box1.get 2 rfl
        obtain ⟨z3, fz3⟩ := LS9.out.box1.get 3 rfl
        rcases j with _ | i
        · obtain ⟨y0, fy0⟩ := LS9.out.box0.get 0 rfl
          obtain ⟨y1, fy1⟩ := LS9.out.box0.get 1 rfl
          obtain ⟨y2, fy2⟩ := LS9.out.box0.get 2 rfl
          obtain ⟨y3, fy3⟩ := LS9.out.box0.get 3 rfl
          go_wp2
          refine bodyPost_ret (v := tmV rest (.slice ao9 rest.args.length cc9)) (by simp [results, Try.results155, go_sem, tmV, y0, y1, y2, y3]; try rfl) rfl ?_
          exact LS9.out.ret hB (by have := HS9.out; simp [Tm.sizes] at this; omega)
        · have e1 : (((i + 1 : Nat) : Int) - 1) = i := by omega
          rw [e1]
          clear e1
          obtain ⟨b9, o9, a9, rfl, hp9, cc, tt⟩ := LS9.out.ts.get i (by omega)
          obtain ⟨q0, q1, q2, q3⟩ := cc
          obtain ⟨bo9, bc9, rfl, _⟩ := tt.shape
          have hbl9 := World.block_lt_of_cell? _ ⟨b9, o9 + i * 4, none⟩ q0
          have TW : Hid (∀ W, Below wr.heap.size wr W → Calls Try.prog 135 #[.string ⟨#[46]⟩, .agg #[.int .i64 (l[i]'(by omega)).kind, .int .i64 (l[i]'(by omega)).num, .string (l[i]'(by omega)).name, .slice bo9 (l[i]'(by omega)).args.length bc9], .agg #[.int .i64 rest.kind, .int .i64 rest.num, .string rest.name, .slice ao9 rest.args.length cc9]] W (RetT (P2 B nv2 w W w.heap.size W3.heap.size) (.cmp ⟨#[46]⟩ [l[i]'(by omega), rest]) W)) := fun W hW =>
            two_c _ ⟨#[46]⟩ (l[i]'(by omega)) rest _ _ W (tt.grow hW (fun b hb hp => ⟨⟨hp.1.1, Nat.lt_of_lt_of_le hp.1.2.1 hW.size, hp.1.2.2⟩, hp.2⟩)) (LS9.out.tm.grow hW (fun b hb hp => ⟨⟨hp.1.1, Nat.lt_of_lt_of_le hp.1.2.1 hW.size, hp.1.2.2⟩, hp.2⟩))
          have hil : (i : Int) < l.length := by omega
          have HTK := Lib.hid (sizes_take l i (by omega))
          have HOI := Lib.hid (fun h0 => LS9.out.okl h0 (l[i]'(by omega)) (List.getElem_mem _))
          generalize l[i]'(by omega) = x at *
          go_wp2
          go_region_with ((go_at_call 135; ((with_reducible refine (TW.out _ ((Below.refl _ _).drew)).mono ?_); rintro ex W9 ⟨a9, rfl, t9, b9⟩; obtain ⟨ao10, cc10, rfl⟩ := shape2 t9; rw [tmV_cmp]; have LS10 := Lib.hid ((LS9.out.later ((Below.refl _ wr).drew)).later b9); have T10 := Lib.hid ((LS9.out.later ((Below.refl _ wr).drew)).made t9 b9 hB); obtain ⟨y0, fy0⟩ := ((LS9.out.later ((Below.refl _ wr).drew)).later b9).box1.get 0 rfl; obtain ⟨y1, fy1⟩ := ((LS9.out.later ((Below.refl _ wr).drew)).later b9).box1.get 1 rfl; obtain ⟨y2, fy2⟩ := ((LS9.out.later ((Below.refl _ wr).drew)).later b9).box1.get 2 rfl; obtain ⟨y3, fy3⟩ := ((LS9.out.later ((Below.refl _ wr).drew)).later b9).box1.get 3 rfl; clear t9 b9)))
          all_goals
            go_wp2
            go_roundg i
            case measure => have := HM.out; omega
            case rel =>
              have LSF := LS10.out.store hB T10.out (fun h0 => two_ok (by decide) (HOI.out h0) (LS10.out.okr h0))
              dsimp only [put4, Tm.kind, Tm.num, Tm.name] at LSF
              exact ⟨i, .cmp ⟨#[46]⟩ [x, rest], _, by omega, rfl, Lib.hid rfl, Lib.hid LSF, Lib.hid (by have := HS9.out; have := HTK.out; simp only [Tm.size, Tm.sizes]; omega)⟩
    · have HSZ : Hid (t6.size + Tm.sizes l + l.length ≤ 2 * (k6 - k) + 3) := Lib.hid (by have := S2.out; have := S6.out; have := L6.out; have := L2.out; omega)
      have LS7 := Lib.hid (LS6.out.store hB (LS6.out.new T6.out LS5.out.kr.size LS5.out.g0.1 LS5.out.g1.1) O6.out)
      obtain ⟨Wx, hWx⟩ : ∃ Wx, Wx = put4 W6 W3.heap.size t6 (.slice ao6 t6.args.length cc6) := ⟨_, rfl⟩
      rw [← hWx] at LS7
      unfold put4 at hWx
      rw [← hWx]
      have HWX := Lib.hid hWx
      clear hWx x0 x1 x2 x3 fx0 fx1 fx2 fx3 c0 c1 c2 c3 c4 c5 f2 f3 f4 f5
      have CU := Lib.hid (must_c LS7.out.rd HOK.out ⟨#[93]⟩)
      have hlen : l.length ≤ 2010 := by have := S2.out; have := R2.out.le; omega
      go_wp2_with (go_at_call 154; ((with_reducible refine CU.out.mono ?_); rintro ex W8 ⟨u8, k8, pl8, e8, rfl, r8, kr8, hle8, hb8⟩; have LS8 := Lib.hid (LS7.out.call r8 kr8 hle8 hb8); have L8 := Lib.hid hle8; clear r8 kr8 hle8 hb8))
      go_loopg [7] l.length (fun m v wr => ∃ (j : Nat) (rest : Tm) (a : Value), j ≤ l.length ∧ v = .int .i64 ((j : Int) - 1) ∧ Hid (m = j) ∧ Hid (LsW B s lv toks k nv e w w.heap.size W3.heap.size (.slice ao2 l.length cc2) l wr k8 nv6 ns6 pl8 e8 rest a) ∧ Hid (rest.size + Tm.sizes (l.take j) + j ≤ 2 * (k8 - k) + 3))
      case atStart => exact ⟨l.length, _, _, Nat.le_refl _, rfl, Lib.hid rfl, LS8, Lib.hid (by rw [List.take_length]; have := HSZ.out; have := L8.out; omega)⟩
      case round =>
        obtain ⟨j, rest, a, hj, rfl, HM, LS9, HS9⟩ := hrel
        obtain ⟨ao9, cc9, rfl, _⟩ := LS9.out.tm.shape
        obtain ⟨z0, fz0⟩ := LS9.out.box1.get 0 rfl
        obtain ⟨z1, fz1⟩ := LS9.out.box1.get 1 rfl
        obtain ⟨z2, fz2⟩ := LS9.out.box1.get 2 rfl
        obtain ⟨z3, fz3⟩ := LS9.out.box1.get 3 rfl
        rcases j with _ | i
        · obtain ⟨y0, fy0⟩ := LS9.out.box0.get 0 rfl
          obtain ⟨y1, fy1⟩ := LS9.out.box0.get 1 rfl
          obtain ⟨y2, fy2⟩ := LS9.out.box0.get 2 rfl
          obtain ⟨y3, fy3⟩ := LS9.out.box0.get 3 rfl
          go_wp2
          refine bodyPost_ret (v := tmV rest (.slice ao9 rest.args.length cc9)) (by simp [results, Try.results155, go_sem, tmV, y0, y1, y2, y3]; try rfl) rfl ?_
          exact LS9.out.ret hB (by have := HS9.out; simp [Tm.sizes] at this; omega)
        · have e1 : (((i + 1 : Nat) : Int) - 1) = i := by omega
          rw [e1]
          clear e1
          obtain ⟨b9, o9, a9, rfl, hp9, cc, tt⟩ := LS9.out.ts.get i (by omega)
          obtain ⟨q0, q1, q2, q3⟩ := cc
          obtain ⟨bo9, bc9, rfl, _⟩ := tt.shape
          have hbl9 := World.block_lt_of_cell? _ ⟨b9, o9 + i * 4, none⟩ q0
          have TW : Hid (∀ W, Below wr.heap.size wr W → Calls Try.prog 135 #[.string ⟨#[46]⟩, .agg #[.int .i64 (l[i]'(by omega)).kind, .int .i64 (l[i]'(by omega)).num, .string (l[i]'(by omega)).name, .slice bo9 (l[i]'(by omega)).args.length bc9], .agg #[.int .i64 rest.kind, .int .i64 rest.num, .string rest.name, .slice ao9 rest.args.length cc9]] W (RetT (P2 B nv6 w W w.heap.size W3.heap.size) (.cmp ⟨#[46]⟩ [l[i]'(by omega), rest]) W)) := fun W hW =>
            two_c _ ⟨#[46]⟩ (l[i]'(by omega)) rest _ _ W (tt.grow hW (fun b hb hp => ⟨⟨hp.1.1, Nat.lt_of_lt_of_le hp.1.2.1 hW.size, hp.1.2.2⟩, hp.2⟩)) (LS9.out.tm.grow hW (fun b hb hp => ⟨⟨hp.1.1, Nat.lt_of_lt_of_le hp.1.2.1 hW.size, hp.1.2.2⟩, hp.2⟩))
          have hil : (i : Int) < l.length := by omega
          have HTK := Lib.hid (sizes_take l i (by omega))
          have HOI := Lib.hid (fun h0 => LS9.out.okl h0 (l[i]'(by omega)) (List.getElem_mem _))
          generalize l[i]'(by omega) = x at *
          go_wp2
          go_region_with ((go_at_call 135; ((with_reducible refine (TW.out _ ((Below.refl _ _).drew)).mono ?_); rintro ex W9 ⟨a9, rfl, t9, b9⟩; obtain ⟨ao10, cc10, rfl⟩ := shape2 t9; rw [tmV_cmp]; have LS10 := Lib.hid ((LS9.out.later ((Below.refl _ wr).drew)).later b9); have T10 := Lib.hid ((LS9.out.later ((Below.refl _ wr).drew)).made t9 b9 hB); obtain ⟨y0, fy0⟩ := ((LS9.out.later ((Below.refl _ wr).drew)).later b9).box1.get 0 rfl; obtain ⟨y1, fy1⟩ := ((LS9.out.later ((Below.refl _ wr).drew)).later b9).box1.get 1 rfl; obtain ⟨y2, fy2⟩ := ((LS9.out.later ((Below.refl _ wr).drew)).later b9).box1.get 2 rfl; obtain ⟨y3, fy3⟩ := ((LS9.out.later ((Below.refl _ wr).drew)).later b9).box1.get 3 rfl; clear t9 b9)))
          all_goals
            go_wp2
            go_roundg i
            case measure => have := HM.out; omega
            case rel =>
              have LSF := LS10.out.store hB T10.out (fun h0 => two_ok (by decide) (HOI.out h0) (LS10.out.okr h0))
              dsimp only [put4, Tm.kind, Tm.num, Tm.name] at LSF
              exact ⟨i, .cmp ⟨#[46]⟩ [x, rest], _, by omega, rfl, Lib.hid rfl, Lib.hid LSF, Lib.hid (by have := HS9.out; have := HTK.out; simp only [Tm.size, Tm.sizes]; omega)⟩
  · have HSZ : Hid ((Tm.atom ⟨#[91, 93]⟩).size + Tm.sizes l + l.length ≤ 2 * (k2 - k) + 3) := Lib.hid (by have := S2.out; simp only [Tm.size]; omega)
    have CU := Lib.hid (must_c LS.out.rd HOK.out ⟨#[93]⟩)
    have hlen : l.length ≤ 2010 := by have := S2.out; have := R2.out.le; omega
    go_wp2_with (go_at_call 154; ((with_reducible refine CU.out.mono ?_); rintro ex W8 ⟨u8, k8, pl8, e8, rfl, r8, kr8, hle8, hb8⟩; have LS8 := Lib.hid (LS.out.call r8 kr8 hle8 hb8); have L8 := Lib.hid hle8; clear r8 kr8 hle8 hb8))
    go_loopg [7] l.length (fun m v wr => ∃ (j : Nat) (rest : Tm) (a : Value), j ≤ l.length ∧ v = .int .i64 ((j : Int) - 1) ∧ Hid (m = j) ∧ Hid (LsW B s lv toks k nv e w w.heap.size W3.heap.size (.slice ao2 l.length cc2) l wr k8 nv2 ns2 pl8 e8 rest a) ∧ Hid (rest.size + Tm.sizes (l.take j) + j ≤ 2 * (k8 - k) + 3))
    case atStart => exact ⟨l.length, _, _, Nat.le_refl _, rfl, Lib.hid rfl, LS8, Lib.hid (by rw [List.take_length]; have := HSZ.out; have := L8.out; omega)⟩
    case round =>
      obtain ⟨j, rest, a, hj, rfl, HM, LS9, HS9⟩ := hrel
      obtain ⟨ao9, cc9, rfl, _⟩ := LS9.out.tm.shape
      obtain ⟨z0, fz0⟩ := LS9.out.box1.get 0 rfl
      obtain ⟨z1, fz1⟩ := LS9.out.box1.get 1 rfl
      obtain ⟨z2, fz2⟩ := LS9.out.box1.get 2 rfl
      obtain ⟨z3, fz3⟩ := LS9.out.box1.get 3 rfl
      rcases j with _ | i
      · obtain ⟨y0, fy0⟩ := LS9.out.box0.get 0 rfl
        obtain ⟨y1, fy1⟩ := LS9.out.box0.get 1 rfl
        obtain ⟨y2, fy2⟩ := LS9.out.box0.get 2 rfl
        obtain ⟨y3, fy3⟩ := LS9.out.box0.get 3 rfl
        go_wp2
        refine bodyPost_ret (v := tmV rest (.slice ao9 rest.args.length cc9)) (by simp [results, Try.results155, go_sem, tmV, y0, y1, y2, y3]; try rfl) rfl ?_
        exact LS9.out.ret hB (by have := HS9.out; simp [Tm.sizes] at this; omega)
      · have e1 : (((i + 1 : Nat) : Int) - 1) = i := by omega
        rw [e1]
        clear e1
        obtain ⟨b9, o9, a9, rfl, hp9, cc, tt⟩ := LS9.out.ts.get i (by omega)
        obtain ⟨q0, q1, q2, q3⟩ := cc
        obtain ⟨bo9, bc9, rfl, _⟩ := tt.shape
        have hbl9 := World.block_lt_of_cell? _ ⟨b9, o9 + i * 4, none⟩ q0
        have TW : Hid (∀ W, Below wr.heap.size wr W → Calls Try.prog 135 #[.string ⟨#[46]⟩, .agg #[.int .i64 (l[i]'(by omega)).kind, .int .i64 (l[i]'(by omega)).num, .string (l[i]'(by omega)).name, .slice bo9 (l[i]'(by omega)).args.length bc9], .agg #[.int .i64 rest.kind, .int .i64 rest.num, .string rest.name, .slice ao9 rest.args.length cc9]] W (RetT (P2 B nv2 w W w.heap.size W3.heap.size) (.cmp ⟨#[46]⟩ [l[i]'(by omega), rest]) W)) := fun W hW =>
          two_c _ ⟨#[46]⟩ (l[i]'(by omega)) rest _ _ W (tt.grow hW (fun b hb hp => ⟨⟨hp.1.1, Nat.lt_of_lt_of_le hp.1.2.1 hW.size, hp.1.2.2⟩, hp.2⟩)) (LS9.out.tm.grow hW (fun b hb hp => ⟨⟨hp.1.1, Nat.lt_of_lt_of_le hp.1.2.1 hW.size, hp.1.2.2⟩, hp.2⟩))
        have hil : (i : Int) < l.length := by omega
        have HTK := Lib.hid (sizes_take l i (by omega))
        have HOI := Lib.hid (fun h0 => LS9.out.okl h0 (l[i]'(by omega)) (List.getElem_mem _))
        generalize l[i]'(by omega) = x at *
        go_wp2
        go_region_with ((go_at_call 135; ((with_reducible refine (TW.out _ ((Below.refl _ _).drew)).mono ?_); rintro ex W9 ⟨a9, rfl, t9, b9⟩; obtain ⟨ao10, cc10, rfl⟩ := shape2 t9; rw [tmV_cmp]; have LS10 := Lib.hid ((LS9.out.later ((Below.refl _ wr).drew)).later b9); have T10 := Lib.hid ((LS9.out.later ((Below.refl _ wr).drew)).made t9 b9 hB); obtain ⟨y0, fy0⟩ := ((LS9.out.later ((Below.refl _ wr).drew)).later b9).box1.get 0 rfl; obtain ⟨y1, fy1⟩ := ((LS9.out.later ((Below.refl _ wr).drew)).later b9).box1.get 1 rfl; obtain ⟨y2, fy2⟩ := ((LS9.out.later ((Below.refl _ wr).drew)).later b9).box1.get 2 rfl; obtain ⟨y3, fy3⟩ := ((LS9.out.later ((Below.refl _ wr).drew)).later b9).box1.get 3 rfl; clear t9 b9)))
        all_goals
          go_wp2
          go_roundg i
          case measure => have := HM.out; omega
          case rel =>
            have LSF := LS10.out.store hB T10.out (fun h0 => two_ok (by decide) (HOI.out h0) (LS10.out.okr h0))
            dsimp only [put4, Tm.kind, Tm.num, Tm.name] at LSF
            exact ⟨i, .cmp ⟨#[46]⟩ [x, rest], _, by omega, rfl, Lib.hid rfl, Lib.hid LSF, Lib.hid (by have := HS9.out; have := HTK.out; simp only [Tm.size, Tm.sizes]; omega)⟩
end Go.Proofs.Ytmffobadnmkpbaa
namespace Go.Proofs.Ytmffobadnmkpbaa
open Go.RowKit

def RetOp (c : Nat) (B : Nat) (s : ByteArray) (lv : Value) (toks : List Tok) (k : Nat) (nv : Value) (e0 : Int) (w : World) (ex : Ending) (w' : World) : Prop :=
  ∃ k1 nv1 ns1 pl1 e1 t a pr, ex = .returned (.tuple #[tmV t a, .int .i64 pr]) ∧ RdAt w' B s lv toks k1 nv1 ns1 pl1 e1 ∧ KR B nv w nv1 w' ∧ k ≤ k1 ∧ (e0 ≠ 0 → e1 ≠ 0) ∧ TmAt (Nw B nv1 w w') w' t a ∧ t.size ≤ 2 * (k1 - k) + c ∧ (e1 = 0 → t.ok)
structure OpW (B : Nat) (s : ByteArray) (lv : Value) (toks : List Tok) (k0 : Nat) (nv0 : Value) (e0 : Int) (w : World) (bs : List (Nat × List Value)) (wr : World) (k : Nat) (nv : Value) (ns : List ByteArray) (pl e : Int) : Prop where
  rd : RdAt wr B s lv toks k nv ns pl e
  kr : KR B nv0 w nv wr
  le : k0 ≤ k
  bad : e0 ≠ 0 → e ≠ 0
  box : ∀ x ∈ bs, w.heap.size ≤ x.1 ∧ Gd B nv wr x.1 ∧ BoxL wr x.1 x.2
section
variable {B : Nat} {s : ByteArray} {lv : Value} {toks : List Tok} {k0 : Nat} {nv0 : Value} {e0 : Int} {w : World} {bs : List (Nat × List Value)} {wr : World} {k : Nat} {nv : Value} {ns : List ByteArray} {pl e : Int}
theorem OpW.begin (h : RdAt w B s lv toks k nv ns pl e) : OpW B s lv toks k nv e w [] w k nv ns pl e := ⟨h, KR.refl _ _ _, Nat.le_refl _, fun h => h, by simp⟩
theorem OpW.call (h : OpW B s lv toks k0 nv0 e0 w bs wr k nv ns pl e) {W : World} {k1 : Nat} {nv1 : Value} {ns1 : List ByteArray} {pl1 e1 : Int} (hr : RdAt W B s lv toks k1 nv1 ns1 pl1 e1) (hk : KR B nv wr nv1 W) (hle : k ≤ k1) (hb : e ≠ 0 → e1 ≠ 0) : OpW B s lv toks k0 nv0 e0 w bs W k1 nv1 ns1 pl1 e1 :=
  ⟨hr, h.kr.trans hk, Nat.le_trans h.le hle, fun h0 => hb (h.bad h0), fun x hx => by
    obtain ⟨h1, h2, h3⟩ := h.box x hx
    exact ⟨h1, (hk.good h2).1, h3.block (hk.good h2).2⟩⟩
theorem OpW.later (h : OpW B s lv toks k0 nv0 e0 w bs wr k nv ns pl e) {W : World} (hb : Below wr.heap.size wr W) : OpW B s lv toks k0 nv0 e0 w bs W k nv ns pl e := h.call (h.rd.later hb) (KR.of_below hb) (Nat.le_refl _) (fun h => h)
theorem OpW.step (h : OpW B s lv toks k0 nv0 e0 w bs wr k nv ns pl e) (hk : k < toks.length) : OpW B s lv toks k0 nv0 e0 w bs (wr.setCell ⟨B, 2, none⟩ (.int .i64 ((k : Int) + 1))) (k + 1) nv ns pl e := h.call (h.rd.setAt hk) (KR.setB _ _ _ _ _) (Nat.le_succ _) (fun h => h)
theorem OpW.alloc (h : OpW B s lv toks k0 nv0 e0 w bs wr k nv ns pl e) (hB : B < w.heap.size) (cs : Array Value) (T : TypeId) (R : Nat) (hR : wr.heap.size = R) : OpW B s lv toks k0 nv0 e0 w ((R, cs.toList) :: bs) (wr.alloc (.cells cs T)) k nv ns pl e := by
  subst hR
  have h1 := h.later ((Below.refl _ _).alloc (Nat.le_refl _) (.cells cs T))
  refine ⟨h1.rd, h1.kr, h1.le, h1.bad, fun x hx => ?_⟩
  rcases List.mem_cons.1 hx with rfl | hx
  · have hs := h.kr.size
    exact ⟨hs, ⟨by simp, by dsimp only; omega, fun he => by have := h.rd.own_lt _ he; dsimp only at this; omega⟩, BoxL.mk' wr cs T⟩
  · exact h1.box x hx
theorem OpW.get (h : OpW B s lv toks k0 nv0 e0 w bs wr k nv ns pl e) {R : Nat} {cs : List Value} (hx : (R, cs) ∈ bs) : BoxL wr R cs := (h.box _ hx).2.2
theorem OpW.lt (h : OpW B s lv toks k0 nv0 e0 w bs wr k nv ns pl e) {R : Nat} {cs : List Value} (hx : (R, cs) ∈ bs) : R < wr.heap.size := (h.box _ hx).2.1.1
theorem put_nw {B : Nat} {nv : Value} {w w1 wr : World} {t t' : Tm} {a a' : Value} {R : Nat} (ht : TmAt (Nw B nv w1 wr) wr t a) (hw : w.heap.size ≤ w1.heap.size) (hR : R < w1.heap.size) : TmAt (Nw B nv w (put4 wr R t' a')) (put4 wr R t' a') t a :=
  ht.mono fun b hb hp => ⟨⟨by have := hp.1; omega, ⟨by rw [put4_size]; exact hb, hp.2.2⟩⟩, put4_heap _ _ _ _ _ (by have := hp.1; omega)⟩
/-- a term of new memory goes back by the result's cells -/
theorem OpW.ret (h : OpW B s lv toks k0 nv0 e0 w bs wr k nv ns pl e) (hB : B < w.heap.size) {R : Nat} {cs : List Value} (hx : (R, cs) ∈ bs) {w1 : World} {t : Tm} {a : Value} (ht : TmAt (Nw B nv w1 wr) wr t a) (hw : w.heap.size ≤ w1.heap.size) (hR : R < w1.heap.size) {c : Nat} (hs : t.size ≤ 2 * (k - k0) + c) (hok : e = 0 → t.ok) (pr : Int) :
    RetOp c B s lv toks k0 nv0 e0 w (.returned (.tuple #[tmV t a, .int .i64 pr])) (put4 wr R t a) := by
  obtain ⟨h1, h2, _⟩ := h.box _ hx
  exact ⟨k, nv, ns, pl, e, t, a, pr, rfl, h.rd.put (by dsimp only at h1; omega) h2.2.2 _ _, h.kr.put h1 _ _, h.le, h.bad, put_nw ht hw hR, hs, hok⟩
theorem OpW.ret1 (h : OpW B s lv toks k0 nv0 e0 w bs wr k nv ns pl e) (hB : B < w.heap.size) {R : Nat} {cs : List Value} (hx : (R, cs) ∈ bs) {w1 : World} {t : Tm} {a : Value} (ht : TmAt (Nw B nv w1 wr) wr t a) (hw : w.heap.size ≤ w1.heap.size) (hR : R < w1.heap.size) (hs : t.size ≤ 2 * (k - k0) + 1) (hok : e = 0 → t.ok) :
    RetTm B s lv toks k0 nv0 e0 w (.returned (tmV t a)) (put4 wr R t a) := by
  obtain ⟨h1, h2, _⟩ := h.box _ hx
  exact ⟨k, nv, ns, pl, e, t, a, rfl, h.rd.put (by dsimp only at h1; omega) h2.2.2 _ _, h.kr.put h1 _ _, h.le, h.bad, put_nw ht hw hR, hs, hok⟩
/-- what is made of a term of new memory -/
theorem nw_made {B : Nat} {nv : Value} {w1 wr W : World} {t : Tm} {a : Value} (ht : TmAt (OrNew (Nw B nv w1 wr) wr) W t a) (hB : B < w1.heap.size) (hs : w1.heap.size ≤ wr.heap.size) (hv : ∀ g, nv.ownBlock = some g → g < wr.heap.size) : TmAt (Nw B nv w1 W) W t a :=
  ht.mono fun b hl hp => by
    refine ⟨?_, rfl⟩
    rcases hp with hp | hp
    · exact ⟨hp.1, hl, hp.2.2⟩
    · exact ⟨by omega, hl, by omega, fun he => by have := hv b he; omega⟩
theorem nw_leaf {B : Nat} {nv : Value} {w1 wr : World} {t : Tm} (h : t.args = []) : TmAt (Nw B nv w1 wr) wr t (.slice none 0 0) := .leaf h
end
end Go.Proofs.Ytmffobadnmkpbaa
