/-
  term.copied: a term made anew.
-/
import Derived.Test.YtmffobadnmkpbaaKtmd4
namespace Go.Proofs.Ytmffobadnmkpbaa
open Go.RowKit

theorem res4g {w W W9 : World} {r : Nat} {x0 x1 x2 x3 : Value} (hr : w.heap.size ≤ r) (hx : BoxL W r [x0, x1, x2, x3]) (hb : Below w.heap.size w W) {G : Tm} {a : Value} (ht : TmAt (fun b => r < b) W G a)
    (h9 : W9 = ((((W.setCell ⟨r, 0, none⟩ (.int .i64 G.kind)).setCell ⟨r, 1, none⟩ (.int .i64 G.num)).setCell ⟨r, 2, none⟩ (.string G.name)).setCell ⟨r, 3, none⟩ a)) : BoxL W9 r [.int .i64 G.kind, .int .i64 G.num, .string G.name, a] ∧ TmAt (fun b => w.heap.size ≤ b) W9 G a ∧ Below w.heap.size w W9 := by
  subst h9
  exact ⟨box4set hx _ _ _ _, ht.mono fun b _ hp => ⟨by omega, heap_set4 _ _ _ _ _ _ (by omega)⟩, below4 hb (by omega) _ _ _ _⟩

set_option maxRecDepth 100000 in
set_option maxHeartbeats 1600000 in
theorem copied1_c (n : Nat) (w : World) : Calls Try.prog 108 #[.agg #[.int .i64 1, .int .i64 n, .string ByteArray.empty, .slice none 0 0]] w (RetTm7 (.var n) w) := by
  obtain ⟨V, hV⟩ : ∃ V, V = ((w.alloc (.cells #[.int .i64 1, .int .i64 n, .string ByteArray.empty, .slice none 0 0] 24)).alloc (.cells #[.int .i64 0, .int .i64 0, .string ⟨#[]⟩, .slice none 0 0] 24)) := ⟨_, rfl⟩
  have al : ∀ (W : World) (o : Obj) (B : Nat), B ≤ W.heap.size → Below B W (W.alloc o) := fun W o B h => (Below.refl B W).alloc h o
  have BV : Hid (Below w.heap.size w V) := by rw [hV]; exact (al _ _ _ (Nat.le_refl _)).trans (al _ _ _ (by simp))
  have hsV : V.heap.size = w.heap.size + 2 := by rw [hV]; simp
  have XV : Hid (BoxL V w.heap.size [.int .i64 1, .int .i64 n, .string ByteArray.empty, .slice none 0 0]) := by rw [hV]; exact (BoxL.mk' w #[.int .i64 1, .int .i64 n, .string ByteArray.empty, .slice none 0 0] 24).below (al _ _ (w.heap.size + 1) (by simp)) (by omega)
  have ZV : Hid (BoxL V (w.heap.size + 1) [.int .i64 0, .int .i64 0, .string ⟨#[]⟩, .slice none 0 0]) := by
    rw [hV]
    have h := BoxL.mk' (w.alloc (.cells #[.int .i64 1, .int .i64 n, .string ByteArray.empty, .slice none 0 0] 24)) #[.int .i64 0, .int .i64 0, .string ⟨#[]⟩, .slice none 0 0] 24
    simp only [World.size_alloc] at h
    exact h
  obtain ⟨⟨x0, x1, x2, x3⟩, _⟩ := box4c XV.out
  obtain ⟨⟨z0, z1, z2, z3⟩, f0, f1, f2, f3⟩ := box4c ZV.out
  clear al
  go_enter Try.func108, Try.ntmps108
  go_upto_region 1 with (fail)
  rw [← hV]
  clear hV hsV
  go_wp2
  refine post_gen7 fun W9 hW9 => ?_
  have hr := Res4.mk' (W9 := W9) (G := .var n) (a := .slice none 0 0) ZV.out BV.out (.leaf rfl) hW9
  clear z0 z1 z2 z3 f0 f1 f2 f3
  obtain ⟨⟨z0, z1, z2, z3⟩, -⟩ := box4c hr.box
  simp only [Tm.kind, Tm.num, Tm.name] at z0 z1 z2
  refine bodyPost_ret (v := .agg #[.int .i64 1, .int .i64 n, .string ByteArray.empty, .slice none 0 0]) (by simp [results, Try.results108, go_sem, z0, z1, z2, z3]; try rfl) rfl ?_
  exact ⟨none, 0, rfl, hr.at', hr.bel⟩
set_option maxRecDepth 100000 in
set_option maxHeartbeats 1600000 in
theorem copied_c (t : Tm) (va : Value) (w : World) (ht : TmAt (fun _ => True) w t va) (hok : t.ok) (hn : t.size ≤ 1000000) : Calls Try.prog 74 #[tmV t va] w (RetTm7 t w) := by
  obtain ⟨ao, cc, rfl, hc1, hc2⟩ := ht.shape
  have CM : Hid (∀ W, Below w.heap.size w W → Calls Try.prog 72 #[.agg #[.int .i64 t.kind, .int .i64 t.num, .string t.name, .slice ao t.args.length cc], .func (.func 108) #[] #[]] W fun e w' => ∃ pa qa, e = .returned (.agg #[.int .i64 t.kind, .int .i64 t.num, .string t.name, .slice pa t.args.length qa]) ∧ TmAt (fun b => W.heap.size ≤ b) w' t (.slice pa t.args.length qa) ∧ Below W.heap.size W w') := fun W h => by
    have h := mapCopy_all (fun _ => True) .var (fun _ _ _ _ => trivial) (fun n W _ => copied1_c n W) t _ W (ht.later h) hok trivial hn
    rw [mapT_id] at h
    exact h
  obtain ⟨V, hV⟩ : ∃ V, V = ((w.alloc (.cells #[.int .i64 t.kind, .int .i64 t.num, .string t.name, .slice ao t.args.length cc] 24)).alloc (.cells #[.int .i64 0, .int .i64 0, .string ⟨#[]⟩, .slice none 0 0] 24)) := ⟨_, rfl⟩
  have al : ∀ (W : World) (o : Obj) (B : Nat), B ≤ W.heap.size → Below B W (W.alloc o) := fun W o B h => (Below.refl B W).alloc h o
  have BV : Hid (Below w.heap.size w V) := by rw [hV]; exact (al _ _ _ (Nat.le_refl _)).trans (al _ _ _ (by simp))
  have hsV : V.heap.size = w.heap.size + 2 := by rw [hV]; simp
  have XV : Hid (BoxL V w.heap.size [.int .i64 t.kind, .int .i64 t.num, .string t.name, .slice ao t.args.length cc]) := by rw [hV]; exact (BoxL.mk' w #[.int .i64 t.kind, .int .i64 t.num, .string t.name, .slice ao t.args.length cc] 24).below (al _ _ (w.heap.size + 1) (by simp)) (by omega)
  have ZV : Hid (BoxL V (w.heap.size + 1) [.int .i64 0, .int .i64 0, .string ⟨#[]⟩, .slice none 0 0]) := by
    rw [hV]
    have h := BoxL.mk' (w.alloc (.cells #[.int .i64 t.kind, .int .i64 t.num, .string t.name, .slice ao t.args.length cc] 24)) #[.int .i64 0, .int .i64 0, .string ⟨#[]⟩, .slice none 0 0] 24
    simp only [World.size_alloc] at h
    exact h
  have HS := Lib.hid hsV
  obtain ⟨⟨x0, x1, x2, x3⟩, _⟩ := box4c XV.out
  unfold tmV
  clear al ht hok hn hc1 hc2
  go_enter Try.func74, Try.ntmps74
  go_upto_region 1 with (fail)
  rw [← hV]
  clear hV hsV
  go_wp2_with (first | (go_at_call 72; ((with_reducible refine (CM.out _ BV.out).mono ?_); rintro e W2 ⟨pa, qa, rfl, tg, bb⟩; have Z2 := Lib.hid (ZV.out.block (bb.block _ (by have := HS.out; omega))); have B2 := Lib.hid (BV.out.trans (bb.mono BV.out.size)); have TG := Lib.hid tg; obtain ⟨⟨z0, z1, z2, z3⟩, f0, f1, f2, f3⟩ := box4c Z2.out; clear bb tg)))
  refine post_gen7 fun W9 hW9 => ?_
  have hr := Res4.mk' (W9 := W9) (G := t) (a := .slice pa t.args.length qa) Z2.out B2.out (TG.out.mono fun b _ hp => ⟨by have := HS.out; omega, rfl⟩) hW9
  clear z0 z1 z2 z3 f0 f1 f2 f3
  obtain ⟨⟨z0, z1, z2, z3⟩, -⟩ := box4c hr.box
  refine bodyPost_ret (v := .agg #[.int .i64 t.kind, .int .i64 t.num, .string t.name, .slice pa t.args.length qa]) (by simp [results, Try.results74, go_sem, z0, z1, z2, z3]; try rfl) rfl ?_
  exact ⟨pa, qa, rfl, hr.at', hr.bel⟩
end Go.Proofs.Ytmffobadnmkpbaa
