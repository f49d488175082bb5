/-
  RelFixed, walked.
  PIGEONS: variables that are all unlike, each but one with one integer. Plain; no program.
  THREE LISTS THAT GROW SIDE BY SIDE: sets, their places, and what is taken; plain, no walk.
-/
import Derived.Test.YtajooiainglpmaaKrlaw1
import Derived.Test.YtajooiainglpmaaKlin6
import Derived.Test.YtajooiainglpmaaKonce2
import Derived.Deep.AppendLies
namespace Go.Proofs.Ytajooiainglpmaa
open Go.RowKit

def I16At (w : World) (v : Value) (zs : List Int) : Prop := SlAt w 1 v zs.length (zs.map (Value.int .i16))
theorem I16At.below {w w' : World} {v : Value} {zs : List Int} (h : I16At w v zs) (hb : Below w.heap.size w w') : I16At w' v zs := SlAt.below h hb
theorem I16At.get {w : World} {ao : Option Addr} {n cap : Nat} {zs : List Int} (h : I16At w (.slice ao n cap) zs) (k : Nat) (hk : k < zs.length) :
    ∃ b off, ao = some ⟨b, off, none⟩ ∧ zs.length ≤ cap ∧ b < w.heap.size ∧ w.cell? ⟨b, off + k, none⟩ = some (.int .i16 zs[k]) := by
  obtain ⟨b, off, c', he, hc, _, hb, hx⟩ := SlAt.pos h (by omega)
  simp only [Value.slice.injEq] at he
  obtain ⟨rfl, rfl, rfl⟩ := he
  exact ⟨b, off, rfl, hc, hb, by rw [hx k (by omega), List.getElem?_map, List.getElem?_eq_getElem hk]; rfl⟩
theorem tmod40 (z : Int) : -39 ≤ z.tmod 40 ∧ z.tmod 40 ≤ 39 := by
  have h := Int.natAbs_tmod z 40
  have h2 : z.natAbs % 40 < 40 := Nat.mod_lt _ (by decide)
  have h3 : (40 : Int).natAbs = 40 := rfl
  rw [h3] at h
  omega

set_option maxRecDepth 100000 in
set_option maxHeartbeats 6400000 in
theorem relFixed_any (va vb vv vp : Value) (kind rel C x y z : Int) (coef vars vs zs : List Int) (w : World) (h0 : IsAt w va coef) (h1 : IsAt w vb vars) (h2 : IsAt w vv vs) (hp : I16At w vp zs) (hz : ∀ z ∈ zs, -32768 ≤ z ∧ z ≤ 32767) :
    Calls Try.prog 5 #[propV kind va vb rel C x y z vv, vp] w fun e w' => e = .returned (.bool true) ∧ Below w.heap.size w w' := by
  obtain ⟨i0, hi, hz0, hz1, hz2⟩ := info_parts Try.infoInt
  obtain ⟨i5, ki, kz0, kz1, kz2⟩ := info_parts Try.infoRgs
  have CM := Lib.hid (fun vds ds W (h : Below w.heap.size w W) (hd : DsAt W vds ds) => right16_c va vb vv vds kind rel C x y z coef vars vs ds W (h0.below h) (h1.below h) (h2.below h) hd)
  have CO := Lib.hid (fun vds ds W (h : Below w.heap.size w W) (hd : DsAt W vds ds) (hf : (PL.mk kind rel C x y z coef vars vs).Fine ds) hl hm => once_all (PL.mk kind rel C x y z coef vars vs) va vb vv vds ds W (h0.below h) (h1.below h) (h2.below h) hd hf hl hm)
  have CH := Lib.hid (fun vx xs ds W (h : Below w.heap.size w W) (hx : IsAt W vx xs) (hf : (PL.mk kind rel C x y z coef vars vs).Fine ds) (hl : xs.length ≤ 4096) hb => relHolds_c kind va vb vv vx rel C x y z coef vars vs xs ds W (h0.below h) (h1.below h) (h2.below h) hx hf hl hb)
  have CF := Lib.hid (fun vx xs ds W (h : Below w.heap.size w W) (hx : IsAt W vx xs) (hf : (PL.mk kind rel C x y z coef vars vs).Fine ds) (hl : xs.length ≤ 4096) hb => refHolds_c kind va vb vv vx rel C x y z coef vars vs xs ds W (h0.below h) (h1.below h) (h2.below h) hx hf hl hb)
  have HP := Lib.hid hp
  obtain ⟨a0, c0, rfl, _⟩ := IsAt.shape h0
  obtain ⟨a1, c1, rfl, _⟩ := IsAt.shape h1
  obtain ⟨a2, c2, rfl, _⟩ := IsAt.shape h2
  obtain ⟨a4, c4, rfl, hpl, hpc⟩ := SlAt.shape hp
  unfold maxLen at hpc
  have B0 : Hid (Below w.heap.size w (w.alloc (.cells #[.int .i64 kind, .slice a0 coef.length c0, .slice a1 vars.length c1, .int .i64 rel, .int .i64 C, .int .i64 x, .int .i64 y, .int .i64 z, .slice a2 vs.length c2] 34))) := (Below.refl _ _).alloc (Nat.le_refl _) _
  have L0 : Hid (BoxL (w.alloc (.cells #[.int .i64 kind, .slice a0 coef.length c0, .slice a1 vars.length c1, .int .i64 rel, .int .i64 C, .int .i64 x, .int .i64 y, .int .i64 z, .slice a2 vs.length c2] 34)) w.heap.size [.int .i64 kind, .slice a0 coef.length c0, .slice a1 vars.length c1, .int .i64 rel, .int .i64 C, .int .i64 x, .int .i64 y, .int .i64 z, .slice a2 vs.length c2]) := BoxL.mk' _ #[.int .i64 kind, .slice a0 coef.length c0, .slice a1 vars.length c1, .int .i64 rel, .int .i64 C, .int .i64 x, .int .i64 y, .int .i64 z, .slice a2 vs.length c2] _
  have HZ := Lib.hid hz
  clear h0 h1 h2 hp hz
  unfold propV at CM CO CH CF ⊢
  dsimp only at CO
  go_enter Try.func5, Try.ntmps5
  go_wp2
  have HS0 : Hid ((w.alloc (.cells #[.int .i64 kind, .slice a0 coef.length c0, .slice a1 vars.length c1, .int .i64 rel, .int .i64 C, .int .i64 x, .int .i64 y, .int .i64 z, .slice a2 vs.length c2] 34)).heap.size = w.heap.size + 1) := by show _ = _; simp
  generalize (w.alloc (.cells #[.int .i64 kind, .slice a0 coef.length c0, .slice a1 vars.length c1, .int .i64 rel, .int .i64 C, .int .i64 x, .int .i64 y, .int .i64 z, .slice a2 vs.length c2] 34)) = W0 at B0 L0 HS0 ⊢
  go_loopw [5, 6, 7] (fun o1 o2 s wr => ∃ ys : List Int, ∃ us : List Value, ys.length ≤ zs.length ∧ ys.length ≤ 7 ∧ s = .int .i64 ys.length ∧ Hid (TwoL wr W0.heap.size o1 o2 (single ys) ys us) ∧ Hid (Below W0.heap.size W0 wr) ∧ Hid (∀ v ∈ ys, -39 ≤ v ∧ v ≤ 39)) (fun _ _ s _ => 7 - (intOf s).toNat)
  case atStart =>
    refine ⟨[], [], by simp, by simp, rfl, Lib.hid ⟨DsApp.nil ?_, ?_, ?_, fun j hj => by simp [single] at hj⟩, Lib.hid (((Below.refl _ _).alloc (Nat.le_refl _) _).alloc (by simp) _), fun v hv => by simp at hv⟩
    · rw [← HS0.out]
      exact own_below (World.ownsRow_made W0 #[] 0 (Nat.le_refl _) (by decide) rfl) ((Below.refl _ _).alloc (Nat.le_refl _) _)
    · rw [← HS0.out]
      exact own_made1 W0 _
    · intro b hb he
      simp [Value.ownBlock] at hb he
      omega
  case round =>
    obtain ⟨ys, us, hyl, hy7, rfl, HT, HB, HY⟩ := hrel
    have hle := HB.out.size
    by_cases hlt : ys.length < zs.length
    · by_cases hlt7 : ys.length < 7
      · skip
        obtain ⟨b3, o3, rfl, q3, q4, x3⟩ := HP.out.get ys.length hlt
        have j1 : (ys.length : Int) < zs.length := by omega
        have j2 : (ys.length : Int) < 7 := by omega
        have hbw : Below w.heap.size w wr := B0.out.trans (HB.out.mono B0.out.size)
        rw [← hbw.cell (p := ⟨b3, o3 + ys.length, none⟩) q4] at x3
        have t40 := tmod40 zs[ys.length]
        have hzb := HZ.out _ (List.getElem_mem hlt)
        generalize zs[ys.length] = z0 at *
        obtain ⟨hzb1, hzb2⟩ := hzb
        generalize hq : z0.tmod 40 = n at *
        have HY2 : Hid (∀ v ∈ ys ++ [n], -39 ≤ v ∧ v ≤ 39) := fun v hv => by
          rcases List.mem_append.1 hv with h | h
          · exact HY.out v h
          · simp at h; subst h; exact t40
        have HO1 := HT.out.app.2.1
        rw [single_len] at HO1
        have HO1 := Lib.hid HO1
        have HO2 := Lib.hid HT.out.own
        clear hbw
        go_wp2_with (first
          | (at_builtin; refine wpList_append1L rfl (.tmp 29) (.tmp 31) 24 rfl W0.heap.size 3 i0 (.int .i64 0) 8 Try.underlying24 hi hz0 hz1 hz2 rfl _ _ _ rfl HO2.out _ rfl rfl (by omega) (by omega) ?_; intro g2 cap2 w1 ow2 bw2 kw2 gw2; have OW2 := Lib.hid ow2; have KW2 := Lib.hid kw2; have GW2 := Lib.hid gw2; have BW2 := Lib.hid bw2; have hs1 := bw2.size; have HO3 := Lib.hid (own_below (own_kept HO1.out kw2 HT.out.ap) ((Below.refl _ _).alloc (Nat.le_refl _) (.cells #[.int .i64 n, .int .i64 n] 28))); clear ow2 kw2 gw2 bw2)
          | (at_builtin; refine wpList_append1L rfl (.tmp 33) (.tmp 38) 23 rfl W0.heap.size 25 i5 (.slice none 0 0) 24 Try.underlying23 ki kz0 kz1 kz2 rfl _ _ _ rfl HO3.out _ (by first | rfl | (show Value.slice _ _ _ = _; simp)) rfl (by omega) (by simp; omega) ?_; intro g1 cap1 w5 ow bw kw gw))
        refine ⟨⟨ys ++ [n], us ++ [.slice (some ⟨w1.heap.size, 0, none⟩) 1 1], by simp; omega, by simp; omega, by rw [List.length_append]; go_num, ?_, ?_, HY2⟩, by simp [intOf]; omega⟩
        · exact Lib.hid (TwoL.one HT.out OW2.out KW2.out GW2.out ow kw gw)
        · exact Lib.hid ((HB.out.trans BW2.out).trans (((Below.refl _ _).alloc (Nat.le_trans hle hs1) _).trans bw))
      · have j1 : (ys.length : Int) < zs.length := by omega
        have j2 : ¬ (ys.length : Int) < 7 := by omega
        have HI : Hid (IsAt wr u6 ys) := SlAt.of_own HT.out.own
        have HD : Hid (DsAt wr u5 (single ys)) := HT.out.app.own.at
        clear HT
        obtain ⟨ya, yc, rfl, _⟩ := IsAt.shape HI.out
        obtain ⟨da, dc, hds, _⟩ := HD.out.shape
        rw [single_len] at hds
        subst hds
        have B3 : Hid (Below w.heap.size w wr) := B0.out.trans (HB.out.mono B0.out.size)
        have L3 := Lib.hid (L0.out.below HB.out (by have := L0.out.lt (by simp); omega))
        obtain ⟨d0, _⟩ := L3.out.get 0 rfl
        obtain ⟨d1, _⟩ := L3.out.get 1 rfl
        obtain ⟨d2, _⟩ := L3.out.get 2 rfl
        obtain ⟨d3, _⟩ := L3.out.get 3 rfl
        obtain ⟨d4, _⟩ := L3.out.get 4 rfl
        obtain ⟨d5, _⟩ := L3.out.get 5 rfl
        obtain ⟨d6, _⟩ := L3.out.get 6 rfl
        obtain ⟨d7, _⟩ := L3.out.get 7 rfl
        obtain ⟨d8, _⟩ := L3.out.get 8 rfl
        have CK2 := Lib.hid relCheck_2
        have hsm : ∀ d ∈ single ys, d.length ≤ 4096 := fun d hd => by
          obtain ⟨v, _, rfl⟩ := List.mem_map.1 hd; simp
        have hsl : (single ys).length ≤ 4096 := by rw [single_len]; omega
        have CM1 := Lib.hid (CM.out _ _ wr B3.out HD.out)
        clear CM
        cases hr : right16 kind rel C x y z coef vars vs (single ys) with
        | false =>
          rw [hr] at CM1
          clear hr CO CH CF hsm hsl
          go_wp2_with (first
            | (go_at_call 12; (with_reducible refine CM1.out.mono ?_); rintro e W4 ⟨rfl, bb⟩; have B4 := Lib.hid (B3.out.trans (bb.mono B3.out.size)); clear bb)
            | (go_at_call 13; (with_reducible refine (CK2.out _).mono ?_); rintro e W5 ⟨rfl, bb⟩; have B5 := Lib.hid (B4.out.trans (bb.mono B4.out.size)); clear bb))
          go_ret
          exact ⟨rfl, B5.out⟩
        | true =>
          rw [hr] at CM1
          obtain ⟨hm, hck⟩ := right16_ok hr
          have hf := chk_fine (PL.mk kind rel C x y z coef vars vs) (single ys) hck hsm
          have hyb : ∀ v ∈ ys, -200 ≤ v ∧ v ≤ 200 := fun v hv => by have := HY.out v hv; omega
          have hlin : (PL.mk kind rel C x y z coef vars vs).Lin ys.length := by have := hf.toLin; rwa [single_len] at this
          have hos := onceP_single hlin hyb
          have CO1 := Lib.hid (fun W (h : Below wr.heap.size wr W) => CO.out _ _ W (B3.out.trans (h.mono B3.out.size)) (HD.out.below h) hf hsl hsm)
          have CH1 := Lib.hid (fun W (h : Below wr.heap.size wr W) => CH.out _ ys _ W (B3.out.trans (h.mono B3.out.size)) (HI.out.below h) hf (by omega) hyb)
          have CF1 := Lib.hid (fun W (h : Below wr.heap.size wr W) => CF.out _ ys _ W (B3.out.trans (h.mono B3.out.size)) (HI.out.below h) hf (by omega) hyb)
          have CS := Lib.hid (fun va W (ha : DsAt W va (single ys)) (h : Below wr.heap.size wr W) => sameDs_c va _ _ _ W ha (HD.out.below h) hsl hsm)
          rw [hos] at CO1
          have hsd : decide (single ys = single ys) = true := by simp
          rw [hsd] at CS
          clear hos hlin hyb hf hm hck hr CO CH CF hsm hsl hsd
          generalize holdsP (PL.mk kind rel C x y z coef vars vs) ys = hb at *
          have HN := Lib.hid (single_len ys)
          cases hb with
          | false =>
            have CO2 : Hid (∀ W, Below wr.heap.size wr W → Calls Try.prog 8 #[.agg #[.int .i64 kind, .slice a0 coef.length c0, .slice a1 vars.length c1, .int .i64 rel, .int .i64 C, .int .i64 x, .int .i64 y, .int .i64 z, .slice a2 vs.length c2], .slice da ys.length dc] W fun e w' => e = .returned (.tuple #[.slice none 0 0, .bool false]) ∧ Below W.heap.size W w') := fun W h => (CO1.out W h).mono fun e w' hh => by
              obtain ⟨hb, ⟨ds', ao, cap, h1, he, _⟩ | ⟨_, he⟩⟩ := hh
              · simp at h1
              · exact ⟨he, hb⟩
            clear CO1 CS
            go_wp2_with (first
              | (go_at_call 12; (with_reducible refine CM1.out.mono ?_); rintro e W4 ⟨rfl, bb⟩; have P4 := Lib.hid bb; have L4 := Lib.hid (L3.out.below bb (by have := L3.out.lt (by simp); omega)); obtain ⟨e0, _⟩ := L4.out.get 0 rfl; obtain ⟨e1, _⟩ := L4.out.get 1 rfl; obtain ⟨e2, _⟩ := L4.out.get 2 rfl; obtain ⟨e3, _⟩ := L4.out.get 3 rfl; obtain ⟨e4, _⟩ := L4.out.get 4 rfl; obtain ⟨e5, _⟩ := L4.out.get 5 rfl; obtain ⟨e6, _⟩ := L4.out.get 6 rfl; obtain ⟨e7, _⟩ := L4.out.get 7 rfl; obtain ⟨e8, _⟩ := L4.out.get 8 rfl; clear bb)
              | (go_at_call 8; (with_reducible refine (CO2.out _ P4.out).mono ?_); rintro e W5 ⟨rfl, bb⟩; have P5 := Lib.hid (P4.out.trans (bb.mono P4.out.size)); have L5 := Lib.hid (L4.out.below bb (by have := L4.out.lt (by simp); omega)); obtain ⟨f0, _⟩ := L5.out.get 0 rfl; obtain ⟨f1, _⟩ := L5.out.get 1 rfl; obtain ⟨f2, _⟩ := L5.out.get 2 rfl; obtain ⟨f3, _⟩ := L5.out.get 3 rfl; obtain ⟨f4, _⟩ := L5.out.get 4 rfl; obtain ⟨f5, _⟩ := L5.out.get 5 rfl; obtain ⟨f6, _⟩ := L5.out.get 6 rfl; obtain ⟨f7, _⟩ := L5.out.get 7 rfl; obtain ⟨f8, _⟩ := L5.out.get 8 rfl; clear bb)
              | (go_at_call 16; (with_reducible refine (CF1.out _ P5.out).mono ?_); rintro e W6 ⟨rfl, bb⟩; have P6 := Lib.hid (P5.out.trans (bb.mono P5.out.size)); have L6 := Lib.hid (L5.out.below bb (by have := L5.out.lt (by simp); omega)); obtain ⟨g0, _⟩ := L6.out.get 0 rfl; obtain ⟨g1, _⟩ := L6.out.get 1 rfl; obtain ⟨g2, _⟩ := L6.out.get 2 rfl; obtain ⟨g3, _⟩ := L6.out.get 3 rfl; obtain ⟨g4, _⟩ := L6.out.get 4 rfl; obtain ⟨g5, _⟩ := L6.out.get 5 rfl; obtain ⟨g6, _⟩ := L6.out.get 6 rfl; obtain ⟨g7, _⟩ := L6.out.get 7 rfl; obtain ⟨g8, _⟩ := L6.out.get 8 rfl; clear bb)
              | (go_at_call 15; (with_reducible refine (CH1.out _ P6.out).mono ?_); rintro e W7 ⟨rfl, bb⟩; have P7 := Lib.hid (P6.out.trans (bb.mono P6.out.size)); clear bb))
            go_ret
            exact ⟨rfl, B3.out.trans (P7.out.mono B3.out.size)⟩
          | true =>
            have CO2 : Hid (∀ W, Below wr.heap.size wr W → Calls Try.prog 8 #[.agg #[.int .i64 kind, .slice a0 coef.length c0, .slice a1 vars.length c1, .int .i64 rel, .int .i64 C, .int .i64 x, .int .i64 y, .int .i64 z, .slice a2 vs.length c2], .slice da ys.length dc] W fun e w' => ∃ ao cap, e = .returned (.tuple #[.slice ao ys.length cap, .bool true]) ∧ DsAt w' (.slice ao ys.length cap) (single ys) ∧ Below W.heap.size W w') := fun W h => (CO1.out W h).mono fun e w' hh => by
              have h2 := hh.is
              rw [HN.out] at h2
              exact h2
            clear CO1
            go_wp2_with (first
              | (go_at_call 12; (with_reducible refine CM1.out.mono ?_); rintro e W4 ⟨rfl, bb⟩; have P4 := Lib.hid bb; have L4 := Lib.hid (L3.out.below bb (by have := L3.out.lt (by simp); omega)); obtain ⟨e0, _⟩ := L4.out.get 0 rfl; obtain ⟨e1, _⟩ := L4.out.get 1 rfl; obtain ⟨e2, _⟩ := L4.out.get 2 rfl; obtain ⟨e3, _⟩ := L4.out.get 3 rfl; obtain ⟨e4, _⟩ := L4.out.get 4 rfl; obtain ⟨e5, _⟩ := L4.out.get 5 rfl; obtain ⟨e6, _⟩ := L4.out.get 6 rfl; obtain ⟨e7, _⟩ := L4.out.get 7 rfl; obtain ⟨e8, _⟩ := L4.out.get 8 rfl; clear bb)
              | (go_at_call 8; (with_reducible refine (CO2.out _ P4.out).mono ?_); rintro e W5 ⟨a5, c5, rfl, d5, bb⟩; have D5 := Lib.hid d5; have P5 := Lib.hid (P4.out.trans (bb.mono P4.out.size)); have L5 := Lib.hid (L4.out.below bb (by have := L4.out.lt (by simp); omega)); obtain ⟨f0, _⟩ := L5.out.get 0 rfl; obtain ⟨f1, _⟩ := L5.out.get 1 rfl; obtain ⟨f2, _⟩ := L5.out.get 2 rfl; obtain ⟨f3, _⟩ := L5.out.get 3 rfl; obtain ⟨f4, _⟩ := L5.out.get 4 rfl; obtain ⟨f5, _⟩ := L5.out.get 5 rfl; obtain ⟨f6, _⟩ := L5.out.get 6 rfl; obtain ⟨f7, _⟩ := L5.out.get 7 rfl; obtain ⟨f8, _⟩ := L5.out.get 8 rfl; clear bb d5)
              | (go_at_call 16; (with_reducible refine (CF1.out _ P5.out).mono ?_); rintro e W6 ⟨rfl, bb⟩; have D6 := Lib.hid (D5.out.below bb); have P6 := Lib.hid (P5.out.trans (bb.mono P5.out.size)); have L6 := Lib.hid (L5.out.below bb (by have := L5.out.lt (by simp); omega)); obtain ⟨g0, _⟩ := L6.out.get 0 rfl; obtain ⟨g1, _⟩ := L6.out.get 1 rfl; obtain ⟨g2, _⟩ := L6.out.get 2 rfl; obtain ⟨g3, _⟩ := L6.out.get 3 rfl; obtain ⟨g4, _⟩ := L6.out.get 4 rfl; obtain ⟨g5, _⟩ := L6.out.get 5 rfl; obtain ⟨g6, _⟩ := L6.out.get 6 rfl; obtain ⟨g7, _⟩ := L6.out.get 7 rfl; obtain ⟨g8, _⟩ := L6.out.get 8 rfl; clear bb)
              | (go_at_call 15; (with_reducible refine (CH1.out _ P6.out).mono ?_); rintro e W7 ⟨rfl, bb⟩; have D7 := Lib.hid (D6.out.below bb); have P7 := Lib.hid (P6.out.trans (bb.mono P6.out.size)); clear bb)
              | (go_at_call 10; (with_reducible refine (CS.out _ _ D7.out P7.out).mono ?_); rintro e W8 ⟨rfl, bb⟩; have P8 := Lib.hid (P7.out.trans (bb.mono P7.out.size)); clear bb))
            go_ret
            exact ⟨rfl, B3.out.trans (P8.out.mono B3.out.size)⟩
    · have j1 : ¬ (ys.length : Int) < zs.length := by omega
      have HI : Hid (IsAt wr u6 ys) := SlAt.of_own HT.out.own
      have HD : Hid (DsAt wr u5 (single ys)) := HT.out.app.own.at
      clear HT
      obtain ⟨ya, yc, rfl, _⟩ := IsAt.shape HI.out
      obtain ⟨da, dc, hds, _⟩ := HD.out.shape
      rw [single_len] at hds
      subst hds
      have B3 : Hid (Below w.heap.size w wr) := B0.out.trans (HB.out.mono B0.out.size)
      have L3 := Lib.hid (L0.out.below HB.out (by have := L0.out.lt (by simp); omega))
      obtain ⟨d0, _⟩ := L3.out.get 0 rfl
      obtain ⟨d1, _⟩ := L3.out.get 1 rfl
      obtain ⟨d2, _⟩ := L3.out.get 2 rfl
      obtain ⟨d3, _⟩ := L3.out.get 3 rfl
      obtain ⟨d4, _⟩ := L3.out.get 4 rfl
      obtain ⟨d5, _⟩ := L3.out.get 5 rfl
      obtain ⟨d6, _⟩ := L3.out.get 6 rfl
      obtain ⟨d7, _⟩ := L3.out.get 7 rfl
      obtain ⟨d8, _⟩ := L3.out.get 8 rfl
      have CK2 := Lib.hid relCheck_2
      have hsm : ∀ d ∈ single ys, d.length ≤ 4096 := fun d hd => by
        obtain ⟨v, _, rfl⟩ := List.mem_map.1 hd; simp
      have hsl : (single ys).length ≤ 4096 := by rw [single_len]; omega
      have CM1 := Lib.hid (CM.out _ _ wr B3.out HD.out)
      clear CM
      cases hr : right16 kind rel C x y z coef vars vs (single ys) with
      | false =>
        rw [hr] at CM1
        clear hr CO CH CF hsm hsl
        go_wp2_with (first
          | (go_at_call 12; (with_reducible refine CM1.out.mono ?_); rintro e W4 ⟨rfl, bb⟩; have B4 := Lib.hid (B3.out.trans (bb.mono B3.out.size)); clear bb)
          | (go_at_call 13; (with_reducible refine (CK2.out _).mono ?_); rintro e W5 ⟨rfl, bb⟩; have B5 := Lib.hid (B4.out.trans (bb.mono B4.out.size)); clear bb))
        go_ret
        exact ⟨rfl, B5.out⟩
      | true =>
        rw [hr] at CM1
        obtain ⟨hm, hck⟩ := right16_ok hr
        have hf := chk_fine (PL.mk kind rel C x y z coef vars vs) (single ys) hck hsm
        have hyb : ∀ v ∈ ys, -200 ≤ v ∧ v ≤ 200 := fun v hv => by have := HY.out v hv; omega
        have hlin : (PL.mk kind rel C x y z coef vars vs).Lin ys.length := by have := hf.toLin; rwa [single_len] at this
        have hos := onceP_single hlin hyb
        have CO1 := Lib.hid (fun W (h : Below wr.heap.size wr W) => CO.out _ _ W (B3.out.trans (h.mono B3.out.size)) (HD.out.below h) hf hsl hsm)
        have CH1 := Lib.hid (fun W (h : Below wr.heap.size wr W) => CH.out _ ys _ W (B3.out.trans (h.mono B3.out.size)) (HI.out.below h) hf (by omega) hyb)
        have CF1 := Lib.hid (fun W (h : Below wr.heap.size wr W) => CF.out _ ys _ W (B3.out.trans (h.mono B3.out.size)) (HI.out.below h) hf (by omega) hyb)
        have CS := Lib.hid (fun va W (ha : DsAt W va (single ys)) (h : Below wr.heap.size wr W) => sameDs_c va _ _ _ W ha (HD.out.below h) hsl hsm)
        rw [hos] at CO1
        have hsd : decide (single ys = single ys) = true := by simp
        rw [hsd] at CS
        clear hos hlin hyb hf hm hck hr CO CH CF hsm hsl hsd
        generalize holdsP (PL.mk kind rel C x y z coef vars vs) ys = hb at *
        have HN := Lib.hid (single_len ys)
        cases hb with
        | false =>
          have CO2 : Hid (∀ W, Below wr.heap.size wr W → Calls Try.prog 8 #[.agg #[.int .i64 kind, .slice a0 coef.length c0, .slice a1 vars.length c1, .int .i64 rel, .int .i64 C, .int .i64 x, .int .i64 y, .int .i64 z, .slice a2 vs.length c2], .slice da ys.length dc] W fun e w' => e = .returned (.tuple #[.slice none 0 0, .bool false]) ∧ Below W.heap.size W w') := fun W h => (CO1.out W h).mono fun e w' hh => by
            obtain ⟨hb, ⟨ds', ao, cap, h1, he, _⟩ | ⟨_, he⟩⟩ := hh
            · simp at h1
            · exact ⟨he, hb⟩
          clear CO1 CS
          go_wp2_with (first
            | (go_at_call 12; (with_reducible refine CM1.out.mono ?_); rintro e W4 ⟨rfl, bb⟩; have P4 := Lib.hid bb; have L4 := Lib.hid (L3.out.below bb (by have := L3.out.lt (by simp); omega)); obtain ⟨e0, _⟩ := L4.out.get 0 rfl; obtain ⟨e1, _⟩ := L4.out.get 1 rfl; obtain ⟨e2, _⟩ := L4.out.get 2 rfl; obtain ⟨e3, _⟩ := L4.out.get 3 rfl; obtain ⟨e4, _⟩ := L4.out.get 4 rfl; obtain ⟨e5, _⟩ := L4.out.get 5 rfl; obtain ⟨e6, _⟩ := L4.out.get 6 rfl; obtain ⟨e7, _⟩ := L4.out.get 7 rfl; obtain ⟨e8, _⟩ := L4.out.get 8 rfl; clear bb)
            | (go_at_call 8; (with_reducible refine (CO2.out _ P4.out).mono ?_); rintro e W5 ⟨rfl, bb⟩; have P5 := Lib.hid (P4.out.trans (bb.mono P4.out.size)); have L5 := Lib.hid (L4.out.below bb (by have := L4.out.lt (by simp); omega)); obtain ⟨f0, _⟩ := L5.out.get 0 rfl; obtain ⟨f1, _⟩ := L5.out.get 1 rfl; obtain ⟨f2, _⟩ := L5.out.get 2 rfl; obtain ⟨f3, _⟩ := L5.out.get 3 rfl; obtain ⟨f4, _⟩ := L5.out.get 4 rfl; obtain ⟨f5, _⟩ := L5.out.get 5 rfl; obtain ⟨f6, _⟩ := L5.out.get 6 rfl; obtain ⟨f7, _⟩ := L5.out.get 7 rfl; obtain ⟨f8, _⟩ := L5.out.get 8 rfl; clear bb)
            | (go_at_call 16; (with_reducible refine (CF1.out _ P5.out).mono ?_); rintro e W6 ⟨rfl, bb⟩; have P6 := Lib.hid (P5.out.trans (bb.mono P5.out.size)); have L6 := Lib.hid (L5.out.below bb (by have := L5.out.lt (by simp); omega)); obtain ⟨g0, _⟩ := L6.out.get 0 rfl; obtain ⟨g1, _⟩ := L6.out.get 1 rfl; obtain ⟨g2, _⟩ := L6.out.get 2 rfl; obtain ⟨g3, _⟩ := L6.out.get 3 rfl; obtain ⟨g4, _⟩ := L6.out.get 4 rfl; obtain ⟨g5, _⟩ := L6.out.get 5 rfl; obtain ⟨g6, _⟩ := L6.out.get 6 rfl; obtain ⟨g7, _⟩ := L6.out.get 7 rfl; obtain ⟨g8, _⟩ := L6.out.get 8 rfl; clear bb)
            | (go_at_call 15; (with_reducible refine (CH1.out _ P6.out).mono ?_); rintro e W7 ⟨rfl, bb⟩; have P7 := Lib.hid (P6.out.trans (bb.mono P6.out.size)); clear bb))
          go_ret
          exact ⟨rfl, B3.out.trans (P7.out.mono B3.out.size)⟩
        | true =>
          have CO2 : Hid (∀ W, Below wr.heap.size wr W → Calls Try.prog 8 #[.agg #[.int .i64 kind, .slice a0 coef.length c0, .slice a1 vars.length c1, .int .i64 rel, .int .i64 C, .int .i64 x, .int .i64 y, .int .i64 z, .slice a2 vs.length c2], .slice da ys.length dc] W fun e w' => ∃ ao cap, e = .returned (.tuple #[.slice ao ys.length cap, .bool true]) ∧ DsAt w' (.slice ao ys.length cap) (single ys) ∧ Below W.heap.size W w') := fun W h => (CO1.out W h).mono fun e w' hh => by
            have h2 := hh.is
            rw [HN.out] at h2
            exact h2
          clear CO1
          go_wp2_with (first
            | (go_at_call 12; (with_reducible refine CM1.out.mono ?_); rintro e W4 ⟨rfl, bb⟩; have P4 := Lib.hid bb; have L4 := Lib.hid (L3.out.below bb (by have := L3.out.lt (by simp); omega)); obtain ⟨e0, _⟩ := L4.out.get 0 rfl; obtain ⟨e1, _⟩ := L4.out.get 1 rfl; obtain ⟨e2, _⟩ := L4.out.get 2 rfl; obtain ⟨e3, _⟩ := L4.out.get 3 rfl; obtain ⟨e4, _⟩ := L4.out.get 4 rfl; obtain ⟨e5, _⟩ := L4.out.get 5 rfl; obtain ⟨e6, _⟩ := L4.out.get 6 rfl; obtain ⟨e7, _⟩ := L4.out.get 7 rfl; obtain ⟨e8, _⟩ := L4.out.get 8 rfl; clear bb)
            | (go_at_call 8; (with_reducible refine (CO2.out _ P4.out).mono ?_); rintro e W5 ⟨a5, c5, rfl, d5, bb⟩; have D5 := Lib.hid d5; have P5 := Lib.hid (P4.out.trans (bb.mono P4.out.size)); have L5 := Lib.hid (L4.out.below bb (by have := L4.out.lt (by simp); omega)); obtain ⟨f0, _⟩ := L5.out.get 0 rfl; obtain ⟨f1, _⟩ := L5.out.get 1 rfl; obtain ⟨f2, _⟩ := L5.out.get 2 rfl; obtain ⟨f3, _⟩ := L5.out.get 3 rfl; obtain ⟨f4, _⟩ := L5.out.get 4 rfl; obtain ⟨f5, _⟩ := L5.out.get 5 rfl; obtain ⟨f6, _⟩ := L5.out.get 6 rfl; obtain ⟨f7, _⟩ := L5.out.get 7 rfl; obtain ⟨f8, _⟩ := L5.out.get 8 rfl; clear bb d5)
            | (go_at_call 16; (with_reducible refine (CF1.out _ P5.out).mono ?_); rintro e W6 ⟨rfl, bb⟩; have D6 := Lib.hid (D5.out.below bb); have P6 := Lib.hid (P5.out.trans (bb.mono P5.out.size)); have L6 := Lib.hid (L5.out.below bb (by have := L5.out.lt (by simp); omega)); obtain ⟨g0, _⟩ := L6.out.get 0 rfl; obtain ⟨g1, _⟩ := L6.out.get 1 rfl; obtain ⟨g2, _⟩ := L6.out.get 2 rfl; obtain ⟨g3, _⟩ := L6.out.get 3 rfl; obtain ⟨g4, _⟩ := L6.out.get 4 rfl; obtain ⟨g5, _⟩ := L6.out.get 5 rfl; obtain ⟨g6, _⟩ := L6.out.get 6 rfl; obtain ⟨g7, _⟩ := L6.out.get 7 rfl; obtain ⟨g8, _⟩ := L6.out.get 8 rfl; clear bb)
            | (go_at_call 15; (with_reducible refine (CH1.out _ P6.out).mono ?_); rintro e W7 ⟨rfl, bb⟩; have D7 := Lib.hid (D6.out.below bb); have P7 := Lib.hid (P6.out.trans (bb.mono P6.out.size)); clear bb)
            | (go_at_call 10; (with_reducible refine (CS.out _ _ D7.out P7.out).mono ?_); rintro e W8 ⟨rfl, bb⟩; have P8 := Lib.hid (P7.out.trans (bb.mono P7.out.size)); clear bb))
          go_ret
          exact ⟨rfl, B3.out.trans (P8.out.mono B3.out.size)⟩
end Go.Proofs.Ytajooiainglpmaa
namespace Go.Proofs.Ytajooiainglpmaa

def pigV (n : Nat) : List Int := (List.range n).map Int.ofNat
def pigP (n : Nat) : PL := ⟨3, 0, 0, 0, 0, 0, [], [], pigV (n + 1)⟩
theorem pigV_len (n : Nat) : (pigV n).length = n := by simp [pigV]
theorem pigV_at {n i : Nat} (h : i < n) : (pigV n).getD i 0 = (i : Int) := by
  unfold pigV
  rw [List.getD_eq_getElem?_getD, List.getElem?_map, List.getElem?_range h]; rfl
theorem pigV_mem {n : Nat} {v : Int} : v ∈ pigV n ↔ 0 ≤ v ∧ v.toNat < n := by
  unfold pigV
  rw [List.mem_map]
  constructor
  · rintro ⟨a, h, rfl⟩
    rw [List.mem_range] at h
    exact ⟨Int.natCast_nonneg _, by simpa using h⟩
  · rintro ⟨h1, h2⟩
    exact ⟨v.toNat, List.mem_range.2 h2, Int.toNat_of_nonneg h1⟩
theorem pigV_snoc (n : Nat) : pigV (n + 1) = pigV n ++ [(n : Int)] := by unfold pigV; rw [List.range_succ, List.map_append]; rfl

theorem diff_all (was : Ds) (n j : Nat) (x : Int) (hj : j ≤ n) :
    (diffTo (pigV (n + 1)) was (n + 1)).all (fun k => !decide (k.1.toNat = j) || memL k.2 x) = true ↔
      ∀ i, i ≤ n → i ≠ j → sizeL (norm (was.getD i [])) = 1 → memL (complL (was.getD i [])) x = true := by
  unfold diffTo diffAt
  rw [pigV_len, List.all_eq_true]
  have hd : ∀ i, i ≤ n → domOf was ((pigV (n + 1)).getD i 0) = was.getD i [] := fun i hi => by
    rw [pigV_at (by omega)]; unfold domOf; simp
  constructor
  · intro h i hi hij hs
    have := h ((j : Int), complL (was.getD i [])) (by
      rw [List.mem_flatMap]
      refine ⟨i, List.mem_range.2 (by omega), ?_⟩
      rw [hd i hi, if_pos hs, List.mem_flatMap]
      refine ⟨j, List.mem_range.2 (by omega), ?_⟩
      rw [if_neg (fun e => hij e.symm), pigV_at (by omega)]
      simp)
    simpa using this
  · intro h k hk
    rw [List.mem_flatMap] at hk
    obtain ⟨i, hi, hk⟩ := hk
    rw [List.mem_range] at hi
    rw [hd i (by omega)] at hk
    split at hk
    · rename_i hs
      rw [List.mem_flatMap] at hk
      obtain ⟨m, hm, hk⟩ := hk
      rw [List.mem_range] at hm
      split at hk
      · cases hk
      · rename_i hmi
        rw [List.mem_singleton, pigV_at hm] at hk
        subst hk
        by_cases e : m = j
        · subst e
          have := h i (by omega) (fun e => hmi e.symm) hs
          dsimp only
          rw [this, Bool.or_true]
        · simp [e]
    · cases hk

def takenL (vs : List Int) : List Rg := vs.map fun v => (v, v)
theorem taken_mem (vs : List Int) (x : Int) : memL (takenL vs) x = vs.contains x := by
  induction vs with
  | nil => rfl
  | cons v vs ih =>
    unfold takenL at ih ⊢
    rw [List.map_cons, List.contains_cons, ← ih]
    rw [Bool.eq_iff_iff]
    simp [memL]
    constructor
    · rintro (⟨h1, h2⟩ | h)
      · left; omega
      · right; exact h
    · rintro (h | h)
      · left; omega
      · right; exact h
theorem minus_normal (a b : List Rg) : Normal (minusL a b) := canon_normal _
theorem minus_mem (a b : List Rg) (x : Int) (h : inD x = true) : memL (minusL a b) x = (memL a x && !memL b x) := by
  show memL (canon _) x = _
  unfold inD at h
  rw [canon_mem, h, Bool.true_and]

theorem pig_at (vs : List Int) (d : List Rg) {j : Nat} (h : j < vs.length) : (single vs ++ [d]).getD j [] = [(vs.getD j 0, vs.getD j 0)] := by
  rw [List.getD_eq_getElem?_getD, List.getElem?_append_left (by rw [single_len]; exact h), ← List.getD_eq_getElem?_getD, single_at h]
theorem pig_last (vs : List Int) (d : List Rg) : (single vs ++ [d]).getD vs.length [] = d := by
  rw [List.getD_eq_getElem?_getD, List.getElem?_append_right (by rw [single_len]; exact Nat.le_refl _), single_len]; simp
theorem pig_allN {vs : List Int} {d : List Rg} (h : ∀ v ∈ vs, -200 ≤ v ∧ v ≤ 200) (hd : Normal d) : AllN (single vs ++ [d]) := fun j => by
  by_cases h1 : j < vs.length
  · rw [pig_at _ _ h1]
    exact one_normal (h _ (by rw [List.getD_eq_getElem?_getD, List.getElem?_eq_getElem h1]; exact List.getElem_mem h1))
  · by_cases h2 : j = vs.length
    · subst h2; rw [pig_last]; exact hd
    · rw [List.getD_eq_getElem?_getD, List.getElem?_eq_none (by simp [single_len]; omega)]
      exact trivial
theorem pig_once (vs : List Int) (m : Int) (hn : vs.Nodup) (hv : ∀ v ∈ vs, 0 ≤ v ∧ v ≤ 200) (hm : 0 ≤ m ∧ m ≤ 200) :
    onceP (pigP vs.length) (single vs ++ [[(0, m)]]) = if minusL [(0, m)] (takenL vs) = [] then none else some (single vs ++ [minusL [(0, m)] (takenL vs)]) := by
  have hv' : ∀ v ∈ vs, -200 ≤ v ∧ v ≤ 200 := fun v h => by have := hv v h; omega
  have hdn : Normal [((0 : Int), m)] := ⟨by omega, hm.1, hm.2, trivial⟩
  have hdm : ∀ x, memL [((0 : Int), m)] x = true ↔ 0 ≤ x ∧ x ≤ m := fun x => by simp [memL]
  have hd1 : sizeL [((0 : Int), m)] = 1 → m = 0 := fun h => by simp [sizeL] at h; omega
  have hdne : [((0 : Int), m)] ≠ [] := by simp
  generalize [((0 : Int), m)] = d at *
  have hN := pig_allN hv' hdn
  have hW : (single vs ++ [d]).map norm = single vs ++ [d] := by rw [List.map_append, single_norm hv', List.map_cons, List.map_nil, norm_of_normal hdn]
  have hall : (pigP vs.length).all = pigV (vs.length + 1) := rfl
  have hnil : anyNil (pigV (vs.length + 1)) (single vs ++ [d]) = false := anyNil_false.2 (fun v hv => by
    obtain ⟨h1, h2⟩ := pigV_mem.1 hv
    unfold domOf
    by_cases h : v.toNat < vs.length
    · rw [pig_at _ _ h]; simp
    · rw [show v.toNat = vs.length by omega, pig_last]; exact hdne)
  have hnk : narrowKs (pigP vs.length) (single vs ++ [d]) = some (diffTo (pigV (vs.length + 1)) (single vs ++ [d]) (vs.length + 1)) := by unfold narrowKs pigP; simp [pigV_len]
  unfold onceP
  rw [hW, hall, if_neg (by rw [hnil]; simp), hnk]
  dsimp only
  have hlen : (single vs ++ [d]).length = vs.length + 1 := by simp [single_len]
  have hmem : ∀ j, j ≤ vs.length → ∀ x, memL ((keepsL (diffTo (pigV (vs.length + 1)) (single vs ++ [d]) (vs.length + 1)) (single vs ++ [d])).getD j []) x = true ↔ memL ((single vs ++ [d]).getD j []) x = true ∧ ∀ i, i ≤ vs.length → i ≠ j → sizeL (norm ((single vs ++ [d]).getD i [])) = 1 → memL (complL ((single vs ++ [d]).getD i [])) x = true := fun j hj x => by
    rw [keepsL_mem x j _ hN (by omega), Bool.and_eq_true, diff_all _ _ _ _ hj]
  generalize diffTo (pigV (vs.length + 1)) (single vs ++ [d]) (vs.length + 1) = ks at *
  have hat : ∀ i, (hi : i < vs.length) → vs.getD i 0 = vs[i] := fun i hi => by rw [List.getD_eq_getElem?_getD, List.getElem?_eq_getElem hi]; rfl
  have hone : ∀ i, i < vs.length → sizeL (norm ((single vs ++ [d]).getD i [])) = 1 := fun i hi => by
    rw [pig_at _ _ hi, hat i hi, norm_of_normal (one_normal (hv' _ (List.getElem_mem hi)))]
    simp [sizeL]
  have hcm : ∀ e x, memL (complL e) x = true ↔ (-200 ≤ x ∧ x ≤ 200) ∧ memL e x = false := fun e x => by
    show memL (canon _) x = true ↔ _
    rw [canon_mem]; simp
  have hmi : ∀ x, memL (minusL d (takenL vs)) x = true ↔ (-200 ≤ x ∧ x ≤ 200) ∧ memL d x = true ∧ x ∉ vs := fun x => by
    show memL (canon _) x = true ↔ _
    rw [canon_mem, taken_mem]; simp
  have hlast : (keepsL ks (single vs ++ [d])).getD vs.length [] = minusL d (takenL vs) := by
    refine normal_unique (allN_keeps ks hN _) (minus_normal _ _) (fun x => ?_)
    rw [Bool.eq_iff_iff, hmem _ (Nat.le_refl _), pig_last, hmi]
    constructor
    · rintro ⟨h1, h2⟩
      have := (hdm x).1 h1
      refine ⟨by omega, h1, fun hx => ?_⟩
      obtain ⟨i, hi, rfl⟩ := List.getElem_of_mem hx
      have h3 := ((hcm _ _).1 (h2 i (by omega) (by omega) (hone i hi))).2
      rw [pig_at _ _ hi, hat i hi, one_mem] at h3
      simp at h3
    · rintro ⟨h1, h2, h3⟩
      refine ⟨h2, fun i hi hij _ => (hcm _ _).2 ⟨h1, ?_⟩⟩
      have hi' : i < vs.length := by omega
      rw [pig_at _ _ hi', hat i hi', one_mem]
      simp
      rintro rfl
      exact h3 (List.getElem_mem hi')
  by_cases hT : minusL d (takenL vs) = []
  · rw [if_pos hT, if_pos]
    unfold anyNil
    rw [List.any_eq_true]
    refine ⟨(vs.length : Int), pigV_mem.2 ⟨by omega, by simp⟩, ?_⟩
    unfold domOf
    rw [show ((vs.length : Int)).toNat = vs.length by simp, hlast, hT]; simp
  · rw [if_neg hT]
    have hres : keepsL ks (single vs ++ [d]) = single vs ++ [minusL d (takenL vs)] := by
      refine ds_ext (by rw [keepsL_len]; simp [single_len]) (allN_keeps ks hN) (pig_allN hv' (minus_normal _ _)) (fun j hj x => ?_)
      rw [keepsL_len, hlen] at hj
      by_cases hjn : j < vs.length
      · rw [Bool.eq_iff_iff, hmem j (by omega), pig_at _ _ hjn, pig_at _ _ hjn, hat j hjn, one_mem, decide_eq_true_eq]
        constructor
        · exact fun h => h.1
        · rintro rfl
          refine ⟨rfl, fun i hi hij hs => (hcm _ _).2 ⟨hv' _ (List.getElem_mem hjn), ?_⟩⟩
          by_cases hin : i < vs.length
          · rw [pig_at _ _ hin, hat i hin, one_mem]
            simp
            intro e
            rcases Nat.lt_or_gt_of_ne hij with h | h
            · exact List.pairwise_iff_getElem.1 hn i j hin hjn h e.symm
            · exact List.pairwise_iff_getElem.1 hn j i hjn hin h e
          · obtain rfl : i = vs.length := by omega
            rw [pig_last, norm_of_normal hdn] at hs
            have hm0 := hd1 hs
            rw [pig_last]
            rw [Bool.eq_false_iff]
            intro hmj
            have hj0 := (hdm _).1 hmj
            obtain ⟨y, hy⟩ := normal_some (minus_normal _ _) hT
            obtain ⟨_, hy1, hy2⟩ := (hmi y).1 hy
            have := (hdm _).1 hy1
            have e : y = vs[j] := by omega
            exact hy2 (e ▸ List.getElem_mem hjn)
      · obtain rfl : j = vs.length := by omega
        rw [hlast, pig_last]
    rw [hres, if_neg]
    rw [Bool.not_eq_true, anyNil_false]
    intro v hv
    obtain ⟨h1, h2⟩ := pigV_mem.1 hv
    unfold domOf
    by_cases h : v.toNat < vs.length
    · rw [pig_at _ _ h]; simp
    · rw [show v.toNat = vs.length by omega, pig_last]; exact hT
end Go.Proofs.Ytajooiainglpmaa
namespace Go.Proofs.Ytajooiainglpmaa
open Go.RowKit

/-- append of two cells, telling which blocks stay: those of what is appended, too -/
theorem wpList_append2S {P : Program} {ops : Array Oper} {rest : List Oper} {o : Oper} {a : Act} {w : World} {Q : Exit → Act → World → Prop} (hgd : o.guard = none) (s x : Operand) (t : TypeId)
    (ho : o.op = .call { callee := .builtin .append, args := #[s, x], argTypes := #[t, t] })
    (base : Nat) (e : TypeId) (i : TypeInfo) (z : Value) (bytes : Nat) (ht : P.underlying t = some (.slice e)) (hi : P.info? e = some i) (hz : i.zero = some z)
    (hsize : i.size = 2) (hby : i.bytes = bytes) (hzs : z.cells.size = 2)
    (v : Value) (n : Nat) (xs : List Value) (hs : a.eval s = v) (hown : w.ownsRow base e 2 v n xs) {e' : TypeId}
    (u1 u2 : Value) {g0 : Nat} (hx : a.eval x = .slice (some ⟨g0, 0, none⟩) 1 1) (hg : w.heap.size = g0) (h1 : u1.oneCell' = true) (h2 : u2.oneCell' = true)
    (hbytes : (n + 1) * bytes ≤ 140737488355328 ∧ n + 1 ≤ 140737488355328) (hbase : base ≤ w.heap.size)
    (h : ∀ g cap w', w'.ownsRow base e 2 (.slice (some ⟨g, 0, none⟩) (n + 1) cap) (n + 1) (xs ++ [u1, u2]) → Below base w w' → KeepsBut (w.alloc (.cells #[u1, u2] e')) w' v → (v.ownBlock = some g ∨ (w.alloc (.cells #[u1, u2] e')).heap.size ≤ g) → (w.alloc (.cells #[u1, u2] e')).heap.size ≤ w'.heap.size → wpList P ops Q rest (a.put o.dst (.slice (some ⟨g, 0, none⟩) (n + 1) cap)) w') :
    wpList P ops Q (o :: rest) a (w.alloc (.cells #[u1, u2] e')) := by
  subst hg
  refine wpList_append_lies _ hgd s x t ho base e i z 2 bytes ht hi hz hsize hby hzs (by decide) v n xs hs (hown.alloc _) ⟨w.heap.size, 0, none⟩ 1 1 [u1, u2] hx rfl ?_ ?_ (by decide) ?_ hbytes.1 (by simp; omega) _ rfl ?_
  · intro j y hj
    match j, hj with
    | 0, hj => simp at hj; subst hj; simp [Addr.add]
    | 1, hj => simp at hj; subst hj; simp [Addr.add]
  · intro y hy; simp at hy; rcases hy with rfl | rfl <;> assumption
  · unfold maxLen; omega
  · intro g cap w' r1 r2 r3 _
    refine h g cap w' r1 (below_grown hbase r2 (ownBlock_ge hown)) (fun b hb hne => r2.block b hb (fun he => hne he.symm)) ?_ r2.size
    rcases r3 with h3 | h3
    · exact .inl h3
    · right; rw [h3]; exact Nat.le_refl _

theorem apart_far {x v : Value} {N g n c : Nat} (h : Apart x v) (hx : ∀ b, x.ownBlock = some b → b < N) (hg : v.ownBlock = some g ∨ N ≤ g) : Apart x (.slice (some ⟨g, 0, none⟩) n c) := fun b hb he => by
  have hb' : g = b := by simpa [Value.ownBlock] using he
  subst hb'
  rcases hg with h1 | h1
  · exact h g hb h1
  · have := hx g hb; omega
theorem TwoL.kept {w w' : World} {B : Nat} {o1 o2 v : Value} {ds : Ds} {ys : List Int} {us : List Value} (h : TwoL w B o1 o2 ds ys us) (hk : KeepsBut w w' v) (h1 : Apart o1 v) (h2 : Apart o2 v) (hs : ∀ j, (hj : j < ds.length) → ∃ u, us[j]? = some u ∧ (ds[j] ≠ [] → Apart u v)) :
    TwoL w' B o1 o2 ds ys us :=
  ⟨⟨h.app.1, own_kept h.app.2.1 hk h1, fun j hj => by
    obtain ⟨u, e, r, c⟩ := h.app.2.2 j hj
    obtain ⟨u', e', c'⟩ := hs j hj
    rw [e] at e'; cases e'
    exact ⟨u, e, r.keptBut hk c', c⟩⟩, own_kept h.own hk h2, h.ap, h.aps⟩

/-- variables with one integer each, their places, and what is taken -/
structure ThreeL (w : World) (B : Nat) (o6 o7 o8 : Value) (vs : List Int) (us : List Value) : Prop where
  two : TwoL w B o6 o7 (single vs) (pigV vs.length) us
  tak : w.ownsRow B 28 2 o8 vs.length (cellsR (takenL vs))
  a6 : Apart o6 o8
  a7 : Apart o7 o8
  aps : ∀ j, (hj : j < (single vs).length) → ∃ u, us[j]? = some u ∧ ((single vs)[j] ≠ [] → Apart u o8)
theorem ThreeL.below {w w' : World} {B : Nat} {o6 o7 o8 : Value} {vs : List Int} {us : List Value} (h : ThreeL w B o6 o7 o8 vs us) (hb : Below w.heap.size w w') : ThreeL w' B o6 o7 o8 vs us :=
  ⟨h.two.below hb, own_below h.tak hb, h.a6, h.a7, h.aps⟩
theorem taken_snoc (vs : List Int) (v : Int) : takenL (vs ++ [v]) = takenL vs ++ [(v, v)] := by simp [takenL]
theorem ThreeL.step {wr w1 w2 w3 : World} {B g6 g7 g8 c6 c7 c8 : Nat} {o6 o7 o8 : Value} {vs : List Int} {us : List Value} {v : Int} {T : TypeId} (h : ThreeL wr B o6 o7 o8 vs us)
    (own8 : w1.ownsRow B 28 2 (.slice (some ⟨g8, 0, none⟩) (vs.length + 1) c8) (vs.length + 1) (cellsR (takenL vs) ++ [.int .i64 v, .int .i64 v])) (k8 : KeepsBut (wr.alloc (.cells #[.int .i64 v, .int .i64 v] T)) w1 o8) (h8 : o8.ownBlock = some g8 ∨ (wr.alloc (.cells #[.int .i64 v, .int .i64 v] T)).heap.size ≤ g8)
    (own6 : w2.ownsRow B 25 1 (.slice (some ⟨g6, 0, none⟩) (vs.length + 1) c6) (vs.length + 1) (us ++ [.slice (some ⟨wr.heap.size, 0, none⟩) 1 1])) (k6 : KeepsBut w1 w2 o6) (h6 : o6.ownBlock = some g6 ∨ w1.heap.size ≤ g6) (l12 : w1.heap.size ≤ w2.heap.size)
    (own7 : w3.ownsRow B 3 1 (.slice (some ⟨g7, 0, none⟩) (vs.length + 1) c7) (vs.length + 1) ((pigV vs.length).map (Value.int .i64) ++ [.int .i64 vs.length])) (k7 : KeepsBut w2 w3 o7) (h7 : o7.ownBlock = some g7 ∨ w2.heap.size ≤ g7) :
    ThreeL w3 B (.slice (some ⟨g6, 0, none⟩) (vs.length + 1) c6) (.slice (some ⟨g7, 0, none⟩) (vs.length + 1) c7) (.slice (some ⟨g8, 0, none⟩) (vs.length + 1) c8) (vs ++ [v]) (us ++ [.slice (some ⟨wr.heap.size, 0, none⟩) 1 1]) := by
  have hs : (single vs).length = vs.length := single_len vs
  have hwd : (wr.alloc (.cells #[.int .i64 v, .int .i64 v] T)).heap.size = wr.heap.size + 1 := by simp
  rw [hwd] at h8
  have t1 := (h.two.below ((Below.refl _ _).alloc (Nat.le_refl _) (.cells #[.int .i64 v, .int .i64 v] T))).kept k8 h.a6 h.a7 h.aps
  have hdv : ∀ b, (Value.slice (some ⟨wr.heap.size, 0, none⟩) 1 1).ownBlock = some b → wr.heap.size ≤ b := fun b hb => by simp [Value.ownBlock] at hb; omega
  have r1 := (rgAt_lit2 wr (v, v) T).keptBut k8 (fun _ => apart_made h.tak hdv)
  have b6 : ∀ b, o6.ownBlock = some b → b < wr.heap.size := fun b hb => (h.two.app.2.1.lt b hb).2
  have b7 : ∀ b, o7.ownBlock = some b → b < wr.heap.size := fun b hb => (h.two.own.lt b hb).2
  have b8 : ∀ b, o8.ownBlock = some b → b < wr.heap.size := fun b hb => (h.tak.lt b hb).2
  have f6 : Apart o6 (.slice (some ⟨g8, 0, none⟩) (vs.length + 1) c8) := apart_far h.a6 (fun b hb => by have := b6 b hb; omega) h8
  have f7 : Apart o7 (.slice (some ⟨g8, 0, none⟩) (vs.length + 1) c8) := apart_far h.a7 (fun b hb => by have := b7 b hb; omega) h8
  have l8 : g8 < w1.heap.size := (own8.lt g8 rfl).2
  have t2 := t1.sets (g := g6) (cap := c6) (d := [(v, v)]) r1 (fun _ => apart_made h.two.app.2.1 hdv) (fun _ => apart_made h.two.own hdv) (by rw [hs]; exact own6) k6 h6
  rw [hs] at t2
  have tak2 := own_kept own8 k6 f6.symm
  have g68 : Apart (.slice (some ⟨g8, 0, none⟩) (vs.length + 1) c8) (.slice (some ⟨g6, 0, none⟩) (vs.length + 1) c6) := apart_far f6.symm (fun b hb => by simp [Value.ownBlock] at hb; omega) h6
  have hpl : (pigV vs.length).length = vs.length := pigV_len _
  have t3 := t2.ints (g := g7) (cap := c7) (vs.length : Int) (by rw [hpl]; exact own7) k7 h7
  rw [hpl] at t3
  have tak3 := own_kept tak2 k7 f7.symm
  have g78 : Apart (.slice (some ⟨g8, 0, none⟩) (vs.length + 1) c8) (.slice (some ⟨g7, 0, none⟩) (vs.length + 1) c7) := apart_far f7.symm (fun b hb => by simp [Value.ownBlock] at hb; omega) h7
  refine ⟨?_, ?_, g68.symm, g78.symm, fun j hj => ?_⟩
  · rw [single_snoc, List.length_append, List.length_singleton, pigV_snoc]; exact t3
  · rw [taken_snoc, List.length_append, List.length_singleton, cellsR_append]; exact tak3
  · rw [single_len, List.length_append, List.length_singleton] at hj
    have hus : us.length = vs.length := by have := h.two.app.1; omega
    by_cases hjl : j < vs.length
    · obtain ⟨u, e, c⟩ := h.aps j (by omega)
      obtain ⟨u', e', r, _⟩ := h.two.app.2.2 j (by omega)
      rw [e] at e'; cases e'
      refine ⟨u, by rw [List.getElem?_append_left (by omega)]; exact e, fun hne => ?_⟩
      have hne' : (single vs)[j]'(by omega) ≠ [] := by simp [single]
      exact apart_far (c hne') (fun b hb => by have := r.blk hne' b hb; omega) h8
    · obtain rfl : j = vs.length := by omega
      refine ⟨.slice (some ⟨wr.heap.size, 0, none⟩) 1 1, by rw [List.getElem?_append_right (by omega), hus]; simp, fun _ b hb he => ?_⟩
      have hb' : wr.heap.size = b := by simpa [Value.ownBlock] using hb
      have he' : g8 = b := by simpa [Value.ownBlock] using he
      rcases h8 with h1 | h1
      · have := b8 g8 h1; omega
      · omega
theorem ThreeL.taken {w : World} {B : Nat} {o6 o7 o8 : Value} {vs : List Int} {us : List Value} (h : ThreeL w B o6 o7 o8 vs us) : RgAt w o8 (takenL vs) := by
  have := SlAt.of_own h.tak
  rw [show vs.length = (takenL vs).length by simp [takenL]] at this
  exact this
end Go.Proofs.Ytajooiainglpmaa
