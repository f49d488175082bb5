/-
  The reference's Not, sure, Says of layer 15, walked.
-/
import Derived.Test.YtaekdgikgbdnnaaGreatKonce6
import Derived.Test.YtaekdgikgbdnnaaGreatKlin6
namespace Go.Proofs.YtaekdgikgbdnnaaGreat
section
open Go.RowKit
set_option maxRecDepth 100000
set_option maxHeartbeats 4800000
theorem refNot_c (va vb:Value) (rel C:Int) (coef vars:List Int) (w:World) (h0:IsAt w va coef) (h1:IsAt w vb vars) (hl0:coef.length<=16) (hll:coef.length=vars.length) (hr:rel=1\/rel=2\/rel=3)
  (hC:-1099511627777<=C/\C<=1099511627777) (hcb:∀ c∈coef,-100000<=c/\c<=100000) :
  Calls Tryz.prog 95 #[.agg #[va,vb,.int .i64 rel,.int .i64 C]] w fun e w'=>∃ v0 v1,e=.returned (.agg #[v0,v1,.int .i64 (notRel rel),.int .i64 (notC rel C)])/\IsAt w' v0 (notCoef rel coef)/\IsAt w' v1 vars/\Below w.heap.size w w'/\(∀ b,v1.ownBlock=some b->w.heap.size<=b)/\∀ b,v0.ownBlock=some b->w.heap.size<=b:=by
 obtain ⟨a0,c0,rfl,_⟩:=IsAt.shape h0
 obtain ⟨a1,c1,rfl,_⟩:=IsAt.shape h1
 have HZ:Hid (∀ o o2,Below w.heap.size w ((w.alloc o).alloc o2)):=fun o o2=>((Below.refl _ _).alloc (rN _) o).alloc (by simp) o2
 have CW0:Hid (∀ W,Below w.heap.size w W->Calls Tryz.prog 105 #[.agg #[.slice a0 coef.length c0,.slice a1 vars.length c1,.int .i64 rel,.int .i64 C],.int .i64 (-1)] W fun e w'=>∃ v0 v1,e=.returned (.agg #[v0,v1,.int .i64 rel,.int .i64 C]) /\
   Below W.heap.size W w'/\(∃ B,W.heap.size<=B/\w'.ownsRow B 3 1 v0 coef.length (coef.map (Value.int .i64))/\w'.ownsRow B 3 1 v1 vars.length (vars.map (Value.int .i64)))/\Apart v0 v1):=fun W h =>
  (without_o _ _ rel C (-1) coef vars W (h0.below h) (h1.below h) hll hl0).mono fun e w' ⟨v0,v1,q1,_,_,q2,q3,q4⟩=>⟨v0,v1,q1,q2,by rw [butL_none,butL_none] at q3;exact q3,q4⟩
 have HCB:=hD hcb
 clear h0 h1 hcb hll
 obtain ⟨Wa,hWa⟩:∃ Wa,Wa=(w.alloc (.cells #[.slice a0 coef.length c0,.slice a1 vars.length c1,.int .i64 rel,.int .i64 C] 65)).alloc (.cells #[.slice none 0 0,.slice none 0 0,.int .i64 0,.int .i64 0] 65):=⟨_,rfl⟩
 have HBL:Hid (BoxL Wa w.heap.size [.slice a0 coef.length c0,.slice a1 vars.length c1,.int .i64 rel,.int .i64 C]):=by
  rw [hWa]
  exact (BoxL.mk' w #[.slice a0 coef.length c0,.slice a1 vars.length c1,.int .i64 rel,.int .i64 C] 65).below (bA _) (by simp)
 have HBR:Hid (BoxL Wa (w.heap.size+1) [.slice none 0 0,.slice none 0 0,.int .i64 0,.int .i64 0]):=by
  have h:=BoxL.mk' (w.alloc (.cells #[.slice a0 coef.length c0,.slice a1 vars.length c1,.int .i64 rel,.int .i64 C] 65)) #[.slice none 0 0,.slice none 0 0,.int .i64 0,.int .i64 0] 65
  rw [show (w.alloc (.cells #[.slice a0 coef.length c0,.slice a1 vars.length c1,.int .i64 rel,.int .i64 C] 65)).heap.size=w.heap.size+1 by simp] at h
  rw [hWa];exact h
 have HBW:Hid (Below w.heap.size w Wa):=by rw [hWa];exact HZ.out _ _
 have hsz:Wa.heap.size=w.heap.size+1+1:=by rw [hWa];simp
 have HSZ:=hD hsz
 have HSW:Hid (∀ W',Below Wa.heap.size Wa W'->W'.cell? ⟨w.heap.size,0,none⟩=some (.slice a0 coef.length c0)/\W'.cell? ⟨w.heap.size,1,none⟩=some (.slice a1 vars.length c1)/\W'.cell? ⟨w.heap.size,2,none⟩=some (.int .i64 rel)/\W'.cell? ⟨w.heap.size,3,none⟩=some (.int .i64 C)):=fun W' h=>by
  have hh:=HBL.out.below h (by omega)
  exact ⟨(hh.get 0 rfl).1,(hh.get 1 rfl).1,(hh.get 2 rfl).1,(hh.get 3 rfl).1⟩
 have CW:=hD (CW0.out Wa HBW.out)
 clear hsz
 go_enter Tryz.func95,Tryz.ntmps95
 go_upto_region 1 with fail
 rw [<- hWa]
 have HWa:=hD hWa
 clear hWa CW0 HZ
 obtain ⟨sw0,sw1,sw2,sw3⟩:=HSW.out Wa (Below.refl _ _)
 go_cut [3] (fun p wx=>∃ Bm a3 c3 a4 c4,p=.pointer (some ⟨Bm,0,none⟩)/\Hid (Wa.heap.size<=Bm)/\Hid (BoxL wx Bm [.slice a3 coef.length c3,.slice a4 vars.length c4,.int .i64 rel,.int .i64 C]) /\
  wx.ownsRow Wa.heap.size 3 1 (.slice a3 coef.length c3) coef.length (coef.map (Value.int .i64))/\wx.ownsRow Wa.heap.size 3 1 (.slice a4 vars.length c4) vars.length (vars.map (Value.int .i64)) /\
  Hid (Apart (.slice a3 coef.length c3) (.slice a4 vars.length c4))/\Hid ((Value.slice a3 coef.length c3).ownBlock≠some Bm)/\Hid ((Value.slice a4 vars.length c4).ownBlock≠some Bm)/\Hid (Below Wa.heap.size Wa wx))
 case first =>
  go_wp2_with (go_at_call 105;(with_reducible refine CW.out.mono ?_);rintro e W1 ⟨v0,v1,rfl,b1,⟨B3,hB3,o3,o4⟩,hap⟩;obtain ⟨a3,c3,rfl,_⟩:=(SlAt.of_own o3).shape;obtain ⟨a4,c4,rfl,_⟩:=(SlAt.of_own o4).shape;have B1:=hD b1;have O3:=hD o3;have O4:=hD o4;have HB3:=hD hB3;have HAP:=hD hap;clear b1 o3 o4 hB3 hap)
  go_meet
  exact ⟨_,a3,c3,a4,c4,rfl,hD B1.out.size,hD (BoxL.mk' W1 #[.slice a3 coef.length c3,.slice a4 vars.length c4,.int .i64 rel,.int .i64 C] _),(own_base O3.out HB3.out).alloc _,(own_base O4.out HB3.out).alloc _,HAP,hD (own_far O3.out (rN _)),hD (own_far O4.out (rN _)),hD (bL B1.out _)⟩
 case rest =>
  obtain ⟨Bm,a3,c3,a4,c4,rfl,HBm,HM,own3,own4,HAP,HN3,HN4,HBw⟩:=hcut
  have HL:=hD (HBL.out.below HBw.out (by have:=HSZ.out;omega))
  have HR:=hD (HBR.out.below HBw.out (by have:=HSZ.out;omega))
  have HLT:Hid (w.heap.size+1<Wa.heap.size):=by have:=HSZ.out;show _<_;omega
  clear sw0 sw1 sw2 sw3 HSW CW HBL HBR HWa
  rcases hr with hr | hr | hr
  ·
   subst hr
   have HMm:=hD (HM.out.set 2 (by simp) (.int .i64 2))
   have HRm:=hD (HR.out.far (a:=⟨Bm,2,none⟩) (by have:=HBm.out;have:=HSZ.out;dsimp only;omega) (.int .i64 2))
   have O3m:=hD (own_other own3 (a:=⟨Bm,2,none⟩) HN3.out (.int .i64 2))
   have O4m:=hD (own_other own4 (a:=⟨Bm,2,none⟩) HN4.out (.int .i64 2))
   have BWm:=hD (HBw.out.setCell (p:=⟨Bm,2,none⟩) HBm.out (.int .i64 2))
   obtain ⟨m2,mf2⟩:=HM.out.get 2 rfl
   obtain ⟨l2,_⟩:=HL.out.get 2 rfl
   obtain ⟨p0,_⟩:=HMm.out.get 0 rfl
   obtain ⟨p1,_⟩:=HMm.out.get 1 rfl
   obtain ⟨p2,_⟩:=HMm.out.get 2 rfl
   obtain ⟨p3,_⟩:=HMm.out.get 3 rfl
   obtain ⟨r0,rf0⟩:=HRm.out.get 0 rfl
   obtain ⟨r1,rf1⟩:=HRm.out.get 1 rfl
   obtain ⟨r2,rf2⟩:=HRm.out.get 2 rfl
   obtain ⟨r3,rf3⟩:=HRm.out.get 3 rfl
   have R4:=hD ((((HRm.out.set 0 (by simp) (.slice a3 coef.length c3)).set 1 (by simp) (.slice a4 vars.length c4)).set 2 (by simp) (.int .i64 2)).set 3 (by simp) (.int .i64 C))
   obtain ⟨s0,_⟩:=R4.out.get 0 rfl
   obtain ⟨s1,_⟩:=R4.out.get 1 rfl
   obtain ⟨s2,_⟩:=R4.out.get 2 rfl
   obtain ⟨s3,_⟩:=R4.out.get 3 rfl
   clear own3 own4
   go_wp2
   refine bodyPost_ret (v:=.agg #[.slice a3 coef.length c3,.slice a4 vars.length c4,.int .i64 2,.int .i64 C]) ?_ rfl ⟨_,_,rfl,?_,?_,?_,(fun b hb=>Nat.le_trans HBW.out.size (O4m.out.lt b hb).1),fun b hb=>Nat.le_trans HBW.out.size (O3m.out.lt b hb).1⟩
   ·simp [results,Tryz.results95,go_sem,s0,s1,s2,s3]
   ·exact SlAt.of_own (own_setCell (own_setCell (own_setCell (own_setCell O3m.out (a:=⟨w.heap.size+1,0,none⟩) HLT.out _) (a:=⟨w.heap.size+1,1,none⟩) HLT.out _) (a:=⟨w.heap.size+1,2,none⟩) HLT.out _) (a:=⟨w.heap.size+1,3,none⟩) HLT.out _)
   ·exact SlAt.of_own (own_setCell (own_setCell (own_setCell (own_setCell O4m.out (a:=⟨w.heap.size+1,0,none⟩) HLT.out _) (a:=⟨w.heap.size+1,1,none⟩) HLT.out _) (a:=⟨w.heap.size+1,2,none⟩) HLT.out _) (a:=⟨w.heap.size+1,3,none⟩) HLT.out _)
   ·exact (((((bT HBW.out BWm.out).setCell (p:=⟨w.heap.size+1,0,none⟩) (Nat.le_succ _) _).setCell (p:=⟨w.heap.size+1,1,none⟩) (Nat.le_succ _) _).setCell (p:=⟨w.heap.size+1,2,none⟩) (Nat.le_succ _) _).setCell (p:=⟨w.heap.size+1,3,none⟩) (Nat.le_succ _) _)
  ·
   subst hr
   have HMm:=hD (HM.out.set 2 (by simp) (.int .i64 1))
   have HRm:=hD (HR.out.far (a:=⟨Bm,2,none⟩) (by have:=HBm.out;have:=HSZ.out;dsimp only;omega) (.int .i64 1))
   have O3m:=hD (own_other own3 (a:=⟨Bm,2,none⟩) HN3.out (.int .i64 1))
   have O4m:=hD (own_other own4 (a:=⟨Bm,2,none⟩) HN4.out (.int .i64 1))
   have BWm:=hD (HBw.out.setCell (p:=⟨Bm,2,none⟩) HBm.out (.int .i64 1))
   obtain ⟨m2,mf2⟩:=HM.out.get 2 rfl
   obtain ⟨l2,_⟩:=HL.out.get 2 rfl
   obtain ⟨p0,_⟩:=HMm.out.get 0 rfl
   obtain ⟨p1,_⟩:=HMm.out.get 1 rfl
   obtain ⟨p2,_⟩:=HMm.out.get 2 rfl
   obtain ⟨p3,_⟩:=HMm.out.get 3 rfl
   obtain ⟨r0,rf0⟩:=HRm.out.get 0 rfl
   obtain ⟨r1,rf1⟩:=HRm.out.get 1 rfl
   obtain ⟨r2,rf2⟩:=HRm.out.get 2 rfl
   obtain ⟨r3,rf3⟩:=HRm.out.get 3 rfl
   have R4:=hD ((((HRm.out.set 0 (by simp) (.slice a3 coef.length c3)).set 1 (by simp) (.slice a4 vars.length c4)).set 2 (by simp) (.int .i64 1)).set 3 (by simp) (.int .i64 C))
   obtain ⟨s0,_⟩:=R4.out.get 0 rfl
   obtain ⟨s1,_⟩:=R4.out.get 1 rfl
   obtain ⟨s2,_⟩:=R4.out.get 2 rfl
   obtain ⟨s3,_⟩:=R4.out.get 3 rfl
   clear own3 own4
   go_wp2
   refine bodyPost_ret (v:=.agg #[.slice a3 coef.length c3,.slice a4 vars.length c4,.int .i64 1,.int .i64 C]) ?_ rfl ⟨_,_,rfl,?_,?_,?_,(fun b hb=>Nat.le_trans HBW.out.size (O4m.out.lt b hb).1),fun b hb=>Nat.le_trans HBW.out.size (O3m.out.lt b hb).1⟩
   ·simp [results,Tryz.results95,go_sem,s0,s1,s2,s3]
   ·exact SlAt.of_own (own_setCell (own_setCell (own_setCell (own_setCell O3m.out (a:=⟨w.heap.size+1,0,none⟩) HLT.out _) (a:=⟨w.heap.size+1,1,none⟩) HLT.out _) (a:=⟨w.heap.size+1,2,none⟩) HLT.out _) (a:=⟨w.heap.size+1,3,none⟩) HLT.out _)
   ·exact SlAt.of_own (own_setCell (own_setCell (own_setCell (own_setCell O4m.out (a:=⟨w.heap.size+1,0,none⟩) HLT.out _) (a:=⟨w.heap.size+1,1,none⟩) HLT.out _) (a:=⟨w.heap.size+1,2,none⟩) HLT.out _) (a:=⟨w.heap.size+1,3,none⟩) HLT.out _)
   ·exact (((((bT HBW.out BWm.out).setCell (p:=⟨w.heap.size+1,0,none⟩) (Nat.le_succ _) _).setCell (p:=⟨w.heap.size+1,1,none⟩) (Nat.le_succ _) _).setCell (p:=⟨w.heap.size+1,2,none⟩) (Nat.le_succ _) _).setCell (p:=⟨w.heap.size+1,3,none⟩) (Nat.le_succ _) _)
  ·
   subst hr
   obtain ⟨m3,mf3⟩:=HM.out.get 3 rfl
   obtain ⟨l2,_⟩:=HL.out.get 2 rfl
   obtain ⟨l3,_⟩:=HL.out.get 3 rfl
   have HMs:=hD (HM.out.set 3 (by simp) (.int .i64 (-C - 1)))
   have HLs:=hD (HL.out.far (a:=⟨Bm,3,none⟩) (by have:=HBm.out;have:=HSZ.out;dsimp only;omega) (.int .i64 (-C - 1)))
   have HRs:=hD (HR.out.far (a:=⟨Bm,3,none⟩) (by have:=HBm.out;have:=HSZ.out;dsimp only;omega) (.int .i64 (-C - 1)))
   have O3s:=hD (own_other own3 (a:=⟨Bm,3,none⟩) HN3.out (.int .i64 (-C - 1)))
   have O4s:=hD (own_other own4 (a:=⟨Bm,3,none⟩) HN4.out (.int .i64 (-C - 1)))
   have BWs:=hD (HBw.out.setCell (p:=⟨Bm,3,none⟩) HBm.out (.int .i64 (-C - 1)))
   clear own3 own4
   go_wp2
   go_loopw [4] (fun s wr=>∃ k:Nat,k<=coef.length/\s=.int .i64 k/\Hid (BoxL wr w.heap.size [.slice a0 coef.length c0,.slice a1 vars.length c1,.int .i64 3,.int .i64 C])/\Hid (BoxL wr (w.heap.size+1) [.slice none 0 0,.slice none 0 0,.int .i64 0,.int .i64 0])/\Hid (BoxL wr Bm [.slice a3 coef.length c3,.slice a4 vars.length c4,.int .i64 3,.int .i64 (-C - 1)]) /\
    wr.ownsRow Wa.heap.size 3 1 (.slice a3 coef.length c3) coef.length ((negTo coef k).map (Value.int .i64))/\wr.ownsRow Wa.heap.size 3 1 (.slice a4 vars.length c4) vars.length (vars.map (Value.int .i64))/\Hid (Below Wa.heap.size Wa wr)) (fun s _=>coef.length - (intOf s).toNat)
   case atStart=>exact ⟨0,by omega,rfl,HLs,HRs,HMs,by rw [negTo_zero];exact O3s.out,O4s.out,BWs⟩
   case round =>
    clear m3 mf3 l2 l3 HL HR HM HBw HMs HLs HRs O3s O4s BWs
    obtain ⟨k,hk,rfl,HL,HR,HM,own3,own4,HBw⟩:=hrel
    obtain ⟨m0,mf0⟩:=HM.out.get 0 rfl
    by_cases hlt:k<coef.length
    ·have own3':=own3
     rcases own3.2 with ⟨_,h0⟩ | ⟨g3,cap3,cur,he,hg,hgg,hnc,_⟩
     ·omega
     ·simp only [Value.slice.injEq,true_and] at he
      obtain ⟨rfl,rfl⟩:=he
      have hc3:=own3'.cellAt k (by omega)
      have hf3:=own3'.frozenAt k
      rw [List.getElem?_map,negTo_at coef k hlt,Option.map_some] at hc3
      have hcb:=HCB.out _ (List.getElem_mem hlt)
      have S1:=hD (negTo_step coef k hlt)
      have hsl:=negTo_len coef k hk
      have j1:(k:Int)<coef.length:=by omega
      have hng:Bm≠g3:=fun e=>HN3.out (by rw [e];rfl)
      generalize coef[k]=z at *
      have OW:=hD own3
      have OV:=hD own4
      clear own3 own3' own4 hgg
      go_wp2
      go_region
      go_wp2
      refine ⟨⟨k+1,by omega,by go_num,hD (HL.out.far (a:=⟨g3,k,none⟩) (by have:=HSZ.out;dsimp only;omega) _),hD (HR.out.far (a:=⟨g3,k,none⟩) (by have:=HSZ.out;dsimp only;omega) _),hD (HM.out.far (a:=⟨g3,k,none⟩) hng _),?_,World.ownsRow.drew (own_other OV.out (a:=⟨g3,k,none⟩) (fun he=>HAP.out g3 rfl he) _),hD ((HBw.out.setCell (p:=⟨g3,k,none⟩) hg _).drew)⟩,by simp [intOf];omega⟩
      rw [S1.out,List.map_set]
      exact World.ownsRow.drew (OW.out.stored k _).1
    ·obtain rfl:k=coef.length:=by omega
     rw [negTo_all] at own3
     have HRm:=hD HR.out
     obtain ⟨p0,_⟩:=HM.out.get 0 rfl
     obtain ⟨p1,_⟩:=HM.out.get 1 rfl
     obtain ⟨p2,_⟩:=HM.out.get 2 rfl
     obtain ⟨p3,_⟩:=HM.out.get 3 rfl
     have O3m:=hD own3
     have O4m:=hD own4
     have BWm:=hD HBw.out
     obtain ⟨r0,rf0⟩:=HRm.out.get 0 rfl
     obtain ⟨r1,rf1⟩:=HRm.out.get 1 rfl
     obtain ⟨r2,rf2⟩:=HRm.out.get 2 rfl
     obtain ⟨r3,rf3⟩:=HRm.out.get 3 rfl
     have R4:=hD ((((HRm.out.set 0 (by simp) (.slice a3 coef.length c3)).set 1 (by simp) (.slice a4 vars.length c4)).set 2 (by simp) (.int .i64 3)).set 3 (by simp) (.int .i64 (-C - 1)))
     obtain ⟨s0,_⟩:=R4.out.get 0 rfl
     obtain ⟨s1,_⟩:=R4.out.get 1 rfl
     obtain ⟨s2,_⟩:=R4.out.get 2 rfl
     obtain ⟨s3,_⟩:=R4.out.get 3 rfl
     clear own3 own4
     go_wp2
     refine bodyPost_ret (v:=.agg #[.slice a3 coef.length c3,.slice a4 vars.length c4,.int .i64 3,.int .i64 (-C - 1)]) ?_ rfl ⟨_,_,rfl,?_,?_,?_,(fun b hb=>Nat.le_trans HBW.out.size (O4m.out.lt b hb).1),fun b hb=>Nat.le_trans HBW.out.size (O3m.out.lt b hb).1⟩
     ·simp [results,Tryz.results95,go_sem,s0,s1,s2,s3]
     ·have h:=SlAt.of_own (own_setCell (own_setCell (own_setCell (own_setCell O3m.out (a:=⟨w.heap.size+1,0,none⟩) HLT.out (.slice a3 coef.length c3)) (a:=⟨w.heap.size+1,1,none⟩) HLT.out (.slice a4 vars.length c4)) (a:=⟨w.heap.size+1,2,none⟩) HLT.out (.int .i64 3)) (a:=⟨w.heap.size+1,3,none⟩) HLT.out (.int .i64 (-C - 1)))
      have e:notCoef 3 coef=coef.map fun z=>-z:=by simp [notCoef]
      rw [e]
      show SlAt _ 1 _ (coef.map fun z=>-z).length _
      rw [List.length_map];exact h
     ·exact SlAt.of_own (own_setCell (own_setCell (own_setCell (own_setCell O4m.out (a:=⟨w.heap.size+1,0,none⟩) HLT.out _) (a:=⟨w.heap.size+1,1,none⟩) HLT.out _) (a:=⟨w.heap.size+1,2,none⟩) HLT.out _) (a:=⟨w.heap.size+1,3,none⟩) HLT.out _)
     ·exact (((((bT HBW.out BWm.out).setCell (p:=⟨w.heap.size+1,0,none⟩) (Nat.le_succ _) _).setCell (p:=⟨w.heap.size+1,1,none⟩) (Nat.le_succ _) _).setCell (p:=⟨w.heap.size+1,2,none⟩) (Nat.le_succ _) _).setCell (p:=⟨w.heap.size+1,3,none⟩) (Nat.le_succ _) _)
def sureL (rel c:Int) (ds:Ds) (ps:Ps):Bool:=allOk ds ps&&yesL rel c (loS ds ps) (hiS ds ps)
theorem loT_neg (c:Int) (d:List Rg):loT (-c) d=-hiT c d/\hiT (-c) d=-loT c d:=by
 unfold loT hiT
 rcases Int.lt_trichotomy c 0 with h | rfl | h
 ·rw [if_neg (by omega),if_pos h,if_neg (by omega),if_pos h];simp [Int.neg_mul]
 ·simp
 ·rw [if_pos (by omega),if_neg (by omega),if_pos (by omega),if_neg (by omega)];simp [Int.neg_mul]
theorem sums_neg (ds:Ds):∀ (a b:List Int),loS ds ((a.map fun k=>-k).zip b)=-hiS ds (a.zip b)/\hiS ds ((a.map fun k=>-k).zip b)=-loS ds (a.zip b)/\allOk ds ((a.map fun k=>-k).zip b)=allOk ds (a.zip b)
 | [],_=>by simp [loS,hiS,allOk]
 | _::_,[]=>by simp [loS,hiS,allOk]
 | c::a,v::b=>by
  obtain ⟨h1,h2,h3⟩:=sums_neg ds a b
  obtain ⟨g1,g2⟩:=loT_neg c (domOf ds v)
  unfold loS hiS allOk at *
  simp only [List.map_cons,List.zip_cons_cons,List.sum_cons,List.all_cons] at *
  refine ⟨by omega,by omega,by rw [h3]⟩
theorem sure_not {rel c:Int} (hr:rel=1\/rel=2\/rel=3) (ds:Ds) (coef vars:List Int):sureL (notRel rel) (notC rel c) ds ((notCoef rel coef).zip vars)=(allOk ds (coef.zip vars)&&noL rel c (loS ds (coef.zip vars)) (hiS ds (coef.zip vars))):=by
 unfold sureL
 rcases hr with rfl | rfl | rfl
 ·simp [notRel,notC,notCoef,yesL,noL]
 ·simp [notRel,notC,notCoef,yesL,noL]
 ·obtain ⟨h1,h2,h3⟩:=sums_neg ds coef vars
  have e1:notRel 3=3:=by simp [notRel]
  have e2:notC 3 c=-c - 1:=by simp [notC]
  have e3:notCoef 3 coef=coef.map fun k=>-k:=by simp [notCoef]
  rw [e1,e2,e3,h1,h2,h3]
  congr 1
  unfold yesL noL
  rw [if_pos rfl,if_pos rfl,Bool.eq_iff_iff,decide_eq_true_eq,decide_eq_true_eq]
  omega
theorem says_sureL {rel c:Int} (hr:rel=1\/rel=2\/rel=3) (ds:Ds) (coef vars:List Int) :
  saysL rel c ds (coef.zip vars)=if sureL rel c ds (coef.zip vars)=true then 1 else if sureL (notRel rel) (notC rel c) ds ((notCoef rel coef).zip vars)=true then -1 else 0:=by
 rw [sure_not hr]
 unfold saysL sureL
 cases allOk ds (coef.zip vars) <;> simp
theorem sure_c (va vb vds:Value) (rel C:Int) (coef vars:List Int) (ds:Ds) (w:World) (h0:IsAt w va coef) (h1:IsAt w vb vars) (hd:DsAt w vds ds) (hg:GoodL coef vars ds) (hr:rel=1\/rel=2\/rel=3) :
  Calls Tryz.prog 122 #[.agg #[va,vb,.int .i64 rel,.int .i64 C],vds] w fun e w'=>e=.returned (.bool (sureL rel C ds (coef.zip vars)))/\Below w.heap.size w w':=by
 obtain ⟨a0,c0,rfl,_⟩:=IsAt.shape h0
 obtain ⟨a1,c1,rfl,_⟩:=IsAt.shape h1
 obtain ⟨a2,c2,rfl,_⟩:=hd.shape
 have HZ:Hid (Below w.heap.size w (w.alloc (.cells #[.slice a0 coef.length c0,.slice a1 vars.length c1,.int .i64 rel,.int .i64 C] 65))):=bA _
 have CS:Hid (∀ W,Below w.heap.size w W->Calls Tryz.prog 104 #[.agg #[.slice a0 coef.length c0,.slice a1 vars.length c1,.int .i64 rel,.int .i64 C],.slice a2 ds.length c2] W
   fun e w'=>e=.returned (.tuple #[.int .i64 (sLo ds (coef.zip vars)),.int .i64 (sHi ds (coef.zip vars)),.bool (allOk ds (coef.zip vars))])/\Below W.heap.size W w'):=fun W h=>refSums_c _ _ _ rel C coef vars ds W (h0.below h) (h1.below h) (hd.below h) hg
 have HS:Hid (sureL rel C ds (coef.zip vars)=(allOk ds (coef.zip vars)&&yesL rel C (sLo ds (coef.zip vars)) (sHi ds (coef.zip vars)))):=by
  show _=_
  unfold sureL sLo sHi
  cases h:allOk ds (coef.zip vars) <;> simp
 clear h0 h1 hd hg
 generalize sureL rel C ds (coef.zip vars)=R at *
 generalize sLo ds (coef.zip vars)=lo at *
 generalize sHi ds (coef.zip vars)=hi at *
 cases hok:allOk ds (coef.zip vars) with
 | false =>
  rw [hok] at CS HS
  clear hok
  go_enter Tryz.func122,Tryz.ntmps122
  go_wp2_with (go_at_call 104;(with_reducible refine (CS.out _ HZ.out).mono ?_);rintro e W1 ⟨rfl,bb⟩;have B1:=hD (bT HZ.out bb);clear bb)
  go_ret
  exact ⟨ret_bool (by rw [HS.out];rfl),B1.out⟩
 | true =>
  rw [hok] at CS HS
  clear hok
  rcases hr with rfl | rfl | rfl
  ·have HS2:Hid (R=(decide (lo=C)&&decide (hi=C))):=by show _=_;rw [HS.out];simp [yesL]
   clear HS
   by_cases e1:lo=C
   ·by_cases e2:hi=C
    ·have g1:(lo==C)=true:=by simpa using e1
     have g2:(hi==C)=true:=by simpa using e2
     have HR:Hid (R=true):=by show _=_;rw [HS2.out];simp [e1,e2]
     clear e1 e2 HS2
     go_enter Tryz.func122,Tryz.ntmps122
     go_wp2_with (go_at_call 104;(with_reducible refine (CS.out _ HZ.out).mono ?_);rintro e W1 ⟨rfl,bb⟩;have B1:=hD (bT HZ.out bb);have X1:=hD (BoxL.later (by simp) bb);obtain ⟨x2,_⟩:=X1.out.get 2 rfl;obtain ⟨x3,_⟩:=X1.out.get 3 rfl;clear bb)
     go_ret
     exact ⟨ret_bool (by first | exact HR.out.symm | (rw [HR.out];simp;omega)),B1.out⟩
    ·have g1:(lo==C)=true:=by simpa using e1
     have g2:(hi==C)=false:=by simpa using e2
     have HR:Hid (R=false):=by show _=_;rw [HS2.out];simp [e2]
     clear e1 e2 HS2
     go_enter Tryz.func122,Tryz.ntmps122
     go_wp2_with (go_at_call 104;(with_reducible refine (CS.out _ HZ.out).mono ?_);rintro e W1 ⟨rfl,bb⟩;have B1:=hD (bT HZ.out bb);have X1:=hD (BoxL.later (by simp) bb);obtain ⟨x2,_⟩:=X1.out.get 2 rfl;obtain ⟨x3,_⟩:=X1.out.get 3 rfl;clear bb)
     go_ret
     exact ⟨ret_bool (by first | exact HR.out.symm | (rw [HR.out];simp;omega)),B1.out⟩
   ·have g1:(lo==C)=false:=by simpa using e1
    have HR:Hid (R=false):=by show _=_;rw [HS2.out];simp [e1]
    clear e1 HS2
    go_enter Tryz.func122,Tryz.ntmps122
    go_wp2_with (go_at_call 104;(with_reducible refine (CS.out _ HZ.out).mono ?_);rintro e W1 ⟨rfl,bb⟩;have B1:=hD (bT HZ.out bb);have X1:=hD (BoxL.later (by simp) bb);obtain ⟨x2,_⟩:=X1.out.get 2 rfl;obtain ⟨x3,_⟩:=X1.out.get 3 rfl;clear bb)
    go_ret
    exact ⟨ret_bool (by first | exact HR.out.symm | (rw [HR.out];simp;omega)),B1.out⟩
  ·have HS2:Hid (R=(decide (C<lo)||decide (hi<C))):=by show _=_;rw [HS.out];simp [yesL]
   clear HS
   by_cases e1:C<lo
   ·have HR:Hid (R=true):=by show _=_;rw [HS2.out];simp [e1]
    clear HS2
    go_enter Tryz.func122,Tryz.ntmps122
    go_wp2_with (go_at_call 104;(with_reducible refine (CS.out _ HZ.out).mono ?_);rintro e W1 ⟨rfl,bb⟩;have B1:=hD (bT HZ.out bb);have X1:=hD (BoxL.later (by simp) bb);obtain ⟨x2,_⟩:=X1.out.get 2 rfl;obtain ⟨x3,_⟩:=X1.out.get 3 rfl;clear bb)
    go_ret
    exact ⟨ret_bool (by first | exact HR.out.symm | (rw [HR.out];simp;omega)),B1.out⟩
   ·by_cases e2:hi<C
    ·have HR:Hid (R=true):=by show _=_;rw [HS2.out];simp [e2]
     clear HS2
     go_enter Tryz.func122,Tryz.ntmps122
     go_wp2_with (go_at_call 104;(with_reducible refine (CS.out _ HZ.out).mono ?_);rintro e W1 ⟨rfl,bb⟩;have B1:=hD (bT HZ.out bb);have X1:=hD (BoxL.later (by simp) bb);obtain ⟨x2,_⟩:=X1.out.get 2 rfl;obtain ⟨x3,_⟩:=X1.out.get 3 rfl;clear bb)
     go_ret
     exact ⟨ret_bool (by first | exact HR.out.symm | (rw [HR.out];simp;omega)),B1.out⟩
    ·have HR:Hid (R=false):=by show _=_;rw [HS2.out];simp [e1,e2]
     clear HS2
     go_enter Tryz.func122,Tryz.ntmps122
     go_wp2_with (go_at_call 104;(with_reducible refine (CS.out _ HZ.out).mono ?_);rintro e W1 ⟨rfl,bb⟩;have B1:=hD (bT HZ.out bb);have X1:=hD (BoxL.later (by simp) bb);obtain ⟨x2,_⟩:=X1.out.get 2 rfl;obtain ⟨x3,_⟩:=X1.out.get 3 rfl;clear bb)
     go_ret
     exact ⟨ret_bool (by first | exact HR.out.symm | (rw [HR.out];simp;omega)),B1.out⟩
  ·have HS2:Hid (R=decide (hi<=C)):=by show _=_;rw [HS.out];simp [yesL]
   clear HS
   by_cases e1:hi<=C
   ·have HR:Hid (R=true):=by show _=_;rw [HS2.out];simp [e1]
    clear HS2
    go_enter Tryz.func122,Tryz.ntmps122
    go_wp2_with (go_at_call 104;(with_reducible refine (CS.out _ HZ.out).mono ?_);rintro e W1 ⟨rfl,bb⟩;have B1:=hD (bT HZ.out bb);have X1:=hD (BoxL.later (by simp) bb);obtain ⟨x2,_⟩:=X1.out.get 2 rfl;obtain ⟨x3,_⟩:=X1.out.get 3 rfl;clear bb)
    go_ret
    exact ⟨ret_bool (by first | exact HR.out.symm | (rw [HR.out];simp;omega)),B1.out⟩
   ·have HR:Hid (R=false):=by show _=_;rw [HS2.out];simp [e1]
    clear HS2
    go_enter Tryz.func122,Tryz.ntmps122
    go_wp2_with (go_at_call 104;(with_reducible refine (CS.out _ HZ.out).mono ?_);rintro e W1 ⟨rfl,bb⟩;have B1:=hD (bT HZ.out bb);have X1:=hD (BoxL.later (by simp) bb);obtain ⟨x2,_⟩:=X1.out.get 2 rfl;obtain ⟨x3,_⟩:=X1.out.get 3 rfl;clear bb)
    go_ret
    exact ⟨ret_bool (by first | exact HR.out.symm | (rw [HR.out];simp;omega)),B1.out⟩
theorem refSays_c (va vb vds:Value) (rel C:Int) (coef vars:List Int) (ds:Ds) (w:World) (h0:IsAt w va coef) (h1:IsAt w vb vars) (hd:DsAt w vds ds) (hg:GoodL coef vars ds) (hr:rel=1\/rel=2\/rel=3) (hC:-1099511627776<=C/\C<=1099511627776) :
  Calls Tryz.prog 109 #[.agg #[va,vb,.int .i64 rel,.int .i64 C],vds] w fun e w'=>e=.returned (.int .i64 (saysL rel C ds (coef.zip vars)))/\Below w.heap.size w w':=by
 obtain ⟨a0,c0,rfl,_⟩:=IsAt.shape h0
 obtain ⟨a1,c1,rfl,_⟩:=IsAt.shape h1
 obtain ⟨a2,c2,rfl,_⟩:=hd.shape
 have HZ:Hid (Below w.heap.size w (w.alloc (.cells #[.slice a0 coef.length c0,.slice a1 vars.length c1,.int .i64 rel,.int .i64 C] 65))):=bA _
 have HBX:Hid (∀ W,Below (w.alloc (.cells #[.slice a0 coef.length c0,.slice a1 vars.length c1,.int .i64 rel,.int .i64 C] 65)).heap.size (w.alloc (.cells #[.slice a0 coef.length c0,.slice a1 vars.length c1,.int .i64 rel,.int .i64 C] 65)) W ->
   Below w.heap.size w W/\BoxL W w.heap.size [.slice a0 coef.length c0,.slice a1 vars.length c1,.int .i64 rel,.int .i64 C]):=fun W h=>⟨bT HZ.out h,BoxL.later (by simp) h⟩
 have CS:Hid (∀ W,Below w.heap.size w W->Calls Tryz.prog 122 #[.agg #[.slice a0 coef.length c0,.slice a1 vars.length c1,.int .i64 rel,.int .i64 C],.slice a2 ds.length c2] W
   fun e w'=>e=.returned (.bool (sureL rel C ds (coef.zip vars)))/\Below W.heap.size W w'):=fun W h=>sure_c _ _ _ rel C coef vars ds W (h0.below h) (h1.below h) (hd.below h) hg hr
 have CN:Hid (∀ W,Below w.heap.size w W->Calls Tryz.prog 95 #[.agg #[.slice a0 coef.length c0,.slice a1 vars.length c1,.int .i64 rel,.int .i64 C]] W
   fun e w'=>∃ v0 v1,e=.returned (.agg #[v0,v1,.int .i64 (notRel rel),.int .i64 (notC rel C)])/\IsAt w' v0 (notCoef rel coef)/\IsAt w' v1 vars/\Below W.heap.size W w'/\(∀ b,v1.ownBlock=some b->W.heap.size<=b)/\∀ b,v0.ownBlock=some b->W.heap.size<=b):=fun W h =>
  refNot_c _ _ rel C coef vars W (h0.below h) (h1.below h) hg.le16 hg.len hr (by omega) hg.coefs
 have CT:Hid (∀ W v0 v1,Below w.heap.size w W->IsAt W v0 (notCoef rel coef)->IsAt W v1 vars->Calls Tryz.prog 122 #[.agg #[v0,v1,.int .i64 (notRel rel),.int .i64 (notC rel C)],.slice a2 ds.length c2] W
   fun e w'=>e=.returned (.bool (sureL (notRel rel) (notC rel C) ds ((notCoef rel coef).zip vars)))/\Below W.heap.size W w'):=fun W v0 v1 h i0 i1=>sure_c _ _ _ _ _ _ vars ds W i0 i1 (hd.below h) (good_not hg rel) (not_rel hr)
 have HS:=hD (says_sureL hr (c:=C) ds coef vars)
 clear h0 h1 hd hg hr hC
 generalize saysL rel C ds (coef.zip vars)=S at *
 generalize sureL rel C ds (coef.zip vars)=b1 at *
 generalize sureL (notRel rel) (notC rel C) ds ((notCoef rel coef).zip vars)=b2 at *
 generalize notRel rel=nr at *
 generalize notC rel C=nC at *
 generalize notCoef rel coef=ncoef at *
 cases b1 with
 | true =>
  rw [if_pos rfl] at HS
  go_enter Tryz.func109,Tryz.ntmps109
  go_wp2_with (go_at_call 122;(with_reducible refine (CS.out _ HZ.out).mono ?_);rintro e W1 ⟨rfl,bb⟩;have B1:=hD (HBX.out W1 bb).1;clear bb)
  go_ret
  exact ⟨ret_int HS.out.symm,B1.out⟩
 | false =>
  rw [if_neg (by decide)] at HS
  cases b2 with
  | true =>
   rw [if_pos rfl] at HS
   go_enter Tryz.func109,Tryz.ntmps109
   go_wp2_with (first
    | (go_at_call 122;(with_reducible refine (CS.out _ HZ.out).mono ?_);rintro e W1 ⟨rfl,bb⟩;have B1:=hD (HBX.out W1 bb).1;have X1:=hD (HBX.out W1 bb).2;obtain ⟨x0,_⟩:=X1.out.get 0 rfl;obtain ⟨x1,_⟩:=X1.out.get 1 rfl;obtain ⟨x2,_⟩:=X1.out.get 2 rfl;obtain ⟨x3,_⟩:=X1.out.get 3 rfl;clear bb)
    | (go_at_call 95;(with_reducible refine (CN.out _ B1.out).mono ?_);rintro e W2 ⟨v0,v1,rfl,i0,i1,bb,_⟩;have B2:=hD (bT B1.out bb);have CT2:=hD (CT.out _ _ _ B2.out i0 i1);clear bb i0 i1)
    | (go_at_call 122;(with_reducible refine CT2.out.mono ?_);rintro e W3 ⟨rfl,bb⟩;have B3:=hD (bT B2.out bb);clear bb))
   go_ret
   exact ⟨ret_int HS.out.symm,B3.out⟩
  | false =>
   rw [if_neg (by decide)] at HS
   go_enter Tryz.func109,Tryz.ntmps109
   go_wp2_with (first
    | (go_at_call 122;(with_reducible refine (CS.out _ HZ.out).mono ?_);rintro e W1 ⟨rfl,bb⟩;have B1:=hD (HBX.out W1 bb).1;have X1:=hD (HBX.out W1 bb).2;obtain ⟨x0,_⟩:=X1.out.get 0 rfl;obtain ⟨x1,_⟩:=X1.out.get 1 rfl;obtain ⟨x2,_⟩:=X1.out.get 2 rfl;obtain ⟨x3,_⟩:=X1.out.get 3 rfl;clear bb)
    | (go_at_call 95;(with_reducible refine (CN.out _ B1.out).mono ?_);rintro e W2 ⟨v0,v1,rfl,i0,i1,bb,_⟩;have B2:=hD (bT B1.out bb);have CT2:=hD (CT.out _ _ _ B2.out i0 i1);clear bb i0 i1)
    | (go_at_call 122;(with_reducible refine CT2.out.mono ?_);rintro e W3 ⟨rfl,bb⟩;have B3:=hD (bT B2.out bb);clear bb))
   go_ret
   exact ⟨ret_int HS.out.symm,B3.out⟩
end
end Go.Proofs.YtaekdgikgbdnnaaGreat
