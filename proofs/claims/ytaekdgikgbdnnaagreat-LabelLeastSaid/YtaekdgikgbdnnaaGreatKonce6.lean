/-
  lin.Not, walked.
  The narrow of a sum that a variable tells, walked.
-/
import Derived.Test.YtaekdgikgbdnnaaGreatKonce4
import Derived.Test.YtaekdgikgbdnnaaGreatKlin6
import Derived.Test.YtaekdgikgbdnnaaGreatKdom3
import Derived.Deep.CutBlock
namespace Go.Proofs.YtaekdgikgbdnnaaGreat
section
open Go.RowKit
theorem own_base {w:World} {B B' e size n:Nat} {v:Value} {xs:List Value} (h:w.ownsRow B e size v n xs) (hb:B'<=B):w.ownsRow B' e size v n xs:=by
 refine ⟨h.1,?_⟩
 rcases h.2 with hn | ⟨g,cap,cur,rfl,hg,rest⟩
 ·exact .inl hn
 ·exact .inr ⟨g,cap,cur,rfl,Nat.le_trans hb hg,rest⟩
theorem BoxL.later {w W1:World} {cs:Array Value} {T:TypeId} (_hp:0<cs.size) (bb:Below (w.alloc (.cells cs T)).heap.size (w.alloc (.cells cs T)) W1):BoxL W1 w.heap.size cs.toList :=
 (BoxL.mk' w cs T).below bb (by simp)
theorem BoxL.laterD {w W1:World} {cs:Array Value} {T:TypeId} (_hp:0<cs.size) (bb:Below (w.alloc (.cells cs T)).drew.heap.size (w.alloc (.cells cs T)).drew W1):BoxL W1 w.heap.size cs.toList :=
 (BoxL.mk' w cs T).below (Below.trans ((Below.refl _ _).drew) bb) (by simp)
def negTo (l:List Int) (k:Nat):List Int:=(l.take k).map (fun z=>-z)++l.drop k
theorem negTo_zero (l:List Int):negTo l 0=l:=by simp [negTo]
theorem negTo_all (l:List Int):negTo l l.length=l.map fun z=>-z:=by simp [negTo]
theorem negTo_len (l:List Int) (k:Nat) (hk:k<=l.length):(negTo l k).length=l.length:=by simp [negTo];omega
theorem negTo_step (l:List Int) (k:Nat) (hk:k<l.length):negTo l (k+1)=(negTo l k).set k (-l[k]):=by
 unfold negTo
 rw [List.take_succ_eq_append_getElem hk,List.map_append,List.set_append_right _ _ (by simp;omega),List.drop_eq_getElem_cons hk]
 have e:k - ((l.take k).map fun z=>-z).length=0:=by simp;omega
 rw [e,List.set_cons_zero,List.append_assoc];rfl
theorem negTo_at (l:List Int) (k:Nat) (hk:k<l.length):(negTo l k)[k]?=some l[k]:=by
 unfold negTo
 rw [List.getElem?_append_right (by simp;omega)]
 have e:k - ((l.take k).map fun z=>-z).length=0:=by simp;omega
 rw [e,List.getElem?_drop,Nat.add_zero,List.getElem?_eq_getElem hk]
theorem own_other {w:World} {base:Nat} {e:TypeId} {size:Nat} {v:Value} {n:Nat} {xs:List Value} (h:w.ownsRow base e size v n xs) {a:Addr} (ha:v.ownBlock≠some a.block) (u:Value):(w.setCell a u).ownsRow base e size v n xs:=by
 refine ⟨h.1,?_⟩
 rcases h.2 with hn | ⟨g,cap,cur,rfl,hg,hgg,rest⟩
 ·exact .inl hn
 ·exact .inr ⟨g,cap,cur,rfl,hg,by rw [Below.heap_setCell _ _ _ _ (fun e=>ha (by rw [<- e];rfl))];exact hgg,rest⟩
theorem notMeet {Wa W:World} (Bm n m:Nat) (a3 a4:Option Addr) (c3 c4:Nat) (rel C:Int) (xs ys:List Value) (hq:BoxL W Bm [.slice none 0 0,.slice none 0 0,.int .i64 0,.int .i64 0]) (hb:Below Wa.heap.size Wa W) (hBm:Wa.heap.size<=Bm)
  (o3:W.ownsRow Wa.heap.size 3 1 (.slice a3 n c3) n xs) (o4:W.ownsRow Wa.heap.size 3 1 (.slice a4 m c4) m ys) (hn3:(Value.slice a3 n c3).ownBlock≠some Bm) (hn4:(Value.slice a4 m c4).ownBlock≠some Bm) (W':World)
  (hW':W'=(((W.setCell ⟨Bm,0,none⟩ (.slice a3 n c3)).setCell ⟨Bm,1,none⟩ (.slice a4 m c4)).setCell ⟨Bm,2,none⟩ (.int .i64 rel)).setCell ⟨Bm,3,none⟩ (.int .i64 C)) :
  Hid (BoxL W' Bm [.slice a3 n c3,.slice a4 m c4,.int .i64 rel,.int .i64 C])/\W'.ownsRow Wa.heap.size 3 1 (.slice a3 n c3) n xs/\W'.ownsRow Wa.heap.size 3 1 (.slice a4 m c4) m ys/\Hid (Below Wa.heap.size Wa W'):=by
 subst hW'
 refine ⟨?_,?_,?_,?_⟩
 ·exact (((hq.set 0 (by simp) (.slice a3 n c3)).set 1 (by simp) (.slice a4 m c4)).set 2 (by simp) (.int .i64 rel)).set 3 (by simp) (.int .i64 C)
 ·exact own_other (own_other (own_other (own_other o3 (a:=⟨Bm,0,none⟩) hn3 _) (a:=⟨Bm,1,none⟩) hn3 _) (a:=⟨Bm,2,none⟩) hn3 _) (a:=⟨Bm,3,none⟩) hn3 _
 ·exact own_other (own_other (own_other (own_other o4 (a:=⟨Bm,0,none⟩) hn4 _) (a:=⟨Bm,1,none⟩) hn4 _) (a:=⟨Bm,2,none⟩) hn4 _) (a:=⟨Bm,3,none⟩) hn4 _
 ·exact (((hb.setCell (p:=⟨Bm,0,none⟩) hBm _).setCell (p:=⟨Bm,1,none⟩) hBm _).setCell (p:=⟨Bm,2,none⟩) hBm _).setCell (p:=⟨Bm,3,none⟩) hBm _
set_option maxRecDepth 100000
set_option maxHeartbeats 4800000
theorem not_c (va vb:Value) (rel C:Int) (coef vars:List Int) (w:World) (h0:IsAt w va coef) (h1:IsAt w vb vars) (hl0:coef.length<=16) (hl1:vars.length<=16) (hr:rel=1\/rel=2\/rel=3)
  (hC:-1099511627777<=C/\C<=1099511627777) (hcb:∀ c∈coef,-100000<=c/\c<=100000) :
  Calls Tryz.prog 173 #[.agg #[va,vb,.int .i64 rel,.int .i64 C]] w fun e w'=>∃ v0 v1,e=.returned (.agg #[v0,v1,.int .i64 (notRel rel),.int .i64 (notC rel C)])/\IsAt w' v0 (notCoef rel coef)/\IsAt w' v1 vars/\Below w.heap.size w w'/\∀ b,v1.ownBlock=some b->w.heap.size<=b:=by
 obtain ⟨a0,c0,rfl,_⟩:=IsAt.shape h0
 obtain ⟨a1,c1,rfl,_⟩:=IsAt.shape h1
 have HZ:Hid (∀ o o2,Below w.heap.size w ((w.alloc o).alloc o2)):=fun o o2=>((Below.refl _ _).alloc (rN _) o).alloc (by simp) o2
 have CC0:Hid (∀ W,Below w.heap.size w W->Calls Tryz.prog 176 #[.slice a0 coef.length c0] W (RetI coef W)):=fun W h=>cloneI_n _ coef W (h0.below h) (by omega)
 have CC1:Hid (∀ W,Below w.heap.size w W->Calls Tryz.prog 176 #[.slice a1 vars.length c1] W (RetI vars W)):=fun W h=>cloneI_n _ vars W (h1.below h) (by omega)
 have HCB:=hD hcb
 clear h0 h1 hcb
 obtain ⟨Wa,hWa⟩:∃ Wa,Wa=(w.alloc (.cells #[.slice a0 coef.length c0,.slice a1 vars.length c1,.int .i64 rel,.int .i64 C] 65)).alloc (.cells #[.slice none 0 0,.slice none 0 0,.int .i64 0,.int .i64 0] 65):=⟨_,rfl⟩
 have HBL:Hid (BoxL Wa w.heap.size [.slice a0 coef.length c0,.slice a1 vars.length c1,.int .i64 rel,.int .i64 C]):=by
  rw [hWa]
  exact (BoxL.mk' w #[.slice a0 coef.length c0,.slice a1 vars.length c1,.int .i64 rel,.int .i64 C] 65).below (bA _) (by simp)
 have HBR:Hid (BoxL Wa (w.heap.size+1) [.slice none 0 0,.slice none 0 0,.int .i64 0,.int .i64 0]):=by
  have h:=BoxL.mk' (w.alloc (.cells #[.slice a0 coef.length c0,.slice a1 vars.length c1,.int .i64 rel,.int .i64 C] 65)) #[.slice none 0 0,.slice none 0 0,.int .i64 0,.int .i64 0] 65
  rw [show (w.alloc (.cells #[.slice a0 coef.length c0,.slice a1 vars.length c1,.int .i64 rel,.int .i64 C] 65)).heap.size=w.heap.size+1 by simp] at h
  rw [hWa];exact h
 have HBW:Hid (Below w.heap.size w Wa):=by rw [hWa];exact HZ.out _ _
 have hsz:Wa.heap.size=w.heap.size+1+1:=by rw [hWa];simp
 have HSZ:=hD hsz
 have HSW:Hid (∀ W',Below Wa.heap.size Wa W'->W'.cell? ⟨w.heap.size,0,none⟩=some (.slice a0 coef.length c0)/\W'.cell? ⟨w.heap.size,1,none⟩=some (.slice a1 vars.length c1)/\W'.cell? ⟨w.heap.size,2,none⟩=some (.int .i64 rel)/\W'.cell? ⟨w.heap.size,3,none⟩=some (.int .i64 C)):=fun W' h=>by
  have hh:=HBL.out.below h (by omega)
  exact ⟨(hh.get 0 rfl).1,(hh.get 1 rfl).1,(hh.get 2 rfl).1,(hh.get 3 rfl).1⟩
 have CL0:Hid (∀ W,Below Wa.heap.size Wa W->Calls Tryz.prog 176 #[.slice a0 coef.length c0] W (RetI coef W)):=fun W h=>CC0.out W (bT HBW.out h)
 have CL1:Hid (∀ W,Below Wa.heap.size Wa W->Calls Tryz.prog 176 #[.slice a1 vars.length c1] W (RetI vars W)):=fun W h=>CC1.out W (bT HBW.out h)
 clear hsz
 go_enter Tryz.func173,Tryz.ntmps173
 go_wp2
 rw [<- hWa]
 have HWa:=hD hWa
 clear hWa CC0 CC1 HZ
 obtain ⟨sw0,sw1,sw2,sw3⟩:=HSW.out Wa (Below.refl _ _)
 go_upto_region 1 with fail
 go_cut [3] (fun p wx=>∃ Bm a3 c3 a4 c4,p=.pointer (some ⟨Bm,0,none⟩)/\Hid (Wa.heap.size<=Bm)/\Hid (BoxL wx Bm [.slice a3 coef.length c3,.slice a4 vars.length c4,.int .i64 rel,.int .i64 C]) /\
  wx.ownsRow Wa.heap.size 3 1 (.slice a3 coef.length c3) coef.length (coef.map (Value.int .i64))/\wx.ownsRow Wa.heap.size 3 1 (.slice a4 vars.length c4) vars.length (vars.map (Value.int .i64)) /\
  Hid (Apart (.slice a3 coef.length c3) (.slice a4 vars.length c4))/\Hid ((Value.slice a3 coef.length c3).ownBlock≠some Bm)/\Hid ((Value.slice a4 vars.length c4).ownBlock≠some Bm)/\Hid (Below Wa.heap.size Wa wx))
 case first =>
  go_region_held3 (fun W'=>W'.cell? ⟨w.heap.size,0,none⟩=some (.slice a0 coef.length c0)/\W'.cell? ⟨w.heap.size,1,none⟩=some (.slice a1 vars.length c1)/\W'.cell? ⟨w.heap.size,2,none⟩=some (.int .i64 rel)/\W'.cell? ⟨w.heap.size,3,none⟩=some (.int .i64 C)) ((refine HSW.out _ ?_;first | exact bw2 | exact ((((bw2.setCell (p:=⟨W1.heap.size,0,none⟩) bw1.size _).setCell (p:=⟨W1.heap.size,1,none⟩) bw1.size _).setCell (p:=⟨W1.heap.size,2,none⟩) bw1.size _).setCell (p:=⟨W1.heap.size,3,none⟩) bw1.size _) | exact ((((bw2.setCell (p:=⟨Wa.heap.size,0,none⟩) (rN _) _).setCell (p:=⟨Wa.heap.size,1,none⟩) (rN _) _).setCell (p:=⟨Wa.heap.size,2,none⟩) (rN _) _).setCell (p:=⟨Wa.heap.size,3,none⟩) (rN _) _) | exact (((((bL bw2 _).setCell (p:=⟨W2.heap.size,0,none⟩) bw2.size _).setCell (p:=⟨W2.heap.size,1,none⟩) bw2.size _).setCell (p:=⟨W2.heap.size,2,none⟩) bw2.size _).setCell (p:=⟨W2.heap.size,3,none⟩) bw2.size _) | exact bL bw2 _ | exact bw1 | exact bL bw1 _ | exact (Below.refl _ _).drew | exact (bA _) | exact (bA _).drew | go_grown))
   (first
    | (go_at_call 176;(with_reducible refine (CL0.out _ ?_).mono ?_);(·first | exact bw1 | exact bL bw1 _ | exact (Below.refl _ _).drew | exact bA _ | exact (bA _).drew | exact ((Below.refl _ _).drew).alloc (rN _) _ | go_grown);rintro e W1 ⟨a3,c3,rfl,i3,⟨B3,o3,hB3⟩,b3⟩;have bw1:Below Wa.heap.size Wa W1:=Below.trans (by first | exact bw1 | exact bL bw1 _ | exact (Below.refl _ _).drew | exact bA _ | exact (bA _).drew | exact ((Below.refl _ _).drew).alloc (rN _) _ | go_grown) (b3.mono (by first | exact rN _ | (simp;done) | (simp;omega)));clear i3;(try (have QB1:=hD (BoxL.laterD (by simp) b3)));(try (have QB1:=hD (BoxL.later (by simp) b3)));have OW3:=hD o3;have HB3:=hD hB3;have B31:=hD b3;clear o3 hB3 b3)
    | (go_at_call 176;(with_reducible refine (CL1.out _ ?_).mono ?_);(·first | exact bw1 | exact bL bw1 _ | exact (Below.refl _ _).drew | exact bA _ | exact (bA _).drew | exact ((Below.refl _ _).drew).alloc (rN _) _ | go_grown);rintro e W2 ⟨a4,c4,rfl,i4,⟨B4,o4,hB4⟩,b4⟩;have bw2:Below Wa.heap.size Wa W2:=Below.trans (by first | exact bw1 | exact bL bw1 _ | exact (Below.refl _ _).drew | exact bA _ | exact (bA _).drew | exact ((Below.refl _ _).drew).alloc (rN _) _ | go_grown) (b4.mono (by have:=bw1.size;first | exact this | (simp;done) | (simp;omega)));clear i4;(try (have QB2:=hD (QB1.out.below b4 (by have:=QB1.out.lt (by simp);simpa using this));obtain ⟨qc0,qf0⟩:=QB2.out.get 0 rfl;obtain ⟨qc1,qf1⟩:=QB2.out.get 1 rfl;obtain ⟨qc2,qf2⟩:=QB2.out.get 2 rfl;obtain ⟨qc3,qf3⟩:=QB2.out.get 3 rfl));(try (have QB2:=hD (BoxL.later (by simp) b4);obtain ⟨qc0,qf0⟩:=QB2.out.get 0 rfl;obtain ⟨qc1,qf1⟩:=QB2.out.get 1 rfl;obtain ⟨qc2,qf2⟩:=QB2.out.get 2 rfl;obtain ⟨qc3,qf3⟩:=QB2.out.get 3 rfl));have OW4:=hD o4;have HB4:=hD hB4;have B42:=hD b4;clear o4 hB4 b4))
  ·go_wp2_with fail
   go_meet
   have h31:W1.heap.size<=W2.heap.size:=B42.out.size
   have hs3:Wa.heap.size<=B3:=HB3.out
   have hAP:Apart (.slice a3 coef.length c3) (.slice a4 vars.length c4):=fun b hb he=>by have h1:=(OW3.out.lt b hb).2;have h2:=(OW4.out.lt b he).1;have h3:=HB4.out;omega
   exact ⟨_,a3,c3,a4,c4,rfl,hD bw2.size,hD (BoxL.mk' W2 #[.slice a3 coef.length c3,.slice a4 vars.length c4,.int .i64 rel,.int .i64 C] _),(own_below (own_base OW3.out hs3) B42.out).alloc _,(own_base OW4.out (Nat.le_trans bw1.size HB4.out)).alloc _,hD hAP,hD (own_far OW3.out h31),hD (own_far OW4.out (rN _)),hD (bL bw2 _)⟩
  ·go_wp2_with fail
   go_meet
   have hb42:Below W1.heap.size W1 W2:=Below.trans (bA _) (B42.out.mono (by simp))
   have h31:W1.heap.size<=W2.heap.size:=hb42.size
   have hs3:Wa.heap.size<=B3:=HB3.out
   have hs4:=HB4.out
   simp at hs4
   have hAP:Apart (.slice a3 coef.length c3) (.slice a4 vars.length c4):=fun b hb he=>by have h1:=(OW3.out.lt b hb).2;have h2:=(OW4.out.lt b he).1;omega
   have n4:(Value.slice a4 vars.length c4).ownBlock≠some W1.heap.size:=fun he=>by have h2:=(OW4.out.lt _ he).1;omega
   obtain ⟨x1,x2,x3,x4⟩:=notMeet (Wa:=Wa) W1.heap.size coef.length vars.length a3 a4 c3 c4 rel C _ _ QB2.out bw2 bw1.size (own_below (own_base OW3.out hs3) hb42) (own_base OW4.out (by have:=bw1.size;omega)) (own_far OW3.out (rN _)) n4 _ rfl
   exact ⟨_,a3,c3,a4,c4,rfl,hD bw1.size,x1,x2,x3,hD hAP,hD (own_far OW3.out (rN _)),hD n4,x4⟩
  ·go_wp2_with fail
   go_meet
   have h31:W1.heap.size<=W2.heap.size:=B42.out.size
   have hs3:Wa.heap.size+1<=B3:=by have:=HB3.out;simpa using this
   have hq1:Wa.heap.size<W1.heap.size:=QB1.out.lt (by simp)
   have hAP:Apart (.slice a3 coef.length c3) (.slice a4 vars.length c4):=fun b hb he=>by have h1:=(OW3.out.lt b hb).2;have h2:=(OW4.out.lt b he).1;have h3:=HB4.out;omega
   have n3:(Value.slice a3 coef.length c3).ownBlock≠some Wa.heap.size:=fun he=>by have h2:=(OW3.out.lt _ he).1;omega
   have n4:(Value.slice a4 vars.length c4).ownBlock≠some Wa.heap.size:=fun he=>by have h2:=(OW4.out.lt _ he).1;have h3:=HB4.out;omega
   obtain ⟨x1,x2,x3,x4⟩:=notMeet (Wa:=Wa) Wa.heap.size coef.length vars.length a3 a4 c3 c4 rel C _ _ QB2.out bw2 (rN _) (own_below (own_base OW3.out (by omega)) B42.out) (own_base OW4.out (Nat.le_trans bw1.size HB4.out)) n3 n4 _ rfl
   exact ⟨_,a3,c3,a4,c4,rfl,hD (rN _),x1,x2,x3,hD hAP,hD n3,hD n4,x4⟩
 case rest =>
  obtain ⟨Bm,a3,c3,a4,c4,rfl,HBm,HM,own3,own4,HAP,HN3,HN4,HBw⟩:=hcut
  have HL:=hD (HBL.out.below HBw.out (by have:=HSZ.out;omega))
  have HR:=hD (HBR.out.below HBw.out (by have:=HSZ.out;omega))
  have HLT:Hid (w.heap.size+1<Wa.heap.size):=by have:=HSZ.out;show _<_;omega
  clear sw0 sw1 sw2 sw3 HSW CL0 CL1 HBL HBR HWa
  rcases hr with hr | hr | hr
  ·
   subst hr
   have HMm:=hD (HM.out.set 2 (by simp) (.int .i64 2))
   have HRm:=hD (HR.out.far (a:=⟨Bm,2,none⟩) (by have:=HBm.out;have:=HSZ.out;dsimp only;omega) (.int .i64 2))
   have O3m:=hD (own_other own3 (a:=⟨Bm,2,none⟩) HN3.out (.int .i64 2))
   have O4m:=hD (own_other own4 (a:=⟨Bm,2,none⟩) HN4.out (.int .i64 2))
   have BWm:=hD (HBw.out.setCell (p:=⟨Bm,2,none⟩) HBm.out (.int .i64 2))
   obtain ⟨m2,mf2⟩:=HM.out.get 2 rfl
   obtain ⟨l2,_⟩:=HL.out.get 2 rfl
   obtain ⟨p0,_⟩:=HMm.out.get 0 rfl
   obtain ⟨p1,_⟩:=HMm.out.get 1 rfl
   obtain ⟨p2,_⟩:=HMm.out.get 2 rfl
   obtain ⟨p3,_⟩:=HMm.out.get 3 rfl
   obtain ⟨r0,rf0⟩:=HRm.out.get 0 rfl
   obtain ⟨r1,rf1⟩:=HRm.out.get 1 rfl
   obtain ⟨r2,rf2⟩:=HRm.out.get 2 rfl
   obtain ⟨r3,rf3⟩:=HRm.out.get 3 rfl
   have R4:=hD ((((HRm.out.set 0 (by simp) (.slice a3 coef.length c3)).set 1 (by simp) (.slice a4 vars.length c4)).set 2 (by simp) (.int .i64 2)).set 3 (by simp) (.int .i64 C))
   obtain ⟨s0,_⟩:=R4.out.get 0 rfl
   obtain ⟨s1,_⟩:=R4.out.get 1 rfl
   obtain ⟨s2,_⟩:=R4.out.get 2 rfl
   obtain ⟨s3,_⟩:=R4.out.get 3 rfl
   clear own3 own4
   go_wp2
   refine bodyPost_ret (v:=.agg #[.slice a3 coef.length c3,.slice a4 vars.length c4,.int .i64 2,.int .i64 C]) ?_ rfl ⟨_,_,rfl,?_,?_,?_,fun b hb=>Nat.le_trans HBW.out.size (O4m.out.lt b hb).1⟩
   ·simp [results,Tryz.results173,go_sem,s0,s1,s2,s3]
   ·exact SlAt.of_own (own_setCell (own_setCell (own_setCell (own_setCell O3m.out (a:=⟨w.heap.size+1,0,none⟩) HLT.out _) (a:=⟨w.heap.size+1,1,none⟩) HLT.out _) (a:=⟨w.heap.size+1,2,none⟩) HLT.out _) (a:=⟨w.heap.size+1,3,none⟩) HLT.out _)
   ·exact SlAt.of_own (own_setCell (own_setCell (own_setCell (own_setCell O4m.out (a:=⟨w.heap.size+1,0,none⟩) HLT.out _) (a:=⟨w.heap.size+1,1,none⟩) HLT.out _) (a:=⟨w.heap.size+1,2,none⟩) HLT.out _) (a:=⟨w.heap.size+1,3,none⟩) HLT.out _)
   ·exact (((((bT HBW.out BWm.out).setCell (p:=⟨w.heap.size+1,0,none⟩) (Nat.le_succ _) _).setCell (p:=⟨w.heap.size+1,1,none⟩) (Nat.le_succ _) _).setCell (p:=⟨w.heap.size+1,2,none⟩) (Nat.le_succ _) _).setCell (p:=⟨w.heap.size+1,3,none⟩) (Nat.le_succ _) _)
  ·
   subst hr
   have HMm:=hD (HM.out.set 2 (by simp) (.int .i64 1))
   have HRm:=hD (HR.out.far (a:=⟨Bm,2,none⟩) (by have:=HBm.out;have:=HSZ.out;dsimp only;omega) (.int .i64 1))
   have O3m:=hD (own_other own3 (a:=⟨Bm,2,none⟩) HN3.out (.int .i64 1))
   have O4m:=hD (own_other own4 (a:=⟨Bm,2,none⟩) HN4.out (.int .i64 1))
   have BWm:=hD (HBw.out.setCell (p:=⟨Bm,2,none⟩) HBm.out (.int .i64 1))
   obtain ⟨m2,mf2⟩:=HM.out.get 2 rfl
   obtain ⟨l2,_⟩:=HL.out.get 2 rfl
   obtain ⟨p0,_⟩:=HMm.out.get 0 rfl
   obtain ⟨p1,_⟩:=HMm.out.get 1 rfl
   obtain ⟨p2,_⟩:=HMm.out.get 2 rfl
   obtain ⟨p3,_⟩:=HMm.out.get 3 rfl
   obtain ⟨r0,rf0⟩:=HRm.out.get 0 rfl
   obtain ⟨r1,rf1⟩:=HRm.out.get 1 rfl
   obtain ⟨r2,rf2⟩:=HRm.out.get 2 rfl
   obtain ⟨r3,rf3⟩:=HRm.out.get 3 rfl
   have R4:=hD ((((HRm.out.set 0 (by simp) (.slice a3 coef.length c3)).set 1 (by simp) (.slice a4 vars.length c4)).set 2 (by simp) (.int .i64 1)).set 3 (by simp) (.int .i64 C))
   obtain ⟨s0,_⟩:=R4.out.get 0 rfl
   obtain ⟨s1,_⟩:=R4.out.get 1 rfl
   obtain ⟨s2,_⟩:=R4.out.get 2 rfl
   obtain ⟨s3,_⟩:=R4.out.get 3 rfl
   clear own3 own4
   go_wp2
   refine bodyPost_ret (v:=.agg #[.slice a3 coef.length c3,.slice a4 vars.length c4,.int .i64 1,.int .i64 C]) ?_ rfl ⟨_,_,rfl,?_,?_,?_,fun b hb=>Nat.le_trans HBW.out.size (O4m.out.lt b hb).1⟩
   ·simp [results,Tryz.results173,go_sem,s0,s1,s2,s3]
   ·exact SlAt.of_own (own_setCell (own_setCell (own_setCell (own_setCell O3m.out (a:=⟨w.heap.size+1,0,none⟩) HLT.out _) (a:=⟨w.heap.size+1,1,none⟩) HLT.out _) (a:=⟨w.heap.size+1,2,none⟩) HLT.out _) (a:=⟨w.heap.size+1,3,none⟩) HLT.out _)
   ·exact SlAt.of_own (own_setCell (own_setCell (own_setCell (own_setCell O4m.out (a:=⟨w.heap.size+1,0,none⟩) HLT.out _) (a:=⟨w.heap.size+1,1,none⟩) HLT.out _) (a:=⟨w.heap.size+1,2,none⟩) HLT.out _) (a:=⟨w.heap.size+1,3,none⟩) HLT.out _)
   ·exact (((((bT HBW.out BWm.out).setCell (p:=⟨w.heap.size+1,0,none⟩) (Nat.le_succ _) _).setCell (p:=⟨w.heap.size+1,1,none⟩) (Nat.le_succ _) _).setCell (p:=⟨w.heap.size+1,2,none⟩) (Nat.le_succ _) _).setCell (p:=⟨w.heap.size+1,3,none⟩) (Nat.le_succ _) _)
  ·
   subst hr
   obtain ⟨m0,mf0⟩:=HM.out.get 0 rfl
   obtain ⟨l2,_⟩:=HL.out.get 2 rfl
   go_wp2
   go_loopw [21] (fun s wr=>∃ k:Nat,k<=coef.length/\s=.int .i64 k/\Hid (BoxL wr w.heap.size [.slice a0 coef.length c0,.slice a1 vars.length c1,.int .i64 3,.int .i64 C])/\Hid (BoxL wr (w.heap.size+1) [.slice none 0 0,.slice none 0 0,.int .i64 0,.int .i64 0])/\Hid (BoxL wr Bm [.slice a3 coef.length c3,.slice a4 vars.length c4,.int .i64 3,.int .i64 C]) /\
    wr.ownsRow Wa.heap.size 3 1 (.slice a3 coef.length c3) coef.length ((negTo coef k).map (Value.int .i64))/\wr.ownsRow Wa.heap.size 3 1 (.slice a4 vars.length c4) vars.length (vars.map (Value.int .i64))/\Hid (Below Wa.heap.size Wa wr)) (fun s _=>coef.length - (intOf s).toNat)
   case atStart=>exact ⟨0,by omega,rfl,HL,HR,HM,by rw [negTo_zero];exact own3,own4,HBw⟩
   case round =>
    clear m0 mf0 l2 own3 own4 HL HR HM HBw
    obtain ⟨k,hk,rfl,HL,HR,HM,own3,own4,HBw⟩:=hrel
    obtain ⟨m0,mf0⟩:=HM.out.get 0 rfl
    by_cases hlt:k<coef.length
    ·have own3':=own3
     rcases own3.2 with ⟨_,h0⟩ | ⟨g3,cap3,cur,he,hg,hgg,hnc,_⟩
     ·omega
     ·simp only [Value.slice.injEq,true_and] at he
      obtain ⟨rfl,rfl⟩:=he
      have hc3:=own3'.cellAt k (by omega)
      have hf3:=own3'.frozenAt k
      rw [List.getElem?_map,negTo_at coef k hlt,Option.map_some] at hc3
      have hcb:=HCB.out _ (List.getElem_mem hlt)
      have S1:=hD (negTo_step coef k hlt)
      have hsl:=negTo_len coef k hk
      have j1:(k:Int)<coef.length:=by omega
      have hng:Bm≠g3:=fun e=>HN3.out (by rw [e];rfl)
      generalize coef[k]=z at *
      have OW:=hD own3
      have OV:=hD own4
      clear own3 own3' own4 hgg
      go_wp2
      go_region
      go_wp2
      refine ⟨⟨k+1,by omega,by go_num,hD (HL.out.far (a:=⟨g3,k,none⟩) (by have:=HSZ.out;dsimp only;omega) _),hD (HR.out.far (a:=⟨g3,k,none⟩) (by have:=HSZ.out;dsimp only;omega) _),hD (HM.out.far (a:=⟨g3,k,none⟩) hng _),?_,World.ownsRow.drew (own_other OV.out (a:=⟨g3,k,none⟩) (fun he=>HAP.out g3 rfl he) _),hD ((HBw.out.setCell (p:=⟨g3,k,none⟩) hg _).drew)⟩,by simp [intOf];omega⟩
      rw [S1.out,List.map_set]
      exact World.ownsRow.drew (OW.out.stored k _).1
    ·obtain rfl:k=coef.length:=by omega
     rw [negTo_all] at own3
     have HMm:=hD (HM.out.set 3 (by simp) (.int .i64 (-C - 1)))
     have HRm:=hD (HR.out.far (a:=⟨Bm,3,none⟩) (by have:=HBm.out;have:=HSZ.out;dsimp only;omega) (.int .i64 (-C - 1)))
     have O3m:=hD (own_other own3 (a:=⟨Bm,3,none⟩) HN3.out (.int .i64 (-C - 1)))
     have O4m:=hD (own_other own4 (a:=⟨Bm,3,none⟩) HN4.out (.int .i64 (-C - 1)))
     have BWm:=hD (HBw.out.setCell (p:=⟨Bm,3,none⟩) HBm.out (.int .i64 (-C - 1)))
     obtain ⟨m3,mf3⟩:=HM.out.get 3 rfl
     obtain ⟨l3,_⟩:=HL.out.get 3 rfl
     obtain ⟨p0,_⟩:=HMm.out.get 0 rfl
     obtain ⟨p1,_⟩:=HMm.out.get 1 rfl
     obtain ⟨p2,_⟩:=HMm.out.get 2 rfl
     obtain ⟨p3,_⟩:=HMm.out.get 3 rfl
     obtain ⟨r0,rf0⟩:=HRm.out.get 0 rfl
     obtain ⟨r1,rf1⟩:=HRm.out.get 1 rfl
     obtain ⟨r2,rf2⟩:=HRm.out.get 2 rfl
     obtain ⟨r3,rf3⟩:=HRm.out.get 3 rfl
     have R4:=hD ((((HRm.out.set 0 (by simp) (.slice a3 coef.length c3)).set 1 (by simp) (.slice a4 vars.length c4)).set 2 (by simp) (.int .i64 3)).set 3 (by simp) (.int .i64 (-C - 1)))
     obtain ⟨s0,_⟩:=R4.out.get 0 rfl
     obtain ⟨s1,_⟩:=R4.out.get 1 rfl
     obtain ⟨s2,_⟩:=R4.out.get 2 rfl
     obtain ⟨s3,_⟩:=R4.out.get 3 rfl
     clear own3 own4
     go_wp2
     refine bodyPost_ret (v:=.agg #[.slice a3 coef.length c3,.slice a4 vars.length c4,.int .i64 3,.int .i64 (-C - 1)]) ?_ rfl ⟨_,_,rfl,?_,?_,?_,fun b hb=>Nat.le_trans HBW.out.size (O4m.out.lt b hb).1⟩
     ·simp [results,Tryz.results173,go_sem,s0,s1,s2,s3]
     ·have h:=SlAt.of_own (own_setCell (own_setCell (own_setCell (own_setCell O3m.out (a:=⟨w.heap.size+1,0,none⟩) HLT.out (.slice a3 coef.length c3)) (a:=⟨w.heap.size+1,1,none⟩) HLT.out (.slice a4 vars.length c4)) (a:=⟨w.heap.size+1,2,none⟩) HLT.out (.int .i64 3)) (a:=⟨w.heap.size+1,3,none⟩) HLT.out (.int .i64 (-C - 1)))
      have e:notCoef 3 coef=coef.map fun z=>-z:=by simp [notCoef]
      rw [e]
      show SlAt _ 1 _ (coef.map fun z=>-z).length _
      rw [List.length_map];exact h
     ·exact SlAt.of_own (own_setCell (own_setCell (own_setCell (own_setCell O4m.out (a:=⟨w.heap.size+1,0,none⟩) HLT.out _) (a:=⟨w.heap.size+1,1,none⟩) HLT.out _) (a:=⟨w.heap.size+1,2,none⟩) HLT.out _) (a:=⟨w.heap.size+1,3,none⟩) HLT.out _)
     ·exact (((((bT HBW.out BWm.out).setCell (p:=⟨w.heap.size+1,0,none⟩) (Nat.le_succ _) _).setCell (p:=⟨w.heap.size+1,1,none⟩) (Nat.le_succ _) _).setCell (p:=⟨w.heap.size+1,2,none⟩) (Nat.le_succ _) _).setCell (p:=⟨w.heap.size+1,3,none⟩) (Nat.le_succ _) _)
theorem rgAt_box2 {W:World} {M:Nat} {a b:Int} (h:Box2 W M (.int .i64 a) (.int .i64 b)):RgAt W (.slice (some ⟨M,0,none⟩) 1 1) [(a,b)]:=by
 refine ⟨rfl,some ⟨M,0,none⟩,1,rfl,rN _,by simp [maxLen],fun e=>(by cases e),fun _=>⟨M,0,rfl,h.lt,fun j hj=>?_⟩⟩
 match j,hj with
 | 0,_=>simpa [cellsR] using h.c0
 | 1,_=>simpa [cellsR] using h.c1
theorem NarR.bool {r:Option Ks} {B bo g:Nat} {out:Ds} {W:World} {e:Ending} {W':World} (h:NarR r B bo g out W e W') :
  ∃ b,e=.returned (.bool b)/\Below B W W'/\Stay W W' g/\((∃ ks,r=some ks/\b=true/\OutAt W' B bo g (keepsL ks out))\/(r=none/\b=false)):=by
 obtain ⟨h1,h2,⟨ks,h3,rfl,h5⟩ | ⟨h3,rfl⟩⟩:=h
 ·exact ⟨true,rfl,h1,h2,.inl ⟨ks,h3,rfl,h5⟩⟩
 ·exact ⟨false,rfl,h1,h2,.inr ⟨h3,rfl⟩⟩
theorem good_not {coef vars:List Int} {ds:Ds} (h:GoodL coef vars ds) (rel:Int):GoodL (notCoef rel coef) vars ds:=by
 unfold notCoef
 split
 ·exact h
 ·refine ⟨by simp [h.len],by simpa using h.le16,fun c hc=>?_,h.vars,h.doms⟩
  obtain ⟨z,hz,rfl⟩:=List.mem_map.1 hc
  have:=h.coefs z hz
  omega
theorem not_rel {rel:Int} (hr:rel=1\/rel=2\/rel=3):notRel rel=1\/notRel rel=2\/notRel rel=3:=by
 rcases hr with rfl | rfl | rfl <;> simp [notRel]
theorem not_nz {rel:Int} {coef:List Int} (h:∀ c∈coef,c≠0):∀ c∈notCoef rel coef,c≠0:=by
 unfold notCoef
 split
 ·exact h
 ·intro c hc
  obtain ⟨z,hz,rfl⟩:=List.mem_map.1 hc
  have:=h z hz
  omega
theorem reif_yes (x rel c:Int) (coef vars:List Int) (was:Ds) (h1:(inD 1&&memL (domOf was x) 1)=true) (h0:(inD 0&&memL (domOf was x) 0)=false) :
  reifKs x rel c coef vars was=(linKs rel c (coef.zip vars) vars was).map fun ks=>(x,mayL (saysL rel c was (coef.zip vars)))::ks:=by
 unfold reifKs;simp only [h1,h0];rfl
theorem reif_no (x rel c:Int) (coef vars:List Int) (was:Ds) (h1:(inD 1&&memL (domOf was x) 1)=false) (h0:(inD 0&&memL (domOf was x) 0)=true) :
  reifKs x rel c coef vars was=(linKs (notRel rel) (notC rel c) ((notCoef rel coef).zip vars) vars was).map fun ks=>(x,mayL (saysL rel c was (coef.zip vars)))::ks:=by
 unfold reifKs;simp only [h1,h0];rfl
theorem reif_same (x rel c:Int) (coef vars:List Int) (was:Ds) (b:Bool) (h1:(inD 1&&memL (domOf was x) 1)=b) (h0:(inD 0&&memL (domOf was x) 0)=b) :
  reifKs x rel c coef vars was=some [(x,mayL (saysL rel c was (coef.zip vars)))]:=by
 unfold reifKs;simp only [h1,h0];cases b <;> rfl
theorem narReif_c (va vb vds:Value) (nx:Nat) (rel C:Int) (coef vars:List Int) (was out:Ds) (w0 W:World) (B bo g:Nat) (hB:w0.heap.size=B) (hW:Below B w0 W) (h0:IsAt w0 va coef) (h1:IsAt w0 vb vars) (hd:DsAt w0 vds was)
  (hg:GoodL coef vars was) (hr:rel=1\/rel=2\/rel=3) (hC:-1099511627776<=C/\C<=1099511627776) (hnz:∀ c∈coef,c≠0) (hx:nx<was.length) (hdl:was.length<=4096) (hN:AllN was) (ho:OutAt W B bo g out) (hol:out.length=was.length) :
  Calls Tryz.prog 170 #[.agg #[.int .i64 nx,va,vb,.int .i64 rel,.int .i64 C],vds,.func (.func 92) #[] #[.pointer (some ⟨bo,0,none⟩)]] W (NarR (reifKs nx rel C coef vars was) B bo g out W):=by
 subst hB
 obtain ⟨a0,c0,rfl,_⟩:=IsAt.shape h0
 obtain ⟨a1,c1,rfl,hc1,_⟩:=IsAt.shape h1
 obtain ⟨a2,c2,rfl,_⟩:=hd.shape
 have hWl:=hW.size
 have HO:=hD ho
 have HW:=hD hW
 have HG:Hid (g<W.heap.size):=by
  obtain ⟨us,_,ow,_⟩:=HO.out.own
  exact (ow.lt g rfl).2
 have hneb:W.heap.size≠g:=by have:=HG.out;omega
 obtain ⟨bx,ox,ax,cx,rfl,qx,lx,_,x2,x3⟩:=hd.get nx hx
 have nX:=allN_at hN hx
 have tX:=normal_len nX
 have hdom:domOf was (nx:Int)=was[nx]:=domOf_nat hx
 have CS:Hid (∀ W1,Below w0.heap.size w0 W1->Calls Tryz.prog 159 #[.agg #[.slice a0 coef.length c0,.slice a1 vars.length c1,.int .i64 rel,.int .i64 C],.slice (some ⟨bx,ox,none⟩) was.length c2] W1 fun e w'=>e=.returned (.int .i64 (saysL rel C was (coef.zip vars)))/\Below W1.heap.size W1 w'):=fun W1 h =>
  says_c _ _ _ rel C coef vars was W1 (h0.below h) (h1.below h) (hd.below h) hg hr
 have CH:Hid (∀ n W1,Below w0.heap.size w0 W1->Calls Tryz.prog 172 #[.slice ax was[nx].length cx,.int .i64 n] W1 fun e w'=>e=.returned (.bool (inD n&&memL was[nx] n))/\Below W1.heap.size W1 w'):=fun n W1 h=>has_c _ _ n W1 (x3.below h) (by omega)
 have CL:Hid (∀ W1 out1,Below w0.heap.size w0 W1->OutAt W1 w0.heap.size bo g out1->out1.length=was.length->Calls Tryz.prog 155 #[.agg #[.slice a0 coef.length c0,.slice a1 vars.length c1,.int .i64 rel,.int .i64 C],.slice (some ⟨bx,ox,none⟩) was.length c2,.func (.func 92) #[] #[.pointer (some ⟨bo,0,none⟩)]] W1 (NarR (linKs rel C (coef.zip vars) vars was) w0.heap.size bo g out1 W1)):=fun W1 out1 h ho1 hl1 =>
  narLin_c _ _ _ rel C coef vars was out1 w0 W1 w0.heap.size bo g rfl h (h0.below h) (h1.below h) (fun hv b hb=>by
   have h4:=ho1.gl
   obtain ⟨b',_,rfl,_,hb',_⟩:=h1.get 0 hv
   simp [Value.ownBlock] at hb;omega) hd hg hr (by omega) hnz hdl hN ho1 hl1
 have CN:Hid (∀ W1,Below w0.heap.size w0 W1->Calls Tryz.prog 173 #[.agg #[.slice a0 coef.length c0,.slice a1 vars.length c1,.int .i64 rel,.int .i64 C]] W1 fun e w'=>∃ v0 v1,e=.returned (.agg #[v0,v1,.int .i64 (notRel rel),.int .i64 (notC rel C)])/\IsAt w' v0 (notCoef rel coef)/\IsAt w' v1 vars/\Below W1.heap.size W1 w'/\∀ b,v1.ownBlock=some b->W1.heap.size<=b):=fun W1 h =>
  not_c _ _ rel C coef vars W1 (h0.below h) (h1.below h) hg.le16 (by have:=hg.len;have:=hg.le16;omega) hr (by omega) hg.coefs
 have CLN:Hid (∀ W1 out1 v0 v1,Below w0.heap.size w0 W1->OutAt W1 w0.heap.size bo g out1->out1.length=was.length->IsAt W1 v0 (notCoef rel coef)->IsAt W1 v1 vars->(∀ b,v1.ownBlock=some b->b≠g)->Calls Tryz.prog 155 #[.agg #[v0,v1,.int .i64 (notRel rel),.int .i64 (notC rel C)],.slice (some ⟨bx,ox,none⟩) was.length c2,.func (.func 92) #[] #[.pointer (some ⟨bo,0,none⟩)]] W1 (NarR (linKs (notRel rel) (notC rel C) ((notCoef rel coef).zip vars) vars was) w0.heap.size bo g out1 W1)):=fun W1 out1 v0 v1 h ho1 hl1 i0 i1 hn =>
  narLin_c _ _ _ (notRel rel) (notC rel C) (notCoef rel coef) vars was out1 w0 W1 w0.heap.size bo g rfl h i0 i1 (fun _=>hn) hd (good_not hg rel) (not_rel hr) (by unfold notC;split <;> omega) (not_nz hnz) hdl hN ho1 hl1
 have HC:Hid (∀ W1,Below w0.heap.size w0 W1->W1.cell? ⟨bx,ox+nx,none⟩=some (.slice ax was[nx].length cx)):=fun W1 h=>(h.cell (p:=⟨bx,ox+nx,none⟩) lx).trans x2
 have hsv:=says_vals rel C was (coef.zip vars)
 have RY:=hD (reif_yes nx rel C coef vars was)
 have RN:=hD (reif_no nx rel C coef vars was)
 have RS:=hD (reif_same nx rel C coef vars was)
 rw [hdom] at RY RN RS
 have E0:=hD hol
 have jx:(nx:Int)<was.length:=by omega
 clear h0 h1 hd hg hnz hN ho hW hol x2 x3 nX tX hdom hC
 generalize saysL rel C was (coef.zip vars)=s at *
 generalize linKs rel C (coef.zip vars) vars was=K1 at *
 generalize linKs (notRel rel) (notC rel C) ((notCoef rel coef).zip vars) vars was=K0 at *
 generalize notRel rel=nrel at *
 generalize notC rel C=nC at *
 generalize notCoef rel coef=ncoef at *
 generalize hone:(inD 1&&memL was[nx] 1)=one at *
 generalize hnou:(inD 0&&memL was[nx] 0)=nou at *
 have CH1:Hid (∀ W1,Below w0.heap.size w0 W1->Calls Tryz.prog 172 #[.slice ax was[nx].length cx,.int .i64 1] W1 fun e w'=>e=.returned (.bool one)/\Below W1.heap.size W1 w'):=fun W1 h=>by have:=CH.out 1 W1 h;rwa [hone] at this
 have CH0:Hid (∀ W1,Below w0.heap.size w0 W1->Calls Tryz.prog 172 #[.slice ax was[nx].length cx,.int .i64 0] W1 fun e w'=>e=.returned (.bool nou)/\Below W1.heap.size W1 w'):=fun W1 h=>by have:=CH.out 0 W1 h;rwa [hnou] at this
 clear hone hnou CH
 generalize reifKs nx rel C coef vars was=RK at *
 generalize was[nx].length=xl at *
 have HM:=hD (show mayL s=if s=1 then [(1,1)] else if s=-1 then [(0,0)] else [(0,1)] from rfl)
 have hml:(mayL s).length<=1:=by unfold mayL;split <;> (try split) <;> simp
 obtain ⟨Wm,hWm⟩:∃ Wm,Wm=(W.alloc (.cells #[.int .i64 nx,.slice a0 coef.length c0,.slice a1 vars.length c1,.int .i64 rel,.int .i64 C] 126)).alloc (.cells #[.int .i64 0,.int .i64 1] 77):=⟨_,rfl⟩
 have hszb:(W.alloc (.cells #[.int .i64 nx,.slice a0 coef.length c0,.slice a1 vars.length c1,.int .i64 rel,.int .i64 C] 126)).heap.size=W.heap.size+1:=by simp
 have HXm:Hid (BoxL Wm W.heap.size [.int .i64 nx,.slice a0 coef.length c0,.slice a1 vars.length c1,.int .i64 rel,.int .i64 C]):=by
  rw [hWm]
  exact (BoxL.mk' W #[.int .i64 nx,.slice a0 coef.length c0,.slice a1 vars.length c1,.int .i64 rel,.int .i64 C] 126).below (bA _) (by simp)
 have HMm:Hid (Box2 Wm (W.heap.size+1) (.int .i64 0) (.int .i64 1)):=by
  have h:=Box2.mk' (W.alloc (.cells #[.int .i64 nx,.slice a0 coef.length c0,.slice a1 vars.length c1,.int .i64 rel,.int .i64 C] 126)) (.int .i64 0) (.int .i64 1) 77
  rw [hszb] at h
  rw [hWm];exact h
 have HWm:Hid (Below W.heap.size W Wm):=by rw [hWm];exact (bA _).alloc (by simp) _
 have HBm:=hD (HW.out.trans (HWm.out.mono hWl))
 go_enter Tryz.func170,Tryz.ntmps170
 go_upto_region 2 with fail
 rw [<- hWm]
 have HWM:=hD hWm
 clear hWm hszb
 obtain ⟨l1,_⟩:=HXm.out.get 1 rfl
 obtain ⟨l2,_⟩:=HXm.out.get 2 rfl
 obtain ⟨l3,_⟩:=HXm.out.get 3 rfl
 obtain ⟨l4,_⟩:=HXm.out.get 4 rfl
 go_upto_block 0 with (go_at_call 159;(with_reducible refine (CS.out _ HBm.out).mono ?_);rintro e W2 ⟨rfl,b2⟩;have B2:=hD (bT HWm.out b2);have X2:=hD (HXm.out.below b2 (HXm.out.lt (by simp)));have M2:=hD (HMm.out.below b2 HMm.out.lt);obtain ⟨m0,m1,mf0,mf1⟩:=M2.out;clear b2)
 go_cut [21] (fun p wx=>Hid (BoxL wx W.heap.size [.int .i64 nx,.slice a0 coef.length c0,.slice a1 vars.length c1,.int .i64 rel,.int .i64 C])/\Hid (RgAt wx (.slice (some ⟨W.heap.size+1,0,none⟩) 1 1) (mayL s))/\Hid (Below W.heap.size W wx))
 case first =>
  rcases hsv with rfl | rfl | rfl
  ·go_wp2_with (go_at_call 159;(with_reducible refine (CS.out _ HBm.out).mono ?_);rintro e W2 ⟨rfl,b2⟩;have B2:=hD (bT HWm.out b2);have X2:=hD (HXm.out.below b2 (HXm.out.lt (by simp)));have M2:=hD (HMm.out.below b2 HMm.out.lt);obtain ⟨m0,m1,mf0,mf1⟩:=M2.out;clear b2)
   go_meet
   exact ⟨hD (X2.out.far (a:=⟨W.heap.size+1,0,none⟩) (by dsimp only;omega) _),hD (rgAt_box2 (M2.out.set0 (.int .i64 1))),hD (B2.out.setCell (p:=⟨W.heap.size+1,0,none⟩) (Nat.le_succ _) _)⟩
  ·go_wp2_with (go_at_call 159;(with_reducible refine (CS.out _ HBm.out).mono ?_);rintro e W2 ⟨rfl,b2⟩;have B2:=hD (bT HWm.out b2);have X2:=hD (HXm.out.below b2 (HXm.out.lt (by simp)));have M2:=hD (HMm.out.below b2 HMm.out.lt);obtain ⟨m0,m1,mf0,mf1⟩:=M2.out;clear b2)
   go_meet
   exact ⟨X2,hD (rgAt_box2 M2.out),B2⟩
  ·go_wp2_with (go_at_call 159;(with_reducible refine (CS.out _ HBm.out).mono ?_);rintro e W2 ⟨rfl,b2⟩;have B2:=hD (bT HWm.out b2);have X2:=hD (HXm.out.below b2 (HXm.out.lt (by simp)));have M2:=hD (HMm.out.below b2 HMm.out.lt);obtain ⟨m0,m1,mf0,mf1⟩:=M2.out;clear b2)
   go_meet
   exact ⟨hD (X2.out.far (a:=⟨W.heap.size+1,1,none⟩) (by dsimp only;omega) _),hD (rgAt_box2 (M2.out.set1 (.int .i64 0))),hD (B2.out.setCell (p:=⟨W.heap.size+1,1,none⟩) (Nat.le_succ _) _)⟩
 case rest =>
  obtain ⟨X3,R3,B3⟩:=hcut
  clear l1 l2 l3 l4 hsv HM
  have BW3:=hD (HW.out.trans (B3.out.mono hWl))
  have O3:=hD (HO.out.below B3.out)
  obtain ⟨l0,_⟩:=X3.out.get 0 rfl
  have hmlen:(mayL s).length=1:=by unfold mayL;split <;> (try split) <;> rfl
  have CK:Hid (Calls Tryz.prog 92 #[.int .i64 nx,.slice (some ⟨W.heap.size+1,0,none⟩) 1 1,.pointer (some ⟨bo,0,none⟩)] wc fun e W'=>(∃ u,e=.returned u)/\OutAt W' w0.heap.size bo g (keepL out ((nx:Int),mayL s))/\Below w0.heap.size wc W'/\Stay wc W' g) :=
   keep_c w0.heap.size bo g nx out (mayL s) _ wc O3.out (by rw [E0.out];exact hx) R3.out (by omega) BW3.out.size (by rw [E0.out];exact hdl)
  have E1:Hid ((keepL out ((nx:Int),mayL s)).length=was.length):=by show _=_;rw [keepL_len];exact E0.out
  obtain ⟨out1,hout1⟩:∃ o,o=keepL out ((nx:Int),mayL s):=⟨_,rfl⟩
  rw [<- hout1] at CK E1
  have KS:Hid (∀ ks,keepsL (((nx:Int),mayL s)::ks) out=keepsL ks out1):=fun ks=>by rw [hout1];rfl
  clear hmlen hml hout1
  generalize mayL s=may at *
  go_upto_region 8 with (go_at_call 92;(with_reducible refine CK.out.mono ?_);rintro e W4 ⟨⟨u,rfl⟩,o4,b4,s4⟩;have BW4:=hD (BW3.out.trans b4);have SW4:=hD ((Stay.of_below B3.out).trans s4);have X4:=hD (X3.out.stay (by simp) s4 hneb);have O4:=hD o4;clear o4 b4 s4)
  clear l0
  have P8:Hid (∀ W1,Below W4.heap.size W4 W1->W1.cell? ⟨W.heap.size,0,none⟩=some (.int .i64 nx)/\W1.cell? ⟨bx,ox+nx,none⟩=some (.slice ax xl cx)):=fun W1 h=>⟨((X4.out.below h (X4.out.lt (by simp))).get 0 rfl).1,HC.out W1 (bT BW4.out h)⟩
  obtain ⟨l0,lx0⟩:=P8.out W4 (Below.refl _ _)
  go_region_held3 (fun W'=>W'.cell? ⟨W.heap.size,0,none⟩=some (.int .i64 nx)/\W'.cell? ⟨bx,ox+nx,none⟩=some (.slice ax xl cx)) ((first | exact P8.out _ (Below.refl _ _) | exact P8.out _ ((Below.refl _ _).drew) | exact P8.out _ B5.out | exact P8.out _ B6.out))
   (first
    | (go_at_call 172;(with_reducible refine (CH1.out _ BW4.out.drew).mono ?_);rintro e W5 ⟨rfl,b5⟩;have B5:Hid (Below W4.heap.size W4 W5):=Below.trans ((Below.refl _ W4).drew) b5;have BW5:=hD (bT BW4.out B5.out);clear b5)
    | (go_at_call 172;(with_reducible refine (CH0.out _ BW5.out).mono ?_);rintro e W6 ⟨rfl,b6⟩;have B6:Hid (Below W4.heap.size W4 W6):=bT B5.out b6;have BW6:=hD (bT BW4.out B6.out);clear b6))
  clear l0 lx0
  have X6:=hD (X4.out.below B6.out (X4.out.lt (by simp)))
  have O6:=hD (O4.out.below B6.out)
  have SW6:=hD (SW4.out.trans (Stay.of_below B6.out))
  obtain ⟨l0,_⟩:=X6.out.get 0 rfl
  obtain ⟨l1,_⟩:=X6.out.get 1 rfl
  obtain ⟨l2,_⟩:=X6.out.get 2 rfl
  obtain ⟨l3,_⟩:=X6.out.get 3 rfl
  obtain ⟨l4,_⟩:=X6.out.get 4 rfl
  rcases Bool.eq_false_or_eq_true one with rfl | rfl <;> rcases Bool.eq_false_or_eq_true nou with rfl | rfl
  ·
   have RX:=hD (RS.out true rfl rfl)
   go_wp2
   go_ret
   exact ⟨below_of HW.out BW6.out SW6.out.1,SW6.out,.inl ⟨[((nx:Int),may)],RX.out,rfl,by rw [KS.out];exact O6.out⟩⟩
  ·
   have RX:=hD (RY.out rfl rfl)
   have CL1:=hD (CL.out W6 out1 BW6.out O6.out E1.out)
   go_wp2_with (go_at_call 155;(with_reducible refine CL1.out.mono ?_);rintro e W7 h7;obtain ⟨b,rfl,b7,s7,hx7⟩:=h7.bool;have BW7:=hD (BW6.out.trans b7))
   go_ret
   refine ⟨below_of HW.out BW7.out (Nat.le_trans SW6.out.1 s7.1),SW6.out.trans s7,?_⟩
   rcases hx7 with ⟨ks,hk,rfl,o7⟩ | ⟨hk,rfl⟩
   ·exact .inl ⟨((nx:Int),may)::ks,by rw [RX.out,hk];rfl,rfl,by rw [KS.out];exact o7⟩
   ·exact .inr ⟨by rw [RX.out,hk];rfl,rfl⟩
  ·
   have RX:=hD (RN.out rfl rfl)
   have CN1:=hD (CN.out W6 BW6.out)
   go_wp2_with (first
    | (go_at_call 173;(with_reducible refine CN1.out.mono ?_);rintro e W8 ⟨v0,v1,rfl,i0,i1,b8,n8⟩;have BW8:=hD (bT BW6.out b8);have SW8:=hD (SW6.out.trans (Stay.of_below b8));have CL2:=hD (CLN.out W8 out1 v0 v1 BW8.out (O6.out.below b8) E1.out i0 i1 (fun b hb=>by have h1:=n8 b hb;have h2:=SW6.out.1;have h3:=HG.out;omega));clear b8 i0 i1 n8)
    | (go_at_call 155;(with_reducible refine CL2.out.mono ?_);rintro e W7 h7;obtain ⟨b,rfl,b7,s7,hx7⟩:=h7.bool;have BW7:=hD (BW8.out.trans b7)))
   go_ret
   refine ⟨below_of HW.out BW7.out (Nat.le_trans SW8.out.1 s7.1),SW8.out.trans s7,?_⟩
   rcases hx7 with ⟨ks,hk,rfl,o7⟩ | ⟨hk,rfl⟩
   ·exact .inl ⟨((nx:Int),may)::ks,by rw [RX.out,hk];rfl,rfl,by rw [KS.out];exact o7⟩
   ·exact .inr ⟨by rw [RX.out,hk];rfl,rfl⟩
  ·
   have RX:=hD (RS.out false rfl rfl)
   go_wp2
   go_ret
   exact ⟨below_of HW.out BW6.out SW6.out.1,SW6.out,.inl ⟨[((nx:Int),may)],RX.out,rfl,by rw [KS.out];exact O6.out⟩⟩
end
end Go.Proofs.YtaekdgikgbdnnaaGreat
