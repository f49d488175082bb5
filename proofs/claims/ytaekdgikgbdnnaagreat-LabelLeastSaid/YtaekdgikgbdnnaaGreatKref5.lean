/-
  The reference's cut of layer 16, walked (printed by genrf3.py).
  The reference's cut of layer 16, of any constraint; what its Once does place by place.
  The reference's Once of layer 16: what its walks share.
-/
import Derived.Test.YtaekdgikgbdnnaaGreatKonce7
import Derived.Test.YtaekdgikgbdnnaaGreatKonce3
import Derived.Test.YtaekdgikgbdnnaaGreatKonce8
import Derived.Test.YtaekdgikgbdnnaaGreatKonce1
import Derived.Test.YtaekdgikgbdnnaaGreatKref2
import Derived.Test.YtaekdgikgbdnnaaGreatKref1
namespace Go.Proofs.YtaekdgikgbdnnaaGreat
section
open Go.RowKit
set_option maxRecDepth 100000
set_option maxHeartbeats 6400000
theorem cut_any (kind:Int) (a0 a1 a2:Option Addr) (n0 n1 n2 c0 c1 c2:Nat) (rel c x y z:Int) (ad:Option Addr) (nd cd:Nat) (s:Int) (place:Nat) (va:Value) (D:List Rg) (st:Int->Bool) (w:World)
  (hd:RgAt w va D) (hD:Normal D)
  (hcs:∀ W,Below w.heap.size w W->∀ v:Int,-200<=v/\v<=200->Calls Tryz.prog 110 #[.agg #[.int .i64 kind,.slice a0 n0 c0,.slice a1 n1 c1,.int .i64 rel,.int .i64 c,.int .i64 x,.int .i64 y,.int .i64 z,.slice a2 n2 c2],.slice ad nd cd,.int .i64 s,.int .i64 place,.int .i64 v] W fun e w'=>e=.returned (.bool (st v))/\Below W.heap.size W w')
  (hsy:kind=4->place=0->∀ W,Below w.heap.size w W->Calls Tryz.prog 109 #[.agg #[.slice a0 n0 c0,.slice a1 n1 c1,.int .i64 rel,.int .i64 c],.slice ad nd cd] W fun e w'=>e=.returned (.int .i64 s)/\Below W.heap.size W w')
  (hs0:¬ (kind=4/\place=0)->s=0) :
  Calls Tryz.prog 96 #[.agg #[.int .i64 kind,.slice a0 n0 c0,.slice a1 n1 c1,.int .i64 rel,.int .i64 c,.int .i64 x,.int .i64 y,.int .i64 z,.slice a2 n2 c2],.slice ad nd cd,.int .i64 place,va] w (RetN (canon fun v=>memL D v&&st v) w):=by
 obtain ⟨i0,hi,hz0,hz1,hz2⟩:=info_parts Tryz.infoRg
 obtain ⟨ao,cap,rfl,_⟩:=hd.shape
 have HD:=Lib.hid hd
 have HBD:=Lib.hid hD.bounds
 have hDl:=normal_len hD
 have HG:Hid (∀ k,((goneL st (D.take k)).length:Int)<=402):=fun k=>by
  have h1:=goneL_len st (D.take k) (fun r hr=>(hD.bounds r (List.mem_of_mem_take hr)).2.1)
  have h2:=sizeL_le (D:=D.take k) (normal_take hD k)
  omega
 have HGB:Hid (∀ k,∀ r∈goneL st (D.take k),-200<=r.2/\r.2<=200):=fun k=>goneL_bnd st (D.take k) (fun q hq=>hD.bounds q (List.mem_of_mem_take hq))
 have HE:=Lib.hid (cut_glue D hD st)
 have HS:=Lib.hid (goneL_step st D)
 have CS:=Lib.hid hcs
 have CY:=Lib.hid hsy
 have HZ1:Hid (Below w.heap.size w ((w.alloc (.cells #[.int .i64 kind,.slice a0 n0 c0,.slice a1 n1 c1,.int .i64 rel,.int .i64 c,.int .i64 x,.int .i64 y,.int .i64 z,.slice a2 n2 c2] 67)).alloc (.cells #[] 77))):=(bA _).alloc (by simp) _
 have HPK:Hid (∀ W,Below ((w.alloc (.cells #[.int .i64 kind,.slice a0 n0 c0,.slice a1 n1 c1,.int .i64 rel,.int .i64 c,.int .i64 x,.int .i64 y,.int .i64 z,.slice a2 n2 c2] 67)).alloc (.cells #[] 77)).heap.size ((w.alloc (.cells #[.int .i64 kind,.slice a0 n0 c0,.slice a1 n1 c1,.int .i64 rel,.int .i64 c,.int .i64 x,.int .i64 y,.int .i64 z,.slice a2 n2 c2] 67)).alloc (.cells #[] 77)) W->Below w.heap.size w W/\(∀ wi,Below (w.heap.size+1) W wi->wi.cell? ⟨w.heap.size,0,none⟩=some (.int .i64 kind)/\wi.cell? ⟨w.heap.size,1,none⟩=some (.slice a0 n0 c0)/\wi.cell? ⟨w.heap.size,2,none⟩=some (.slice a1 n1 c1)/\wi.cell? ⟨w.heap.size,3,none⟩=some (.int .i64 rel)/\wi.cell? ⟨w.heap.size,4,none⟩=some (.int .i64 c)/\wi.cell? ⟨w.heap.size,5,none⟩=some (.int .i64 x)/\wi.cell? ⟨w.heap.size,6,none⟩=some (.int .i64 y)/\wi.cell? ⟨w.heap.size,7,none⟩=some (.int .i64 z)/\wi.cell? ⟨w.heap.size,8,none⟩=some (.slice a2 n2 c2))/\W.ownsRow (w.heap.size+1) 77 2 (.slice (some ⟨w.heap.size+1,0,none⟩) 0 0) 0 []/\w.heap.size+1<=W.heap.size):=fun W h=>by
  have hb:=HZ1.out.trans (h.mono (by simp;omega))
  have hr:Below (w.alloc (.cells #[.int .i64 kind,.slice a0 n0 c0,.slice a1 n1 c1,.int .i64 rel,.int .i64 c,.int .i64 x,.int .i64 y,.int .i64 z,.slice a2 n2 c2] 67)).heap.size (w.alloc (.cells #[.int .i64 kind,.slice a0 n0 c0,.slice a1 n1 c1,.int .i64 rel,.int .i64 c,.int .i64 x,.int .i64 y,.int .i64 z,.slice a2 n2 c2] 67)) W:=(bA _).trans (h.mono (by simp))
  refine ⟨hb,fun wi hi=>box9 (T:=67) ?_,?_,?_⟩
  ·have e:(w.alloc (.cells #[.int .i64 kind,.slice a0 n0 c0,.slice a1 n1 c1,.int .i64 rel,.int .i64 c,.int .i64 x,.int .i64 y,.int .i64 z,.slice a2 n2 c2] 67)).heap.size=w.heap.size+1:=by simp
   rw [e] at hr |-
   exact hr.trans hi
  ·have h1:=World.ownsRow_made (base:=w.heap.size+1) (e:=77) (size:=2) (w.alloc (.cells #[.int .i64 kind,.slice a0 n0 c0,.slice a1 n1 c1,.int .i64 rel,.int .i64 c,.int .i64 x,.int .i64 y,.int .i64 z,.slice a2 n2 c2] 67)) #[] 0 (by simp) (by decide) rfl
   rw [show (w.alloc (.cells #[.int .i64 kind,.slice a0 n0 c0,.slice a1 n1 c1,.int .i64 rel,.int .i64 c,.int .i64 x,.int .i64 y,.int .i64 z,.slice a2 n2 c2] 67)).heap.size=w.heap.size+1 by simp] at h1
   exact own_below h1 h
  ·have:=h.size;simp at this;omega
 generalize canon (fun v=>memL D v&&st v)=R at *
 clear hd hD hcs hsy
 by_cases hk:kind=4
 ·have g4:(kind==4)=true:=by simpa using hk
  by_cases hp:place=0
  ·have gp:((place:Int)==0)=true:=by simp;omega
   have CY2:=Lib.hid (CY.out hk hp)
   clear CY hs0 hk hp
   go_enter Tryz.func96,Tryz.ntmps96
   go_wp2_with (go_at_call 109;(with_reducible refine (CY2.out _ HZ1.out).mono ?_);rintro e W ⟨rfl,bb⟩;have HWW:=Lib.hid (HPK.out W bb);clear bb)
   obtain ⟨hw0,hy0,how,hWs⟩:=HWW.out
   have HW:=Lib.hid hw0
   have HY:=Lib.hid hy0
   have HOW:=Lib.hid how
   clear HWW hw0 hy0 how HPK HZ1
   go_loopw [9,11,12] (fun o q _ wr=>∃ k:Nat,k<=D.length/\q=.int .i64 k/\wr.ownsRow (w.heap.size+1) 77 2 o (glueL (goneL st (D.take k))).length (cellsR (glueL (goneL st (D.take k))))/\Below (w.heap.size+1) W wr) (fun _ q _ _=>D.length - (intOf q).toNat)
   case atStart=>exact ⟨0,by omega,rfl,by rw [show glueL (goneL st (D.take 0))=[] from rfl];exact HOW.out,Below.refl _ _⟩
   case round =>
    obtain ⟨k,hk,rfl,hown,hbel⟩:=hrel
    have HB:=Lib.hid hbel
    have hle:=hbel.size
    clear hbel
    by_cases hlt:k<D.length
    ·obtain ⟨bd,od,cd',he,_,hbd,hcs⟩:=RgAt.at HD.out (by omega)
     simp only [Value.slice.injEq,true_and] at he
     obtain ⟨rfl,rfl⟩:=he
     obtain ⟨k0,k1⟩:=hcs k hlt
     have HC:Hid (∀ wi,Below (w.heap.size+1) W wi->wi.cell? ⟨bd,od+k * 2,none⟩=some (.int .i64 D[k].1)/\wi.cell? ⟨bd,od+k * 2+1,none⟩=some (.int .i64 D[k].2)):=fun wi h =>
      have hb:Below w.heap.size w wi:=HW.out.trans (h.mono (Nat.le_succ _))
      ⟨(hb.cell (p:=⟨bd,od+k * 2,none⟩) hbd).trans k0,(hb.cell (p:=⟨bd,od+k * 2+1,none⟩) hbd).trans k1⟩
     obtain ⟨e0,e1⟩:=HC.out wr HB.out
     have S1:=Lib.hid (HS.out k hlt)
     have hg1:=HG.out (k+1)
     obtain ⟨hr1,hr2,hr3⟩:=HBD.out D[k] (List.getElem_mem hlt)
     have HP:Hid (∀ j:Nat,D[k].1+j<=D[k].2+1->∀ q∈glueL (goneL st (D.take k)++runG st D[k].1 j),-200<=q.2/\q.2<=200):=fun j hj=>glueL_bnd _ (fun r hr=>by
      rcases List.mem_append.1 hr with h | h
      ·exact HGB.out k r h
      ·have:=runG_in st D[k].1 j r h;omega)
     have HLn:Hid (∀ j:Nat,D[k].1+j<=D[k].2+1->(glueL (goneL st (D.take k)++runG st D[k].1 j)).length<=1000):=fun j hj=>by
      have h1:=glueL_len (goneL st (D.take k)++runG st D[k].1 j)
      have h2:=runG_len st D[k].1 j
      have h3:=HG.out k
      rw [List.length_append] at h1
      omega
     have j1:(k:Int)<D.length:=by omega
     clear hcs k0 k1 hg1
     generalize D[k]=r at *
     obtain ⟨r1,r2⟩:=r
     dsimp only at *
     generalize goneL st (D.take k)=G at *
     go_wp2
     go_loopw [9,12] (fun o q wi=>∃ j:Nat,r1+j<=r2+1/\q=.int .i64 (r1+j)/\wi.ownsRow (w.heap.size+1) 77 2 o (glueL (G++runG st r1 j)).length (cellsR (glueL (G++runG st r1 j)))/\Hid (Below (w.heap.size+1) W wi)) (fun _ q _=>(r2+1 - intOf q).toNat)
     case atStart=>exact ⟨0,by omega,by simp,by simpa [runG] using hown,HB⟩
     case round =>
      clear e0 e1 hown
      obtain ⟨j,hj,rfl,hown,HB1⟩:=hrel
      have hle1:=HB1.out.size
      obtain ⟨e0,e1⟩:=HC.out _ HB1.out
      by_cases hlt2:r1+j<=r2
      ·obtain ⟨v,hv⟩:∃ v,v=r1+(j:Int):=⟨_,rfl⟩
       have hvb:-200<=v/\v<=200:=by omega
       have S2:Hid (glueL (G++runG st r1 (j+1))=if st v=true then glue (glueL (G++runG st r1 j)) (v,v) else glueL (G++runG st r1 j)):=by
        show _=_
        rw [hv,runG]
        split
        ·rw [<- List.append_assoc,glueL_snoc]
        ·rw [List.append_nil]
       have HPj:=Lib.hid (HP.out j hj)
       have hl2:=HLn.out j hj
       rw [<- hv]
       have hm:(r2+1 - (v+1)).toNat<(r2+1 - v).toNat:=by omega
       have hv1:r1+((j+1:Nat):Int)=v+1:=by omega
       have hvr:v<=r2:=by omega
       obtain ⟨hva,hvc⟩:=hvb
       have CSv:=Lib.hid (CS.out _ (HW.out.trans (HB1.out.mono (Nat.le_succ _))) v ⟨hva,hvc⟩)
       obtain ⟨f0,f1,f2,f3,f4,f5,f6,f7,f8⟩:=HY.out _ HB1.out
       clear hv
       generalize glueL (G++runG st r1 j)=O at *
       generalize st v=sv at *
       cases sv with
       | false =>
        rw [if_neg (by decide)] at S2
        go_wp2_with (go_at_call 110;(with_reducible refine CSv.out.mono ?_);rintro e W5 ⟨rfl,bb⟩;have B5:=Lib.hid bb;clear bb)
        exact ⟨⟨j+1,by omega,by rw [hv1];try rfl,by rw [S2.out];exact own_below hown B5.out,HB1.out.trans (B5.out.mono (Nat.le_trans hWs hle1))⟩,by simp [intOf];omega⟩
       | true =>
        rw [if_pos rfl] at S2
        rcases List.eq_nil_or_concat O with rfl | ⟨M,p,rfl⟩
        ·rw [glue_nil] at S2
         obtain ⟨oa,oc,rfl,_⟩:=(SlAt.of_own hown).shape
         rw [show ([]:List Rg).length=0 from rfl] at hown |-
         have hdz:decide ((0:Nat) > 0)=false:=rfl
         have HO:=Lib.hid hown
         clear hown
         go_wp2_with (first
          | (go_at_call 110;(with_reducible refine CSv.out.mono ?_);rintro e W5 ⟨rfl,bb⟩;have B5:=Lib.hid bb;have HO5:=Lib.hid (own_below HO.out bb);have hle5:=bb.size;clear bb)
          | (at_builtin;refine wpList_append2 rfl (.tmp 73) (.tmp 77) 61 rfl (w.heap.size+1) 77 i0 (.agg #[.int .i64 0,.int .i64 0]) 16 Tryz.underlying61 hi hz0 hz1 hz2 rfl _ _ _ rfl HO5.out _ _ rfl rfl rfl rfl (by omega) (by omega) ?_;intro v1 w1 o1 bw n1;have BW1:=Lib.hid bw;have O1:=Lib.hid o1;clear bw o1))
         exact ⟨⟨j+1,by omega,by rw [hv1];try rfl,by rw [S2.out];exact O1.out,(HB1.out.trans (B5.out.mono (Nat.le_trans hWs hle1))).trans BW1.out⟩,by simp [intOf];omega⟩
        ·rw [List.concat_eq_append] at *
         rw [glue_snoc] at S2
         dsimp only at S2
         obtain ⟨g,oc,rfl,hgb,hcells⟩:=owns_pos hown (by simp)
         have hML:(M++[p]).length=M.length+1:=by simp
         have hpe:(M++[p])[M.length]'(by simp)=p:=by simp
         have HX:Hid (∀ W5,Below wr.heap.size wr W5->W5.cell? ⟨g,M.length * 2+1,none⟩=some (.int .i64 p.2)/\W5.frozen? ⟨g,M.length * 2+1,none⟩=false/\W5.ownsRow (w.heap.size+1) 77 2 (.slice (some ⟨g,0,none⟩) (M.length+1) oc) (M.length+1) (cellsR (M++[p]))):=fun W5 bb=>by
          have ho:=own_below hown bb
          rw [hML] at ho
          have hc:=ho.cellAt (M.length * 2+1) (by omega)
          rw [(cellsR_at (M++[p]) M.length (by simp)).2,hpe] at hc
          exact ⟨hc,ho.frozenAt _,ho⟩
         obtain ⟨hp1,hp2⟩:=HPj.out p (by simp)
         rw [hML] at hl2 |-
         have hdz:decide ((M.length:Int)+1 > 0)=true:=decide_eq_true (by omega)
         have HML:=Lib.hid hML
         clear hown hcells hML hpe HPj HP HLn
         by_cases hpr:p.2+1=v
         ·rw [if_pos hpr] at S2
          have hpe:(p.2+1==v)=true:=by simpa using hpr
          clear hpr
          go_wp2_with (go_at_call 110;(with_reducible refine CSv.out.mono ?_);rintro e W5 ⟨rfl,bb⟩;have B5:=Lib.hid bb;obtain ⟨d3,d4,ho5⟩:=HX.out _ bb;have HQ:=Lib.hid (ho5.stored (M.length * 2+1) (.int .i64 v));clear bb ho5)
          refine ⟨⟨j+1,by omega,by rw [hv1];try rfl,?_,?_⟩,by simp [intOf];omega⟩
          ·rw [S2.out,<- cellsR_last,List.length_append]
           exact HQ.out.1
          ·exact (HB1.out.trans (B5.out.mono (Nat.le_trans hWs hle1))).setCell (p:=⟨g,M.length * 2+1,none⟩) hgb _
         ·rw [if_neg hpr] at S2
          have hpe:(p.2+1==v)=false:=by simpa using hpr
          clear hpr
          go_wp2_with (first
           | (go_at_call 110;(with_reducible refine CSv.out.mono ?_);rintro e W5 ⟨rfl,bb⟩;have B5:=Lib.hid bb;obtain ⟨d3,d4,ho5⟩:=HX.out _ bb;have HO5:=Lib.hid ho5;have hle5:=bb.size;clear bb ho5)
           | (at_builtin;refine wpList_append2 rfl (.tmp 73) (.tmp 77) 61 rfl (w.heap.size+1) 77 i0 (.agg #[.int .i64 0,.int .i64 0]) 16 Tryz.underlying61 hi hz0 hz1 hz2 rfl _ _ _ rfl HO5.out _ _ rfl rfl rfl rfl (by omega) (by omega) ?_;intro v1 w1 o1 bw n1;have BW1:=Lib.hid bw;have O1:=Lib.hid o1;clear bw o1))
          refine ⟨⟨j+1,by omega,by rw [hv1];try rfl,?_,(HB1.out.trans (B5.out.mono (Nat.le_trans hWs hle1))).trans BW1.out⟩,by simp [intOf];omega⟩
          rw [S2.out,List.length_append,cellsR_append,HML.out];exact O1.out
      ·have hjn:j=(r2+1 - r1).toNat:=by omega
       rw [hjn,<- S1.out] at hown
       have hjr:r2<r1+(j:Int):=by omega
       go_wp2
       exact ⟨⟨k+1,by omega,by go_num,hown,HB1.out⟩,by simp [intOf];omega⟩
    ·obtain rfl:k=D.length:=by omega
     rw [List.take_length] at hown
     rw [HE.out] at hown
     obtain ⟨oa,oc,rfl,_⟩:=(SlAt.of_own hown).shape
     go_wp2
     go_ret
     exact ⟨_,_,rfl,RgAt.own hown,HW.out.trans (HB.out.mono (Nat.le_succ _)),fun b h=>by have:=(hown.lt b h).1;omega⟩
  ·have gp:((place:Int)==0)=false:=by simp;omega
   obtain rfl:=hs0 (fun h=>hp h.2)
   clear CY hk hp
   go_enter Tryz.func96,Tryz.ntmps96
   go_wp2
   have HWW:=Lib.hid (HPK.out _ (Below.refl _ _))
   generalize ((w.alloc (.cells #[.int .i64 kind,.slice a0 n0 c0,.slice a1 n1 c1,.int .i64 rel,.int .i64 c,.int .i64 x,.int .i64 y,.int .i64 z,.slice a2 n2 c2] 67)).alloc (.cells #[] 77))=W at HWW |-
   obtain ⟨hw0,hy0,how,hWs⟩:=HWW.out
   have HW:=Lib.hid hw0
   have HY:=Lib.hid hy0
   have HOW:=Lib.hid how
   clear HWW hw0 hy0 how HPK HZ1
   go_loopw [9,11,12] (fun o q _ wr=>∃ k:Nat,k<=D.length/\q=.int .i64 k/\wr.ownsRow (w.heap.size+1) 77 2 o (glueL (goneL st (D.take k))).length (cellsR (glueL (goneL st (D.take k))))/\Below (w.heap.size+1) W wr) (fun _ q _ _=>D.length - (intOf q).toNat)
   case atStart=>exact ⟨0,by omega,rfl,by rw [show glueL (goneL st (D.take 0))=[] from rfl];exact HOW.out,Below.refl _ _⟩
   case round =>
    obtain ⟨k,hk,rfl,hown,hbel⟩:=hrel
    have HB:=Lib.hid hbel
    have hle:=hbel.size
    clear hbel
    by_cases hlt:k<D.length
    ·obtain ⟨bd,od,cd',he,_,hbd,hcs⟩:=RgAt.at HD.out (by omega)
     simp only [Value.slice.injEq,true_and] at he
     obtain ⟨rfl,rfl⟩:=he
     obtain ⟨k0,k1⟩:=hcs k hlt
     have HC:Hid (∀ wi,Below (w.heap.size+1) W wi->wi.cell? ⟨bd,od+k * 2,none⟩=some (.int .i64 D[k].1)/\wi.cell? ⟨bd,od+k * 2+1,none⟩=some (.int .i64 D[k].2)):=fun wi h =>
      have hb:Below w.heap.size w wi:=HW.out.trans (h.mono (Nat.le_succ _))
      ⟨(hb.cell (p:=⟨bd,od+k * 2,none⟩) hbd).trans k0,(hb.cell (p:=⟨bd,od+k * 2+1,none⟩) hbd).trans k1⟩
     obtain ⟨e0,e1⟩:=HC.out wr HB.out
     have S1:=Lib.hid (HS.out k hlt)
     have hg1:=HG.out (k+1)
     obtain ⟨hr1,hr2,hr3⟩:=HBD.out D[k] (List.getElem_mem hlt)
     have HP:Hid (∀ j:Nat,D[k].1+j<=D[k].2+1->∀ q∈glueL (goneL st (D.take k)++runG st D[k].1 j),-200<=q.2/\q.2<=200):=fun j hj=>glueL_bnd _ (fun r hr=>by
      rcases List.mem_append.1 hr with h | h
      ·exact HGB.out k r h
      ·have:=runG_in st D[k].1 j r h;omega)
     have HLn:Hid (∀ j:Nat,D[k].1+j<=D[k].2+1->(glueL (goneL st (D.take k)++runG st D[k].1 j)).length<=1000):=fun j hj=>by
      have h1:=glueL_len (goneL st (D.take k)++runG st D[k].1 j)
      have h2:=runG_len st D[k].1 j
      have h3:=HG.out k
      rw [List.length_append] at h1
      omega
     have j1:(k:Int)<D.length:=by omega
     clear hcs k0 k1 hg1
     generalize D[k]=r at *
     obtain ⟨r1,r2⟩:=r
     dsimp only at *
     generalize goneL st (D.take k)=G at *
     go_wp2
     go_loopw [9,12] (fun o q wi=>∃ j:Nat,r1+j<=r2+1/\q=.int .i64 (r1+j)/\wi.ownsRow (w.heap.size+1) 77 2 o (glueL (G++runG st r1 j)).length (cellsR (glueL (G++runG st r1 j)))/\Hid (Below (w.heap.size+1) W wi)) (fun _ q _=>(r2+1 - intOf q).toNat)
     case atStart=>exact ⟨0,by omega,by simp,by simpa [runG] using hown,HB⟩
     case round =>
      clear e0 e1 hown
      obtain ⟨j,hj,rfl,hown,HB1⟩:=hrel
      have hle1:=HB1.out.size
      obtain ⟨e0,e1⟩:=HC.out _ HB1.out
      by_cases hlt2:r1+j<=r2
      ·obtain ⟨v,hv⟩:∃ v,v=r1+(j:Int):=⟨_,rfl⟩
       have hvb:-200<=v/\v<=200:=by omega
       have S2:Hid (glueL (G++runG st r1 (j+1))=if st v=true then glue (glueL (G++runG st r1 j)) (v,v) else glueL (G++runG st r1 j)):=by
        show _=_
        rw [hv,runG]
        split
        ·rw [<- List.append_assoc,glueL_snoc]
        ·rw [List.append_nil]
       have HPj:=Lib.hid (HP.out j hj)
       have hl2:=HLn.out j hj
       rw [<- hv]
       have hm:(r2+1 - (v+1)).toNat<(r2+1 - v).toNat:=by omega
       have hv1:r1+((j+1:Nat):Int)=v+1:=by omega
       have hvr:v<=r2:=by omega
       obtain ⟨hva,hvc⟩:=hvb
       have CSv:=Lib.hid (CS.out _ (HW.out.trans (HB1.out.mono (Nat.le_succ _))) v ⟨hva,hvc⟩)
       obtain ⟨f0,f1,f2,f3,f4,f5,f6,f7,f8⟩:=HY.out _ HB1.out
       clear hv
       generalize glueL (G++runG st r1 j)=O at *
       generalize st v=sv at *
       cases sv with
       | false =>
        rw [if_neg (by decide)] at S2
        go_wp2_with (go_at_call 110;(with_reducible refine CSv.out.mono ?_);rintro e W5 ⟨rfl,bb⟩;have B5:=Lib.hid bb;clear bb)
        exact ⟨⟨j+1,by omega,by rw [hv1];try rfl,by rw [S2.out];exact own_below hown B5.out,HB1.out.trans (B5.out.mono (Nat.le_trans hWs hle1))⟩,by simp [intOf];omega⟩
       | true =>
        rw [if_pos rfl] at S2
        rcases List.eq_nil_or_concat O with rfl | ⟨M,p,rfl⟩
        ·rw [glue_nil] at S2
         obtain ⟨oa,oc,rfl,_⟩:=(SlAt.of_own hown).shape
         rw [show ([]:List Rg).length=0 from rfl] at hown |-
         have hdz:decide ((0:Nat) > 0)=false:=rfl
         have HO:=Lib.hid hown
         clear hown
         go_wp2_with (first
          | (go_at_call 110;(with_reducible refine CSv.out.mono ?_);rintro e W5 ⟨rfl,bb⟩;have B5:=Lib.hid bb;have HO5:=Lib.hid (own_below HO.out bb);have hle5:=bb.size;clear bb)
          | (at_builtin;refine wpList_append2 rfl (.tmp 73) (.tmp 77) 61 rfl (w.heap.size+1) 77 i0 (.agg #[.int .i64 0,.int .i64 0]) 16 Tryz.underlying61 hi hz0 hz1 hz2 rfl _ _ _ rfl HO5.out _ _ rfl rfl rfl rfl (by omega) (by omega) ?_;intro v1 w1 o1 bw n1;have BW1:=Lib.hid bw;have O1:=Lib.hid o1;clear bw o1))
         exact ⟨⟨j+1,by omega,by rw [hv1];try rfl,by rw [S2.out];exact O1.out,(HB1.out.trans (B5.out.mono (Nat.le_trans hWs hle1))).trans BW1.out⟩,by simp [intOf];omega⟩
        ·rw [List.concat_eq_append] at *
         rw [glue_snoc] at S2
         dsimp only at S2
         obtain ⟨g,oc,rfl,hgb,hcells⟩:=owns_pos hown (by simp)
         have hML:(M++[p]).length=M.length+1:=by simp
         have hpe:(M++[p])[M.length]'(by simp)=p:=by simp
         have HX:Hid (∀ W5,Below wr.heap.size wr W5->W5.cell? ⟨g,M.length * 2+1,none⟩=some (.int .i64 p.2)/\W5.frozen? ⟨g,M.length * 2+1,none⟩=false/\W5.ownsRow (w.heap.size+1) 77 2 (.slice (some ⟨g,0,none⟩) (M.length+1) oc) (M.length+1) (cellsR (M++[p]))):=fun W5 bb=>by
          have ho:=own_below hown bb
          rw [hML] at ho
          have hc:=ho.cellAt (M.length * 2+1) (by omega)
          rw [(cellsR_at (M++[p]) M.length (by simp)).2,hpe] at hc
          exact ⟨hc,ho.frozenAt _,ho⟩
         obtain ⟨hp1,hp2⟩:=HPj.out p (by simp)
         rw [hML] at hl2 |-
         have hdz:decide ((M.length:Int)+1 > 0)=true:=decide_eq_true (by omega)
         have HML:=Lib.hid hML
         clear hown hcells hML hpe HPj HP HLn
         by_cases hpr:p.2+1=v
         ·rw [if_pos hpr] at S2
          have hpe:(p.2+1==v)=true:=by simpa using hpr
          clear hpr
          go_wp2_with (go_at_call 110;(with_reducible refine CSv.out.mono ?_);rintro e W5 ⟨rfl,bb⟩;have B5:=Lib.hid bb;obtain ⟨d3,d4,ho5⟩:=HX.out _ bb;have HQ:=Lib.hid (ho5.stored (M.length * 2+1) (.int .i64 v));clear bb ho5)
          refine ⟨⟨j+1,by omega,by rw [hv1];try rfl,?_,?_⟩,by simp [intOf];omega⟩
          ·rw [S2.out,<- cellsR_last,List.length_append]
           exact HQ.out.1
          ·exact (HB1.out.trans (B5.out.mono (Nat.le_trans hWs hle1))).setCell (p:=⟨g,M.length * 2+1,none⟩) hgb _
         ·rw [if_neg hpr] at S2
          have hpe:(p.2+1==v)=false:=by simpa using hpr
          clear hpr
          go_wp2_with (first
           | (go_at_call 110;(with_reducible refine CSv.out.mono ?_);rintro e W5 ⟨rfl,bb⟩;have B5:=Lib.hid bb;obtain ⟨d3,d4,ho5⟩:=HX.out _ bb;have HO5:=Lib.hid ho5;have hle5:=bb.size;clear bb ho5)
           | (at_builtin;refine wpList_append2 rfl (.tmp 73) (.tmp 77) 61 rfl (w.heap.size+1) 77 i0 (.agg #[.int .i64 0,.int .i64 0]) 16 Tryz.underlying61 hi hz0 hz1 hz2 rfl _ _ _ rfl HO5.out _ _ rfl rfl rfl rfl (by omega) (by omega) ?_;intro v1 w1 o1 bw n1;have BW1:=Lib.hid bw;have O1:=Lib.hid o1;clear bw o1))
          refine ⟨⟨j+1,by omega,by rw [hv1];try rfl,?_,(HB1.out.trans (B5.out.mono (Nat.le_trans hWs hle1))).trans BW1.out⟩,by simp [intOf];omega⟩
          rw [S2.out,List.length_append,cellsR_append,HML.out];exact O1.out
      ·have hjn:j=(r2+1 - r1).toNat:=by omega
       rw [hjn,<- S1.out] at hown
       have hjr:r2<r1+(j:Int):=by omega
       go_wp2
       exact ⟨⟨k+1,by omega,by go_num,hown,HB1.out⟩,by simp [intOf];omega⟩
    ·obtain rfl:k=D.length:=by omega
     rw [List.take_length] at hown
     rw [HE.out] at hown
     obtain ⟨oa,oc,rfl,_⟩:=(SlAt.of_own hown).shape
     go_wp2
     go_ret
     exact ⟨_,_,rfl,RgAt.own hown,HW.out.trans (HB.out.mono (Nat.le_succ _)),fun b h=>by have:=(hown.lt b h).1;omega⟩
 ·have g4:(kind==4)=false:=by simpa using hk
  obtain rfl:=hs0 (fun h=>hk h.1)
  clear CY hk
  go_enter Tryz.func96,Tryz.ntmps96
  go_wp2
  have HWW:=Lib.hid (HPK.out _ (Below.refl _ _))
  generalize ((w.alloc (.cells #[.int .i64 kind,.slice a0 n0 c0,.slice a1 n1 c1,.int .i64 rel,.int .i64 c,.int .i64 x,.int .i64 y,.int .i64 z,.slice a2 n2 c2] 67)).alloc (.cells #[] 77))=W at HWW |-
  obtain ⟨hw0,hy0,how,hWs⟩:=HWW.out
  have HW:=Lib.hid hw0
  have HY:=Lib.hid hy0
  have HOW:=Lib.hid how
  clear HWW hw0 hy0 how HPK HZ1
  go_loopw [9,11,12] (fun o q _ wr=>∃ k:Nat,k<=D.length/\q=.int .i64 k/\wr.ownsRow (w.heap.size+1) 77 2 o (glueL (goneL st (D.take k))).length (cellsR (glueL (goneL st (D.take k))))/\Below (w.heap.size+1) W wr) (fun _ q _ _=>D.length - (intOf q).toNat)
  case atStart=>exact ⟨0,by omega,rfl,by rw [show glueL (goneL st (D.take 0))=[] from rfl];exact HOW.out,Below.refl _ _⟩
  case round =>
   obtain ⟨k,hk,rfl,hown,hbel⟩:=hrel
   have HB:=Lib.hid hbel
   have hle:=hbel.size
   clear hbel
   by_cases hlt:k<D.length
   ·obtain ⟨bd,od,cd',he,_,hbd,hcs⟩:=RgAt.at HD.out (by omega)
    simp only [Value.slice.injEq,true_and] at he
    obtain ⟨rfl,rfl⟩:=he
    obtain ⟨k0,k1⟩:=hcs k hlt
    have HC:Hid (∀ wi,Below (w.heap.size+1) W wi->wi.cell? ⟨bd,od+k * 2,none⟩=some (.int .i64 D[k].1)/\wi.cell? ⟨bd,od+k * 2+1,none⟩=some (.int .i64 D[k].2)):=fun wi h =>
     have hb:Below w.heap.size w wi:=HW.out.trans (h.mono (Nat.le_succ _))
     ⟨(hb.cell (p:=⟨bd,od+k * 2,none⟩) hbd).trans k0,(hb.cell (p:=⟨bd,od+k * 2+1,none⟩) hbd).trans k1⟩
    obtain ⟨e0,e1⟩:=HC.out wr HB.out
    have S1:=Lib.hid (HS.out k hlt)
    have hg1:=HG.out (k+1)
    obtain ⟨hr1,hr2,hr3⟩:=HBD.out D[k] (List.getElem_mem hlt)
    have HP:Hid (∀ j:Nat,D[k].1+j<=D[k].2+1->∀ q∈glueL (goneL st (D.take k)++runG st D[k].1 j),-200<=q.2/\q.2<=200):=fun j hj=>glueL_bnd _ (fun r hr=>by
     rcases List.mem_append.1 hr with h | h
     ·exact HGB.out k r h
     ·have:=runG_in st D[k].1 j r h;omega)
    have HLn:Hid (∀ j:Nat,D[k].1+j<=D[k].2+1->(glueL (goneL st (D.take k)++runG st D[k].1 j)).length<=1000):=fun j hj=>by
     have h1:=glueL_len (goneL st (D.take k)++runG st D[k].1 j)
     have h2:=runG_len st D[k].1 j
     have h3:=HG.out k
     rw [List.length_append] at h1
     omega
    have j1:(k:Int)<D.length:=by omega
    clear hcs k0 k1 hg1
    generalize D[k]=r at *
    obtain ⟨r1,r2⟩:=r
    dsimp only at *
    generalize goneL st (D.take k)=G at *
    go_wp2
    go_loopw [9,12] (fun o q wi=>∃ j:Nat,r1+j<=r2+1/\q=.int .i64 (r1+j)/\wi.ownsRow (w.heap.size+1) 77 2 o (glueL (G++runG st r1 j)).length (cellsR (glueL (G++runG st r1 j)))/\Hid (Below (w.heap.size+1) W wi)) (fun _ q _=>(r2+1 - intOf q).toNat)
    case atStart=>exact ⟨0,by omega,by simp,by simpa [runG] using hown,HB⟩
    case round =>
     clear e0 e1 hown
     obtain ⟨j,hj,rfl,hown,HB1⟩:=hrel
     have hle1:=HB1.out.size
     obtain ⟨e0,e1⟩:=HC.out _ HB1.out
     by_cases hlt2:r1+j<=r2
     ·obtain ⟨v,hv⟩:∃ v,v=r1+(j:Int):=⟨_,rfl⟩
      have hvb:-200<=v/\v<=200:=by omega
      have S2:Hid (glueL (G++runG st r1 (j+1))=if st v=true then glue (glueL (G++runG st r1 j)) (v,v) else glueL (G++runG st r1 j)):=by
       show _=_
       rw [hv,runG]
       split
       ·rw [<- List.append_assoc,glueL_snoc]
       ·rw [List.append_nil]
      have HPj:=Lib.hid (HP.out j hj)
      have hl2:=HLn.out j hj
      rw [<- hv]
      have hm:(r2+1 - (v+1)).toNat<(r2+1 - v).toNat:=by omega
      have hv1:r1+((j+1:Nat):Int)=v+1:=by omega
      have hvr:v<=r2:=by omega
      obtain ⟨hva,hvc⟩:=hvb
      have CSv:=Lib.hid (CS.out _ (HW.out.trans (HB1.out.mono (Nat.le_succ _))) v ⟨hva,hvc⟩)
      obtain ⟨f0,f1,f2,f3,f4,f5,f6,f7,f8⟩:=HY.out _ HB1.out
      clear hv
      generalize glueL (G++runG st r1 j)=O at *
      generalize st v=sv at *
      cases sv with
      | false =>
       rw [if_neg (by decide)] at S2
       go_wp2_with (go_at_call 110;(with_reducible refine CSv.out.mono ?_);rintro e W5 ⟨rfl,bb⟩;have B5:=Lib.hid bb;clear bb)
       exact ⟨⟨j+1,by omega,by rw [hv1];try rfl,by rw [S2.out];exact own_below hown B5.out,HB1.out.trans (B5.out.mono (Nat.le_trans hWs hle1))⟩,by simp [intOf];omega⟩
      | true =>
       rw [if_pos rfl] at S2
       rcases List.eq_nil_or_concat O with rfl | ⟨M,p,rfl⟩
       ·rw [glue_nil] at S2
        obtain ⟨oa,oc,rfl,_⟩:=(SlAt.of_own hown).shape
        rw [show ([]:List Rg).length=0 from rfl] at hown |-
        have hdz:decide ((0:Nat) > 0)=false:=rfl
        have HO:=Lib.hid hown
        clear hown
        go_wp2_with (first
         | (go_at_call 110;(with_reducible refine CSv.out.mono ?_);rintro e W5 ⟨rfl,bb⟩;have B5:=Lib.hid bb;have HO5:=Lib.hid (own_below HO.out bb);have hle5:=bb.size;clear bb)
         | (at_builtin;refine wpList_append2 rfl (.tmp 73) (.tmp 77) 61 rfl (w.heap.size+1) 77 i0 (.agg #[.int .i64 0,.int .i64 0]) 16 Tryz.underlying61 hi hz0 hz1 hz2 rfl _ _ _ rfl HO5.out _ _ rfl rfl rfl rfl (by omega) (by omega) ?_;intro v1 w1 o1 bw n1;have BW1:=Lib.hid bw;have O1:=Lib.hid o1;clear bw o1))
        exact ⟨⟨j+1,by omega,by rw [hv1];try rfl,by rw [S2.out];exact O1.out,(HB1.out.trans (B5.out.mono (Nat.le_trans hWs hle1))).trans BW1.out⟩,by simp [intOf];omega⟩
       ·rw [List.concat_eq_append] at *
        rw [glue_snoc] at S2
        dsimp only at S2
        obtain ⟨g,oc,rfl,hgb,hcells⟩:=owns_pos hown (by simp)
        have hML:(M++[p]).length=M.length+1:=by simp
        have hpe:(M++[p])[M.length]'(by simp)=p:=by simp
        have HX:Hid (∀ W5,Below wr.heap.size wr W5->W5.cell? ⟨g,M.length * 2+1,none⟩=some (.int .i64 p.2)/\W5.frozen? ⟨g,M.length * 2+1,none⟩=false/\W5.ownsRow (w.heap.size+1) 77 2 (.slice (some ⟨g,0,none⟩) (M.length+1) oc) (M.length+1) (cellsR (M++[p]))):=fun W5 bb=>by
         have ho:=own_below hown bb
         rw [hML] at ho
         have hc:=ho.cellAt (M.length * 2+1) (by omega)
         rw [(cellsR_at (M++[p]) M.length (by simp)).2,hpe] at hc
         exact ⟨hc,ho.frozenAt _,ho⟩
        obtain ⟨hp1,hp2⟩:=HPj.out p (by simp)
        rw [hML] at hl2 |-
        have hdz:decide ((M.length:Int)+1 > 0)=true:=decide_eq_true (by omega)
        have HML:=Lib.hid hML
        clear hown hcells hML hpe HPj HP HLn
        by_cases hpr:p.2+1=v
        ·rw [if_pos hpr] at S2
         have hpe:(p.2+1==v)=true:=by simpa using hpr
         clear hpr
         go_wp2_with (go_at_call 110;(with_reducible refine CSv.out.mono ?_);rintro e W5 ⟨rfl,bb⟩;have B5:=Lib.hid bb;obtain ⟨d3,d4,ho5⟩:=HX.out _ bb;have HQ:=Lib.hid (ho5.stored (M.length * 2+1) (.int .i64 v));clear bb ho5)
         refine ⟨⟨j+1,by omega,by rw [hv1];try rfl,?_,?_⟩,by simp [intOf];omega⟩
         ·rw [S2.out,<- cellsR_last,List.length_append]
          exact HQ.out.1
         ·exact (HB1.out.trans (B5.out.mono (Nat.le_trans hWs hle1))).setCell (p:=⟨g,M.length * 2+1,none⟩) hgb _
        ·rw [if_neg hpr] at S2
         have hpe:(p.2+1==v)=false:=by simpa using hpr
         clear hpr
         go_wp2_with (first
          | (go_at_call 110;(with_reducible refine CSv.out.mono ?_);rintro e W5 ⟨rfl,bb⟩;have B5:=Lib.hid bb;obtain ⟨d3,d4,ho5⟩:=HX.out _ bb;have HO5:=Lib.hid ho5;have hle5:=bb.size;clear bb ho5)
          | (at_builtin;refine wpList_append2 rfl (.tmp 73) (.tmp 77) 61 rfl (w.heap.size+1) 77 i0 (.agg #[.int .i64 0,.int .i64 0]) 16 Tryz.underlying61 hi hz0 hz1 hz2 rfl _ _ _ rfl HO5.out _ _ rfl rfl rfl rfl (by omega) (by omega) ?_;intro v1 w1 o1 bw n1;have BW1:=Lib.hid bw;have O1:=Lib.hid o1;clear bw o1))
         refine ⟨⟨j+1,by omega,by rw [hv1];try rfl,?_,(HB1.out.trans (B5.out.mono (Nat.le_trans hWs hle1))).trans BW1.out⟩,by simp [intOf];omega⟩
         rw [S2.out,List.length_append,cellsR_append,HML.out];exact O1.out
     ·have hjn:j=(r2+1 - r1).toNat:=by omega
      rw [hjn,<- S1.out] at hown
      have hjr:r2<r1+(j:Int):=by omega
      go_wp2
      exact ⟨⟨k+1,by omega,by go_num,hown,HB1.out⟩,by simp [intOf];omega⟩
   ·obtain rfl:k=D.length:=by omega
    rw [List.take_length] at hown
    rw [HE.out] at hown
    obtain ⟨oa,oc,rfl,_⟩:=(SlAt.of_own hown).shape
    go_wp2
    go_ret
    exact ⟨_,_,rfl,RgAt.own hown,HW.out.trans (HB.out.mono (Nat.le_succ _)),fun b h=>by have:=(hown.lt b h).1;omega⟩
theorem cut_congr {p:PL} {was:Ds} {s:Int} {i:Nat} {D:List Rg} {st:Int->Bool} (h:∀ v,stays16 p was s i v=st v):(canon fun v=>memL D v&&st v)=cutL p was s i D:=by
 unfold cutL
 exact canon_congr fun v _ _=>by rw [h v]
theorem refCut_c (p:PL) (va vb vv vds vd:Value) (was:Ds) (i:Nat) (D:List Rg) (w:World) (h0:IsAt w va p.coef) (h1:IsAt w vb p.vars) (h2:IsAt w vv p.vs) (hd:DsAt w vds was) (hD:RgAt w vd D) (hDN:Normal D)
  (hf:p.Fine was) (hN:AllN was) (hne:anyNil p.all was=false) (hdl:was.length<=4096) (hk1:p.kind≠1) :
  Calls Tryz.prog 96 #[.agg #[.int .i64 p.kind,va,vb,.int .i64 p.rel,.int .i64 p.c,.int .i64 p.x,.int .i64 p.y,.int .i64 p.z,vv],vds,.int .i64 i,vd] w (RetN (cutL p was (p.says was) i D) w):=by
 obtain ⟨kind,rel,c,x,y,z,coef,vars,vs⟩:=p
 dsimp only at h0 h1 h2 hk1 |-
 have hk:=hf.kind
 have hv:=hf.vars
 rw [anyNil_false] at hne
 dsimp only at hk
 obtain ⟨a0,c0,rfl,_⟩:=IsAt.shape h0
 obtain ⟨a1,c1,rfl,_⟩:=IsAt.shape h1
 obtain ⟨a2,c2,rfl,_⟩:=IsAt.shape h2
 obtain ⟨ad,cd,rfl,_⟩:=hd.shape
 rcases hk with rfl | rfl | rfl | rfl
 ·exact absurd rfl hk1
 ·obtain ⟨nx,rfl⟩:=Int.eq_ofNat_of_zero_le (hv x (by simp [PL.all,allL])).1
  obtain ⟨ny,rfl⟩:=Int.eq_ofNat_of_zero_le (hv y (by simp [PL.all,allL])).1
  obtain ⟨nz,rfl⟩:=Int.eq_ofNat_of_zero_le (hv z (by simp [PL.all,allL])).1
  have lx:nx<was.length:=by have:=(hv nx (by simp [PL.all,allL])).2;simpa using this
  have ly:ny<was.length:=by have:=(hv ny (by simp [PL.all,allL])).2;simpa using this
  have lz:nz<was.length:=by have:=(hv nz (by simp [PL.all,allL])).2;simpa using this
  have ex:was[nx]≠[]:=by have:=hne nx (by simp [PL.all,allL]);rwa [domOf_nat lx] at this
  have ey:was[ny]≠[]:=by have:=hne ny (by simp [PL.all,allL]);rwa [domOf_nat ly] at this
  have ez:was[nz]≠[]:=by have:=hne nz (by simp [PL.all,allL]);rwa [domOf_nat lz] at this
  rw [<- cut_congr (st:=timesL was nx ny nz i) (fun v=>by unfold stays16;rw [if_pos rfl])]
  exact cut_any 2 a0 a1 a2 _ _ _ c0 c1 c2 rel c nx ny nz ad was.length cd 0 i vd D (timesL was nx ny nz i) w hD hDN
   (fun W hW v hvb=>stays2_c a0 a1 a2 _ _ _ c0 c1 c2 rel c nx ny nz _ was 0 i v W (hd.below hW) lx ly lz hdl hN ex ey ez hvb)
   (fun h=>by omega) (fun _=>rfl)
 ·have hvs:∀ u∈vs,0<=u/\u.toNat<was.length:=fun u hu=>hv u (by simpa [PL.all,allL] using hu)
  have hl64:vs.length<=64:=hf.vsl rfl
  rw [<- cut_congr (st:=diffOk was vs i) (fun v=>by unfold stays16;rw [if_neg (by simp),if_pos rfl])]
  exact cut_any 3 a0 a1 a2 _ _ _ c0 c1 c2 rel c x y z ad was.length cd 0 i vd D (diffOk was vs i) w hD hDN
   (fun W hW v _=>stays3_c a0 a1 _ _ c0 c1 _ rel c x y z vs _ was 0 i v W (h2.below hW) (hd.below hW) hvs (by omega) hdl hN)
   (fun h=>by omega) (fun _=>rfl)
 ·obtain ⟨hg,hr,hC,_,_⟩:=hf.lin (.inr rfl)
  dsimp only at hg hr hC
  by_cases hi:i=0
  ·subst hi
   rw [<- cut_congr (st:=reifOk (saysL rel c was (coef.zip vars)) 0) (fun v=>by unfold stays16;rw [if_neg (by simp),if_neg (by simp),if_pos rfl];rfl)]
   exact cut_any 4 a0 a1 a2 _ _ _ c0 c1 c2 rel c x y z ad was.length cd (saysL rel c was (coef.zip vars)) 0 vd D (reifOk (saysL rel c was (coef.zip vars)) 0) w hD hDN
    (fun W _ v _=>stays4_c a0 a1 a2 _ _ _ c0 c1 c2 rel c x y z ad _ cd _ 0 v W)
    (fun _ _ W hW=>refSays_c _ _ _ rel c coef vars was W (h0.below hW) (h1.below hW) (hd.below hW) hg hr hC) (fun h=>absurd ⟨rfl,rfl⟩ h)
  ·rw [<- cut_congr (st:=reifOk 0 i) (fun v=>by
    unfold stays16
    rw [if_neg (by simp),if_neg (by simp),if_pos rfl]
    have:0<i:=by omega
    simp [reifOk,this])]
   exact cut_any 4 a0 a1 a2 _ _ _ c0 c1 c2 rel c x y z ad was.length cd 0 i vd D (reifOk 0 i) w hD hDN
    (fun W _ v _=>stays4_c a0 a1 a2 _ _ _ c0 c1 c2 rel c x y z ad _ cd 0 i v W)
    (fun _ h=>absurd h hi) (fun _=>rfl)
theorem meet_self {d:List Rg} (h:Normal d):meetL d d=d:=by
 refine normal_unique (meetL_normal _ _) h (fun x=>?_)
 rw [meetL_mem h];simp
theorem cutsTo_len (p:PL) (was:Ds) (s:Int) (n:Nat):(cutsTo p was s n).length=n:=by simp [cutsTo]
theorem seqGo_step {p:PL} {was:Ds} {s:Int} {i:Nat} (hi:i<p.all.length) {out:Ds} (hv:p.all[i].toNat<out.length) :
  seqGo ((cutsTo p was s p.all.length).drop i) out=if meetL (domOf out p.all[i]) (cutL p was s i (domOf was p.all[i]))=[] then none
   else seqGo ((cutsTo p was s p.all.length).drop (i+1)) (out.set p.all[i].toNat (meetL (domOf out p.all[i]) (cutL p was s i (domOf was p.all[i])))):=by
 have hl:i<(cutsTo p was s p.all.length).length:=by rw [cutsTo_len];exact hi
 have e:(cutsTo p was s p.all.length)[i]=(p.all[i],cutL p was s i (domOf was p.all[i])):=by
  simp [cutsTo,List.getD_eq_getElem?_getD,List.getElem?_eq_getElem hi]
 rw [List.drop_eq_getElem_cons hl,seqGo,e,domOf_keep _ hv]
 rfl
theorem seqGo_end {p:PL} {was:Ds} {s:Int} {out:Ds}:seqGo ((cutsTo p was s p.all.length).drop p.all.length) out=some out:=by
 rw [List.drop_eq_nil_of_le (by rw [cutsTo_len];exact rN _)];rfl
theorem fine_norm {p:PL} {ds:Ds} (hf:p.Fine ds):p.Fine (ds.map norm) :=
 ⟨hf.kind,fun hk=>⟨good_norm (hf.lin hk).1,(hf.lin hk).2⟩,hf.vsl,fun v hv=>by simpa using hf.vars v hv⟩
theorem anyNil_at {L:List Int} {ds:Ds} (i:Nat) (hi:i<L.length) (h:domOf ds L[i]=[]):anyNil L ds=true:=by
 unfold anyNil
 rw [List.any_eq_true]
 exact ⟨L[i],List.getElem_mem hi,by simp [h]⟩
theorem anyNil_none {L:List Int} {ds:Ds} (h:∀ i,(hi:i<L.length)->domOf ds L[i]≠[]):anyNil L ds=false:=by
 rw [anyNil_false]
 intro v hv
 obtain ⟨i,hi,rfl⟩:=List.getElem_of_mem hv
 exact h i hi
theorem ds_one {B:Nat} {w:World} {out:Ds} {us:List Value} (ul:us.length=out.length) (usr:∀ j,(hj:j<out.length)->∃ u,us[j]?=some u/\RgAt w u out[j]/\∀ b,u.ownBlock=some b->B<=b):∀ u∈us,u.oneCell'=true:=fun u hu=>by
 obtain ⟨j,hj,rfl⟩:=List.getElem_of_mem hu
 obtain ⟨x,h1,h2,_⟩:=usr j (by omega)
 rw [List.getElem?_eq_getElem hj] at h1
 injection h1 with h1
 obtain ⟨ao,cap,h3,_⟩:=h2.shape
 rw [h1,h3];rfl
theorem m_own {B:Nat} {W7 W9:World} {v:Value} {out:Ds} {us:List Value} {T:TypeId} (ul:us.length=out.length) (usr:∀ j,(hj:j<out.length)->∃ u,us[j]?=some u/\RgAt W7 u out[j]/\∀ b,u.ownBlock=some b->B<=b)
  (ow:W9.ownsRow W7.heap.size 61 1 v (0+out.length) ([]++us)) (bw:Below W7.heap.size (W7.alloc (.cells #[] T)) W9):DsOwnF B W9 W7.heap.size v out/\Below W7.heap.size W7 W9:=by
 rw [Nat.zero_add,List.nil_append] at ow
 have hb:Below W7.heap.size W7 W9:=(bA _).trans bw
 exact ⟨⟨us,ul,ow,fun j hj=>by obtain ⟨u,a,b,c⟩:=usr j hj;exact ⟨u,a,b.below hb,c⟩⟩,hb⟩
theorem m_facts {B:Nat} {W7 W9:World} {v:Value} {out:Ds} {us:List Value} {m n:Nat} {T:TypeId} (ul:us.length=out.length) (usr:∀ j,(hj:j<out.length)->∃ u,us[j]?=some u/\RgAt W7 u out[j]/\∀ b,u.ownBlock=some b->B<=b)
  (hm:out.length=m) (ow:W9.ownsRow W7.heap.size 61 1 v (0+out.length) ([]++us)) (bw:Below W7.heap.size (W7.alloc (.cells #[] T)) W9) (hn:n<out.length) :
  (∃ g cp,v=.slice (some ⟨g,0,none⟩) m cp/\m<=cp/\W9.frozen? ⟨g,n,none⟩=false/\∃ u,W9.cell? ⟨g,n,none⟩=some u)/\Below W7.heap.size W7 W9/\DsOwnF B W9 W7.heap.size v out/\∀ b,v.ownBlock=some b->W7.heap.size<=b:=by
 obtain ⟨h1,h2⟩:=m_own ul usr ow bw
 subst hm
 obtain ⟨g,cap,ao',cap',rfl,q1,q4,_,q2,q3,_⟩:=h1.get n hn
 exact ⟨⟨g,cap,rfl,q4,q3,_,q2⟩,h2,h1,fun b hb=>by simp [Value.ownBlock] at hb;omega⟩
theorem m_set {C:Nat} {W9:World} {B g cp m n:Nat} {out:Ds} (hm:out.length=m) (h:DsOwnF C W9 B (.slice (some ⟨g,0,none⟩) m cp) out) (hn:n<out.length) {u:Value} {d:List Rg} (hu:RgAt W9 u d) (hb:∀ b,u.ownBlock=some b->C<=b) (hC:C<=B) :
  DsFrom C (W9.setCell ⟨g,n,none⟩ u) (.slice (some ⟨g,0,none⟩) m cp) (out.set n d):=by
 subst hm
 have:=(DsOwnF.set h n hn hu hb).from hC
 exact this
theorem IsAt.far {w:World} {v:Value} {zs:List Int} (h:IsAt w v zs) {a:Addr} (ha:v.ownBlock≠some a.block) (u:Value):IsAt (w.setCell a u) v zs:=by
 obtain ⟨h1,ao,cap,rfl,h2,h3,h5,h4⟩:=h
 refine ⟨h1,ao,cap,rfl,h2,h3,h5,fun hp=>?_⟩
 obtain ⟨b,off,rfl,hlt,hc⟩:=h4 hp
 refine ⟨b,off,rfl,by simpa [World.setCell] using hlt,fun j hj=>?_⟩
 rw [<- hc j hj]
 exact World.cell?_of_block (Below.heap_setCell _ _ _ _ (fun e=>ha (by rw [<- e];rfl)))
end
end Go.Proofs.YtaekdgikgbdnnaaGreat
