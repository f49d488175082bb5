/-
  The narrow of unlike variables, walked.
  slices.Min, slices.Max of integers; the product's narrow, walked.
  THE QUEUE OF CONSTRAINTS IN MEMORY; its small methods, walked.
  (*fix.queue).Less; container/heap's up and down, walked.
-/
import Derived.Test.YtaekdgikgbdnnaaGreatKonce3
import Derived.Test.YtaekdgikgbdnnaaGreatKlib1
import Derived.Test.YtaekdgikgbdnnaaGreatKlin6
import Derived.Test.YtaekdgikgbdnnaaGreatKfix1
import Derived.Test.YtaekdgikgbdnnaaGreatKonce2
namespace Go.Proofs.YtaekdgikgbdnnaaGreat
section
open Go.RowKit
theorem getD_atO {l:List Int} {i:Nat} (h:i<l.length):l.getD i 0=l[i]:=by simp [List.getD_eq_getElem?_getD,List.getElem?_eq_getElem h]
set_option maxRecDepth 100000
set_option maxHeartbeats 1600000
theorem narDiff_c (va vds:Value) (l:List Int) (was out:Ds) (w0 W:World) (B bo g:Nat) (hB:w0.heap.size=B) (hW:Below B w0 W) (h0:IsAt w0 va l) (hd:DsAt w0 vds was)
  (hv:∀ v∈l,0<=v/\v<was.length) (hll:l.length<=4096) (hdl:was.length<=4096) (hdm:∀ d∈was,d.length<=4096) (ho:OutAt W B bo g out) (hol:out.length=was.length) :
  Calls Tryz.prog 179 #[.agg #[va],vds,.func (.func 92) #[] #[.pointer (some ⟨bo,0,none⟩)]] W (NarR (some (diffTo l was l.length)) B bo g out W):=by
 subst hB
 obtain ⟨a0,c0,rfl,hc0,_⟩:=IsAt.shape h0
 obtain ⟨a2,c2,rfl,_⟩:=hd.shape
 have hWl:=hW.size
 have HZ:Hid (∀ o,Below W.heap.size W (W.alloc o)):=fun o=>(Below.refl _ _).alloc (rN _) o
 have HZB:Hid (∀ o,Below w0.heap.size W (W.alloc o)):=fun o=>(Below.refl _ _).alloc hWl o
 have HO:=hD ho
 have H1:=hD h0
 have HD:=hD hd
 have HW:=hD hW
 have HV:=hD hv
 have HM:=hD hdm
 have HG:Hid (g<W.heap.size):=by
  obtain ⟨us,_,ow,_⟩:=HO.out.own
  exact (ow.lt g rfl).2
 have HX:=hD (Box1.mk' W (.slice a0 l.length c0) 128)
 have E0:=hD hol
 have HO1:=hD (HO.out.below (HZ.out (.cells #[.slice a0 l.length c0] 128)))
 clear h0 hd hv ho hW hdm hol
 have hb0:=HX.out.c0
 go_enter Tryz.func179,Tryz.ntmps179
 go_wp2
 go_loopw [14] (fun s wr=>∃ i:Nat,i<=l.length/\s=.int .i64 i/\Hid (OutAt wr w0.heap.size bo g (keepsL (diffTo l was i) out))/\Hid (Stay (W.alloc (.cells #[.slice a0 l.length c0] 128)) wr g)/\Hid (Below w0.heap.size (W.alloc (.cells #[.slice a0 l.length c0] 128)) wr)) (fun s _=>l.length - (intOf s).toNat)
 case atStart=>exact ⟨0,by omega,rfl,HO1,Stay.refl _ _,Below.refl _ _⟩
 case round =>
  clear hb0 HO1
  obtain ⟨i,hi,rfl,HOk,HSk,HBk⟩:=hrel
  have HBB:=hD (HW.out.trans ((HZB.out _).trans HBk.out))
  have hneb:W.heap.size≠g:=by have:=HG.out;omega
  have hbx:=(HX.out.stay HSk.out hneb).c0
  by_cases hlt:i<l.length
  ·obtain ⟨b1,o1,rfl,_,hb1,x1⟩:=H1.out.get i hlt
   have j1:(i:Int)<l.length:=by omega
   rw [<- (HBB.out.cell (p:=⟨b1,o1+i,none⟩) hb1)] at x1
   obtain ⟨n,e1,hn,e2⟩:=domOf_in was l[i] (HV.out _ (List.getElem_mem hlt))
   obtain ⟨b2,o2,ao',cap',rfl,q2,l2,_,x2,x3⟩:=HD.out.get n hn
   have X20:=hD x2
   rw [<- HBB.out.cell (p:=⟨b2,o2+n,none⟩) l2] at x2
   have hl4:=HM.out _ (List.getElem_mem hn)
   have j3:(n:Int)<was.length:=by omega
   have CS:=hD (size_c _ was[n] wr (x3.below HBB.out) hl4)
   have e1':l.getD i 0=(n:Int):=by rw [getD_atO hlt,e1]
   have e2':domOf was (l.getD i 0)=was[n]:=by rw [getD_atO hlt,e2]
   rw [e1] at x1
   have S0:=hD (diffTo_snoc l was i)
   by_cases hs:sizeL (norm was[n])=1
   ·have SA:Hid (∀ m,diffAt l was i (m+1)=diffAt l was i m++(if m=i then [] else [(l.getD m 0,complL was[n])])):=fun m=>by
     have:=diffAt_snoc l was i m (by rw [e2'];exact hs)
     rw [e2'] at this;exact this
    have S1:Hid (diffAt l was i 0=[]):=by show _=_;unfold diffAt;split <;> rfl
    have CC:Hid (∀ W1,Below w0.heap.size w0 W1->Calls Tryz.prog 93 #[.slice ao' was[n].length cap'] W1 (RetR (complL was[n]) W1)):=fun W1 h=>compl_c _ was[n] W1 (x3.below h) hl4
    have hcl:(complL was[n]).length<=201:=canon_len _
    rw [hs] at CS
    have HCL:=hD hcl
    clear e1 e2 e1' e2' x3 hs hcl
    generalize complL was[n]=cm at *
    generalize was[n].length=wl at *
    obtain ⟨wo,hwo⟩:∃ wo:World,wo=wr:=⟨_,rfl⟩
    subst hwo
    go_wp2_with (go_at_call 68;(with_reducible refine CS.out.mono ?_);rintro e W1 ⟨rfl,b1'⟩;have HO1:=hD (HOk.out.below b1');have HS1:=hD (HSk.out.trans (Stay.of_below b1'));have HB1:=hD (HBk.out.trans (b1'.mono HBB.out.size));have hbx1:=(HX.out.stay HS1.out hneb).c0;have x21:=(b1'.cell (p:=⟨b2,o2+n,none⟩) (Nat.lt_of_lt_of_le l2 HBB.out.size)).trans x2;clear b1')
    go_loopw [28] (fun s wi=>∃ m:Nat,m<=l.length/\s=.int .i64 m/\Hid (OutAt wi w0.heap.size bo g (keepsL (diffTo l was i++diffAt l was i m) out))/\Hid (Stay (W.alloc (.cells #[.slice (some ⟨b1,o1,none⟩) l.length c0] 128)) wi g)/\Hid (Below w0.heap.size (W.alloc (.cells #[.slice (some ⟨b1,o1,none⟩) l.length c0] 128)) wi)) (fun s _=>l.length - (intOf s).toNat)
    case atStart=>exact ⟨0,by omega,rfl,by rw [S1.out,List.append_nil];exact HO1,HS1,HB1⟩
    case round =>
     clear HO1 HS1 HB1 hbx hbx1 x1 x2 x21 HBB HOk HSk HBk CS
     obtain ⟨m,hm,rfl,HOk,HSk,HBk⟩:=hrel
     have HBB:=hD (HW.out.trans ((HZB.out _).trans HBk.out))
     have hbx:=(HX.out.stay HSk.out hneb).c0
     by_cases hltm:m<l.length
     ·obtain ⟨b5,o5,he5,_,hb5,x5⟩:=H1.out.get m hltm
      simp only [Option.some.injEq,Addr.mk.injEq,and_true] at he5
      obtain ⟨rfl,rfl⟩:=he5
      have j5:(m:Int)<l.length:=by omega
      rw [<- (HBB.out.cell (p:=⟨b1,o1+m,none⟩) hb5)] at x5
      obtain ⟨q,e5,hq,_⟩:=domOf_in was l[m] (HV.out _ (List.getElem_mem hltm))
      have SAm:=hD (SA.out m)
      rw [getD_atO hltm,e5] at SAm
      rw [e5] at x5
      have x6:=(HBB.out.cell (p:=⟨b2,o2+n,none⟩) l2).trans X20.out
      by_cases hmi:m=i
      ·subst hmi
       rw [if_pos rfl,List.append_nil] at SAm
       have hne:((m:Int) != m)=false:=by simp
       go_wp2
       exact ⟨⟨m+1,by omega,by go_num,by rw [SAm.out];exact HOk,HSk,HBk⟩,by simp [intOf];omega⟩
      ·rw [if_neg hmi] at SAm
       have hne:((m:Int) != i)=true:=by simpa using (show ¬ (m:Int)=i by omega)
       have hmi':¬ (m:Int)=i:=by omega
       have hks:=keepsL_snoc (diffTo l was i++diffAt l was i m) ((q:Int),cm) out
       rw [List.append_assoc,<- SAm.out] at hks
       have HKS:=hD hks
       have hkl:(keepsL (diffTo l was i++diffAt l was i m) out).length=was.length:=by rw [keepsL_len];exact E0.out
       have HKL:=hD hkl
       clear hks hkl hmi
       go_wp2_with (first
        | (go_at_call 93;(with_reducible refine (CC.out _ HBB.out).mono ?_);rintro e W4 ⟨a4,c4,rfl,r4,b4⟩;have CK:Hid (Calls Tryz.prog 92 #[.int .i64 q,.slice a4 cm.length c4,.pointer (some ⟨bo,0,none⟩)] W4 fun e W'=>(∃ u,e=.returned u)/\OutAt W' w0.heap.size bo g (keepsL (diffTo l was i++diffAt l was i (m+1)) out)/\Below w0.heap.size W4 W'/\Stay W4 W' g):=(by
          rw [HKS.out]
          exact keep_c w0.heap.size bo g q _ cm _ W4 (HOk.out.below b4) (by rw [HKL.out];exact hq) r4 (by have:=HCL.out;omega) (Nat.le_trans HBB.out.size b4.size) (by rw [HKL.out];exact hdl));have HS4:=hD (HSk.out.trans (Stay.of_below b4));have HB4:=hD (HBk.out.trans (b4.mono HBB.out.size));clear b4 r4)
        | (go_at_call 92;(with_reducible refine CK.out.mono ?_);rintro e W5 ⟨⟨u,rfl⟩,o5,b5,s5⟩;have O5:=hD o5;have B5:=hD (HB4.out.trans b5);have S5:=hD (HS4.out.trans s5);clear o5 b5 s5))
       exact ⟨⟨m+1,by omega,by go_num,O5,S5,B5⟩,by simp [intOf];omega⟩
     ·obtain rfl:m=l.length:=by omega
      rw [<- S0.out] at HOk
      go_wp2
      exact ⟨⟨i+1,by omega,by go_num,HOk,HSk,HBk⟩,by simp [intOf];omega⟩
   ·have hd0:diffAt l was i l.length=[]:=by
     unfold diffAt
     rw [if_neg (by rw [e2'];exact hs)]
    rw [hd0,List.append_nil] at S0
    have hsz:(sizeL (norm was[n])==1)=false:=beqf hs
    clear hs hd0 e1 e2 e1' e2' x3
    generalize sizeL (norm was[n])=sz at *
    generalize was[n].length=wl at *
    go_wp2_with (go_at_call 68;(with_reducible refine CS.out.mono ?_);rintro e W1 ⟨rfl,b1'⟩;have HO1:=hD (HOk.out.below b1');have HS1:=hD (HSk.out.trans (Stay.of_below b1'));have HB1:=hD (HBk.out.trans (b1'.mono HBB.out.size));clear b1')
    exact ⟨⟨i+1,by omega,by go_num,by rw [S0.out];exact HO1,HS1,HB1⟩,by simp [intOf];omega⟩
  ·obtain rfl:i=l.length:=by omega
   go_wp2
   go_ret
   exact ⟨(HZB.out _).trans HBk.out,(Stay.of_below (HZ.out _)).trans HSk.out,.inl ⟨_,rfl,rfl,HOk.out⟩⟩
theorem Stay.alloc {W W':World} {g:Nat} (h:Stay W W' g) (o:Obj):Stay W (W'.alloc o) g :=
 h.trans (Stay.of_below ((Below.refl _ _).alloc (rN _) o))
theorem below_of {B:Nat} {w0 W W':World} (h1:Below B w0 W) (h2:Below B w0 W') (hs:W.heap.size<=W'.heap.size):Below B W W' :=
 ⟨h2.os.trans h1.os.symm,h2.tape.trans h1.tape.symm,h2.output.trans h1.output.symm,hs,fun k hk=>(h2.block k hk).trans (h1.block k hk).symm⟩
theorem Stay.drew {W W':World} {g:Nat} (h:Stay W W' g):Stay W W'.drew g:=h
theorem minI_c (v:Value) (z:Int) (zs:List Int) (w:World) (h:IsAt w v (z::zs)) (hl:zs.length<=4096) :
  Calls Tryz.prog 185 #[v] w fun e w'=>e=.returned (.int .i64 (zs.foldl min z))/\w=w':=by
 obtain ⟨ao,cap,rfl,_⟩:=IsAt.shape h
 have H:=hD h
 obtain ⟨b,off,rfl,hc,hb,x0⟩:=h.get 0 (by simp)
 simp only [List.getElem_cons_zero,Nat.add_zero] at x0
 have hlen:(z::zs).length=zs.length+1:=by simp
 clear h
 rw [hlen] at *
 go_enter Tryz.func185,Tryz.ntmps185
 go_wp2
 go_loop [3,4] (fun m i=>∃ k:Nat,k<=zs.length/\i=.int .i64 ((k:Int)+1)/\m=.int .i64 ((zs.take k).foldl min z)) (fun _ i=>zs.length+1 - (intOf i).toNat)
 case atStart=>exact ⟨0,by omega,rfl,rfl⟩
 case round =>
  obtain ⟨k,hk,rfl,rfl⟩:=hrel
  by_cases hlt:k<zs.length
  ·obtain ⟨b1,o1,he,_,_,x1⟩:=IsAt.get (n:=(z::zs).length) H.out (k+1) (by simp;omega)
   simp only [Option.some.injEq,Addr.mk.injEq,and_true] at he
   obtain ⟨rfl,rfl⟩:=he
   simp only [List.getElem_cons_succ] at x1
   have S:Hid ((zs.take (k+1)).foldl min z=min ((zs.take k).foldl min z) zs[k]):=by show _=_;rw [List.take_succ_eq_append_getElem hlt,List.foldl_append];rfl
   have j1:(k:Int)+1<zs.length+1:=by omega
   have e1:((k:Int)+1).toNat=k+1:=by omega
   generalize zs[k]=y at *
   generalize (zs.take k).foldl min z=m at *
   go_wp2
   go_round
   case rel=>exact ⟨k+1,by omega,by go_num,by rw [S.out]⟩
   case measure=>simp [intOf];omega
  ·obtain rfl:k=zs.length:=by omega
   rw [List.take_length]
   obtain ⟨m,hm⟩:∃ m,m=zs.foldl min z:=⟨_,rfl⟩
   rw [<- hm]
   have HM:=hD hm
   clear hm
   go_wp2
   go_ret
   exact ⟨ret_int HM.out,rfl⟩
theorem maxI_c (v:Value) (z:Int) (zs:List Int) (w:World) (h:IsAt w v (z::zs)) (hl:zs.length<=4096) :
  Calls Tryz.prog 186 #[v] w fun e w'=>e=.returned (.int .i64 (zs.foldl max z))/\w=w':=by
 obtain ⟨ao,cap,rfl,_⟩:=IsAt.shape h
 have H:=hD h
 obtain ⟨b,off,rfl,hc,hb,x0⟩:=h.get 0 (by simp)
 simp only [List.getElem_cons_zero,Nat.add_zero] at x0
 have hlen:(z::zs).length=zs.length+1:=by simp
 clear h
 rw [hlen] at *
 go_enter Tryz.func186,Tryz.ntmps186
 go_wp2
 go_loop [3,4] (fun m i=>∃ k:Nat,k<=zs.length/\i=.int .i64 ((k:Int)+1)/\m=.int .i64 ((zs.take k).foldl max z)) (fun _ i=>zs.length+1 - (intOf i).toNat)
 case atStart=>exact ⟨0,by omega,rfl,rfl⟩
 case round =>
  obtain ⟨k,hk,rfl,rfl⟩:=hrel
  by_cases hlt:k<zs.length
  ·obtain ⟨b1,o1,he,_,_,x1⟩:=IsAt.get (n:=(z::zs).length) H.out (k+1) (by simp;omega)
   simp only [Option.some.injEq,Addr.mk.injEq,and_true] at he
   obtain ⟨rfl,rfl⟩:=he
   simp only [List.getElem_cons_succ] at x1
   have S:Hid ((zs.take (k+1)).foldl max z=max ((zs.take k).foldl max z) zs[k]):=by show _=_;rw [List.take_succ_eq_append_getElem hlt,List.foldl_append];rfl
   have j1:(k:Int)+1<zs.length+1:=by omega
   have e1:((k:Int)+1).toNat=k+1:=by omega
   generalize zs[k]=y at *
   generalize (zs.take k).foldl max z=m at *
   go_wp2
   go_round
   case rel=>exact ⟨k+1,by omega,by go_num,by rw [S.out]⟩
   case measure=>simp [intOf];omega
  ·obtain rfl:k=zs.length:=by omega
   rw [List.take_length]
   obtain ⟨m,hm⟩:∃ m,m=zs.foldl max z:=⟨_,rfl⟩
   rw [<- hm]
   have HM:=hD hm
   clear hm
   go_wp2
   go_ret
   exact ⟨ret_int HM.out,rfl⟩
theorem rgAt_new (w:World) (a b:Int) (T:TypeId):RgAt (w.alloc (.cells #[.int .i64 a,.int .i64 b] T)) (.slice (some ⟨w.heap.size,0,none⟩) 1 1) [(a,b)]:=rgAt_lit2 w (a,b) T
theorem mul_bnd2 (x y:Int) (hx:-200<=x/\x<=200) (hy:-200<=y/\y<=200):-40000<=x * y/\x * y<=40000:=by have:=mul_bnd y x 200 hy hx;omega
theorem IsAt.stay {W W':World} {b o n c g:Nat} {zs:List Int} (h:IsAt W (.slice (some ⟨b,o,none⟩) n c) zs) (hs:Stay W W' g) (hne:b≠g):IsAt W' (.slice (some ⟨b,o,none⟩) n c) zs:=by
 obtain ⟨h1,ao,cap,he,h2,h3,h5,h4⟩:=h
 refine ⟨h1,ao,cap,he,h2,h3,h5,fun hp=>?_⟩
 obtain ⟨b',off,rfl,hlt,hc⟩:=h4 hp
 simp only [Value.slice.injEq,Option.some.injEq,Addr.mk.injEq] at he
 obtain ⟨⟨rfl,rfl,_⟩,_⟩:=he
 exact ⟨_,_,rfl,Nat.lt_of_lt_of_le hlt hs.1,fun j hj=>(hs.cell (p:=⟨b,o+j,none⟩) hlt hne).trans (hc j hj)⟩
set_option maxHeartbeats 3200000
theorem narProd_c (vds:Value) (nx ny nz:Nat) (was out:Ds) (w0 W:World) (B bo g:Nat) (hB:w0.heap.size=B) (hW:Below B w0 W) (hd:DsAt w0 vds was) (hx:nx<was.length) (hy:ny<was.length) (hz:nz<was.length)
  (hdl:was.length<=4096) (hN:AllN was) (ho:OutAt W B bo g out) (hol:out.length=was.length) :
  Calls Tryz.prog 182 #[.agg #[.int .i64 nx,.int .i64 ny,.int .i64 nz],vds,.func (.func 92) #[] #[.pointer (some ⟨bo,0,none⟩)]] W (NarR (some (prodKs nx ny nz was)) B bo g out W):=by
 subst hB
 obtain ⟨a2,c2,rfl,_⟩:=hd.shape
 have hWl:=hW.size
 have HZ:Hid (∀ o,Below W.heap.size W (W.alloc o)):=fun o=>(Below.refl _ _).alloc (rN _) o
 have HO:=hD ho
 have HW:=hD hW
 have HG:Hid (g<W.heap.size):=by
  obtain ⟨us,_,ow,_⟩:=HO.out.own
  exact (ow.lt g rfl).2
 have hneb:W.heap.size≠g:=by have:=HG.out;omega
 have HKS:Hid (prodKs nx ny nz was=[((nx:Int),factorsL was[nx] (loD was[ny]) (hiD was[ny]) (loD was[nz]) (hiD was[nz])),((ny:Int),factorsL was[ny] (loD was[nx]) (hiD was[nx]) (loD was[nz]) (hiD was[nz])),((nz:Int),prodR was[nx] was[ny])]):=by
  show _=_
  unfold prodKs
  rw [domOf_nat hx,domOf_nat hy,domOf_nat hz]
 obtain ⟨bx,ox,ax,cx,he,qx,lx,_,x2,x3⟩:=hd.get nx hx
 obtain ⟨by',oy,ay,cy,he2,qy,ly,_,y2,y3⟩:=hd.get ny hy
 obtain ⟨bz,oz,az,cz,he3,qz,lz,_,z2,z3⟩:=hd.get nz hz
 rw [he] at he2 he3
 simp only [Option.some.injEq,Addr.mk.injEq,and_true] at he2 he3
 obtain ⟨rfl,rfl⟩:=he2
 obtain ⟨rfl,rfl⟩:=he3
 subst he
 have nX:=allN_at hN hx
 have nY:=allN_at hN hy
 have nZ:=allN_at hN hz
 have bX:=ends_bnd was[nx]
 have bY:=ends_bnd was[ny]
 have bZ:=ends_bnd was[nz]
 have tX:=normal_len nX
 have tY:=normal_len nY
 have tZ:=normal_len nZ
 have CX:Hid (∀ W1,Below w0.heap.size w0 W1->Calls Tryz.prog 45 #[.slice ax was[nx].length cx] W1 fun e w'=>e=.returned (.tuple #[.int .i64 (loD was[nx]),.int .i64 (hiD was[nx]),.bool (endsL (norm was[nx])).2.2])/\Below W1.heap.size W1 w'):=fun W1 h=>ends_c _ _ W1 (x3.below h) (by omega)
 have CY:Hid (∀ W1,Below w0.heap.size w0 W1->Calls Tryz.prog 45 #[.slice ay was[ny].length cy] W1 fun e w'=>e=.returned (.tuple #[.int .i64 (loD was[ny]),.int .i64 (hiD was[ny]),.bool (endsL (norm was[ny])).2.2])/\Below W1.heap.size W1 w'):=fun W1 h=>ends_c _ _ W1 (y3.below h) (by omega)
 have CZ:Hid (∀ W1,Below w0.heap.size w0 W1->Calls Tryz.prog 45 #[.slice az was[nz].length cz] W1 fun e w'=>e=.returned (.tuple #[.int .i64 (loD was[nz]),.int .i64 (hiD was[nz]),.bool (endsL (norm was[nz])).2.2])/\Below W1.heap.size W1 w'):=fun W1 h=>ends_c _ _ W1 (z3.below h) (by omega)
 have CF1:Hid (∀ W1,Below w0.heap.size w0 W1->Calls Tryz.prog 184 #[.slice ax was[nx].length cx,.int .i64 (loD was[ny]),.int .i64 (hiD was[ny]),.int .i64 (loD was[nz]),.int .i64 (hiD was[nz])] W1 (RetR (factorsL was[nx] (loD was[ny]) (hiD was[ny]) (loD was[nz]) (hiD was[nz])) W1)):=fun W1 h =>
  factors_c _ was[nx] _ _ _ _ W1 (x3.below h) nX ⟨bY.1,bY.2.1⟩ bY.2.2 ⟨bZ.1,bZ.2.1⟩ bZ.2.2
 have CF2:Hid (∀ W1,Below w0.heap.size w0 W1->Calls Tryz.prog 184 #[.slice ay was[ny].length cy,.int .i64 (loD was[nx]),.int .i64 (hiD was[nx]),.int .i64 (loD was[nz]),.int .i64 (hiD was[nz])] W1 (RetR (factorsL was[ny] (loD was[nx]) (hiD was[nx]) (loD was[nz]) (hiD was[nz])) W1)):=fun W1 h =>
  factors_c _ was[ny] _ _ _ _ W1 (y3.below h) nY ⟨bX.1,bX.2.1⟩ bX.2.2 ⟨bZ.1,bZ.2.1⟩ bZ.2.2
 have HC:Hid (∀ W1,Below w0.heap.size w0 W1->W1.cell? ⟨bx,ox+nx,none⟩=some (.slice ax was[nx].length cx)/\W1.cell? ⟨bx,ox+ny,none⟩=some (.slice ay was[ny].length cy)/\W1.cell? ⟨bx,ox+nz,none⟩=some (.slice az was[nz].length cz)):=fun W1 h =>
  ⟨(h.cell (p:=⟨bx,ox+nx,none⟩) lx).trans x2,(h.cell (p:=⟨bx,ox+ny,none⟩) lx).trans y2,(h.cell (p:=⟨bx,ox+nz,none⟩) lx).trans z2⟩
 have HX:=hD (BoxL.mk' W #[.int .i64 nx,.int .i64 ny,.int .i64 nz] 141)
 have hf1:(factorsL was[nx] (loD was[ny]) (hiD was[ny]) (loD was[nz]) (hiD was[nz])).length<=201:=canon_len _
 have hf2:(factorsL was[ny] (loD was[nx]) (hiD was[nx]) (loD was[nz]) (hiD was[nz])).length<=201:=canon_len _
 have HPR:Hid (prodR was[nx] was[ny]=[(min4 (loD was[nx] * loD was[ny]) (loD was[nx] * hiD was[ny]) (hiD was[nx] * loD was[ny]) (hiD was[nx] * hiD was[ny]),max4 (loD was[nx] * loD was[ny]) (loD was[nx] * hiD was[ny]) (hiD was[nx] * loD was[ny]) (hiD was[nx] * hiD was[ny]))]):=rfl
 rw [HKS.out]
 change (-200<=loD was[nx]/\loD was[nx]<=200/\-200<=hiD was[nx]/\hiD was[nx]<=200) at bX
 change (-200<=loD was[ny]/\loD was[ny]<=200/\-200<=hiD was[ny]/\hiD was[ny]<=200) at bY
 change (-200<=loD was[nz]/\loD was[nz]<=200/\-200<=hiD was[nz]/\hiD was[nz]<=200) at bZ
 rw [HPR.out]
 generalize factorsL was[nx] (loD was[ny]) (hiD was[ny]) (loD was[nz]) (hiD was[nz])=F1 at *
 generalize factorsL was[ny] (loD was[nx]) (hiD was[nx]) (loD was[nz]) (hiD was[nz])=F2 at *
 clear HKS HPR x2 x3 y2 y3 z2 z3 nX nY nZ tX tY tZ ho hW hd hN
 generalize loD was[nx]=x1 at *
 generalize hiD was[nx]=x2 at *
 generalize loD was[ny]=y1 at *
 generalize hiD was[ny]=y2 at *
 generalize loD was[nz]=z1 at *
 generalize hiD was[nz]=z2 at *
 generalize (endsL (norm was[nx])).2.2=ex at *
 generalize (endsL (norm was[ny])).2.2=ey at *
 generalize (endsL (norm was[nz])).2.2=ez at *
 generalize was[nx].length=xl at *
 generalize was[ny].length=yl at *
 generalize was[nz].length=zl at *
 have m1:=mul_bnd2 x1 y1 (by omega) (by omega)
 have m2:=mul_bnd2 x1 y2 (by omega) (by omega)
 have m3:=mul_bnd2 x2 y1 (by omega) (by omega)
 have m4:=mul_bnd2 x2 y2 (by omega) (by omega)
 have E0:=hD hol
 clear hol
 have BZ:Hid (Below w0.heap.size w0 (W.alloc (.cells #[.int .i64 nx,.int .i64 ny,.int .i64 nz] 141))):=HW.out.trans ((HZ.out _).mono hWl)
 have jx:(nx:Int)<was.length:=by omega
 have jy:(ny:Int)<was.length:=by omega
 have jz:(nz:Int)<was.length:=by omega
 have HS0:=hD (Stay.refl (W.alloc (.cells #[.int .i64 nx,.int .i64 ny,.int .i64 nz] 141)) g)
 have HO0:=hD (HO.out.below (HZ.out (.cells #[.int .i64 nx,.int .i64 ny,.int .i64 nz] 141)))
 have HQ:Hid (∀ W1,Below w0.heap.size w0 W1->Stay (W.alloc (.cells #[.int .i64 nx,.int .i64 ny,.int .i64 nz] 141)) W1 g->W1.cell? ⟨W.heap.size,0,none⟩=some (.int .i64 nx)/\W1.cell? ⟨W.heap.size,1,none⟩=some (.int .i64 ny)/\W1.cell? ⟨W.heap.size,2,none⟩=some (.int .i64 nz)/\W1.cell? ⟨bx,ox+nx,none⟩=some (.slice ax xl cx)/\W1.cell? ⟨bx,ox+ny,none⟩=some (.slice ay yl cy)/\W1.cell? ⟨bx,ox+nz,none⟩=some (.slice az zl cz)):=fun W1 hb hs=>by
  have hh:=HX.out.stay (by simp) hs hneb
  obtain ⟨u1,u2,u3⟩:=HC.out W1 hb
  exact ⟨(hh.get 0 rfl).1,(hh.get 1 rfl).1,(hh.get 2 rfl).1,u1,u2,u3⟩
 go_enter Tryz.func182,Tryz.ntmps182
 obtain ⟨v0,v1,v2,v3,v4,v5⟩:=HQ.out _ BZ.out HS0.out
 go_wp2_with (first
  | (go_at_call 45;(with_reducible refine (CX.out _ BZ.out).mono ?_);rintro e W1 ⟨rfl,b1⟩;have BW1:=hD (bT BZ.out b1);have SW1:=hD (HS0.out.trans (Stay.of_below b1));obtain ⟨v10,v11,v12,v13,v14,v15⟩:=HQ.out _ BW1.out SW1.out;have O1:=hD (HO0.out.below b1);clear b1)
  | (go_at_call 45;(with_reducible refine (CY.out _ BW1.out).mono ?_);rintro e W2 ⟨rfl,b1⟩;have BW2:=hD (bT BW1.out b1);have SW2:=hD (SW1.out.trans (Stay.of_below b1));obtain ⟨v20,v21,v22,v23,v24,v25⟩:=HQ.out _ BW2.out SW2.out;have O2:=hD (O1.out.below b1);clear b1)
  | (go_at_call 45;(with_reducible refine (CZ.out _ BW2.out).mono ?_);rintro e W3 ⟨rfl,b1⟩;have BW3:=hD (bT BW2.out b1);have SW3:=hD (SW2.out.trans (Stay.of_below b1));obtain ⟨v30,v31,v32,v33,v34,v35⟩:=HQ.out _ BW3.out SW3.out;have O3:=hD (O2.out.below b1);clear b1))
 have P4:Hid (∀ W1,Below w0.heap.size w0 W1->Stay (W.alloc (.cells #[.int .i64 nx,.int .i64 ny,.int .i64 nz] 141)) W1 g->W1.cell? ⟨W.heap.size,0,none⟩=some (.int .i64 nx)/\W1.cell? ⟨bx,ox+nx,none⟩=some (.slice ax xl cx)):=fun W1 hb hs=>⟨(HQ.out W1 hb hs).1,(HQ.out W1 hb hs).2.2.2.1⟩
 have P5:Hid (∀ W1,Below w0.heap.size w0 W1->Stay (W.alloc (.cells #[.int .i64 nx,.int .i64 ny,.int .i64 nz] 141)) W1 g->W1.cell? ⟨W.heap.size,1,none⟩=some (.int .i64 ny)/\W1.cell? ⟨bx,ox+ny,none⟩=some (.slice ay yl cy)):=fun W1 hb hs=>⟨(HQ.out W1 hb hs).2.1,(HQ.out W1 hb hs).2.2.2.2.1⟩
 have P7:Hid (∀ W1,Below w0.heap.size w0 W1->Stay (W.alloc (.cells #[.int .i64 nx,.int .i64 ny,.int .i64 nz] 141)) W1 g->W1.cell? ⟨W.heap.size,2,none⟩=some (.int .i64 nz)):=fun W1 hb hs=>(HQ.out W1 hb hs).2.2.1
 clear v0 v1 v2 v3 v4 v5 v10 v11 v12 v13 v14 v15 v20 v21 v22 v23 v24 v25
 go_region_held3 (fun W'=>W'.cell? ⟨W.heap.size,0,none⟩=some (.int .i64 nx)/\W'.cell? ⟨bx,ox+nx,none⟩=some (.slice ax xl cx)) ((first | exact P4.out _ BW3.out SW3.out | exact P4.out _ BW3.out.drew SW3.out.drew | exact P4.out _ BW4.out SW4.out | exact P4.out _ BW5.out SW5.out))
  (first
   | (go_at_call 184;(with_reducible refine (CF1.out _ BW3.out.drew).mono ?_);rintro e W4 ⟨a4,c4,rfl,r4,b4⟩;have BW4:=hD (BW3.out.drew.trans (b4.mono BW3.out.size));have SW4:=hD (SW3.out.drew.trans (Stay.of_below b4));have CK1:=hD (keep_c w0.heap.size bo g nx out F1 _ W4 (O3.out.below (Below.trans ((Below.refl _ W3).drew) b4)) (by rw [E0.out];exact hx) r4 (by omega) BW4.out.size (by rw [E0.out];exact hdl));clear b4 r4)
   | (go_at_call 92;(with_reducible refine CK1.out.mono ?_);rintro e W5 ⟨⟨u,rfl⟩,o5,b5,s5⟩;have BW5:=hD (BW4.out.trans b5);have SW5:=hD (SW4.out.trans s5);have O5:=hD o5;clear o5 b5 s5))
 clear v30 v31 v32 v33 v34 v35
 obtain ⟨v50,v51,v52,v53,v54,v55⟩:=HQ.out _ BW5.out SW5.out
 have E5:Hid ((keepL out ((nx:Int),F1)).length=was.length):=by show _=_;rw [keepL_len];exact E0.out
 go_wp2_with fail
 go_region_held3 (fun W'=>W'.cell? ⟨W.heap.size,1,none⟩=some (.int .i64 ny)/\W'.cell? ⟨bx,ox+ny,none⟩=some (.slice ay yl cy)) ((first | exact P5.out _ BW5.out SW5.out | exact P5.out _ BW5.out.drew SW5.out.drew | exact P5.out _ BW6.out SW6.out | exact P5.out _ BW7.out SW7.out))
  (first
   | (go_at_call 184;(with_reducible refine (CF2.out _ BW5.out.drew).mono ?_);rintro e W6 ⟨a6,c6,rfl,r6,b6⟩;have BW6:=hD (BW5.out.drew.trans (b6.mono BW5.out.size));have SW6:=hD (SW5.out.drew.trans (Stay.of_below b6));have CK2:=hD (keep_c w0.heap.size bo g ny (keepL out ((nx:Int),F1)) F2 _ W6 (O5.out.below (Below.trans ((Below.refl _ W5).drew) b6)) (by rw [E5.out];exact hy) r6 (by omega) BW6.out.size (by rw [E5.out];exact hdl));clear b6 r6)
   | (go_at_call 92;(with_reducible refine CK2.out.mono ?_);rintro e W7 ⟨⟨u,rfl⟩,o7,b7,s7⟩;have BW7:=hD (BW6.out.trans b7);have SW7:=hD (SW6.out.trans s7);have O7:=hD o7;clear o7 b7 s7))
 clear v50 v51 v52 v53 v54 v55
 have E7:Hid ((keepL (keepL out ((nx:Int),F1)) ((ny:Int),F2)).length=was.length):=by show _=_;rw [keepL_len];exact E5.out
 have HL:=hD (isAt_litn W7 [x1 * y1,x1 * y2,x2 * y1,x2 * y2] 3 (by simp))
 have hl7:W7.heap.size≠g:=by
  have h1:=SW7.out.1
  have h2:=HG.out
  simp at h1;omega
 have BW8:Hid (∀ o,Below w0.heap.size w0 (W7.alloc o)):=fun o=>BW7.out.alloc BW7.out.size o
 have SW8:Hid (∀ o,Stay (W.alloc (.cells #[.int .i64 nx,.int .i64 ny,.int .i64 nz] 141)) (W7.alloc o) g):=fun o=>SW7.out.alloc o
 have O8:Hid (∀ o,OutAt (W7.alloc o) w0.heap.size bo g (keepL (keepL out ((nx:Int),F1)) ((ny:Int),F2))):=fun o=>O7.out.below ((Below.refl _ _).alloc (rN _) o)
 go_wp2_with fail
 have B8':=BW8.out (.cells #[.int .i64 (x1 * y1),.int .i64 (x1 * y2),.int .i64 (x2 * y1),.int .i64 (x2 * y2)] 3)
 have S8':=SW8.out (.cells #[.int .i64 (x1 * y1),.int .i64 (x1 * y2),.int .i64 (x2 * y1),.int .i64 (x2 * y2)] 3)
 have O8':=O8.out (.cells #[.int .i64 (x1 * y1),.int .i64 (x1 * y2),.int .i64 (x2 * y1),.int .i64 (x2 * y2)] 3)
 have L8':IsAt (W7.alloc (.cells #[.int .i64 (x1 * y1),.int .i64 (x1 * y2),.int .i64 (x2 * y1),.int .i64 (x2 * y2)] 3)) (.slice (some ⟨W7.heap.size,0,none⟩) 4 4) [x1 * y1,x1 * y2,x2 * y1,x2 * y2]:=HL.out
 generalize W7.alloc (.cells #[.int .i64 (x1 * y1),.int .i64 (x1 * y2),.int .i64 (x2 * y1),.int .i64 (x2 * y2)] 3)=W8 at *
 have BX:=hD B8'
 have SX:=hD S8'
 have OX:=hD O8'
 have CMn:Hid (∀ W',Stay W8 W' g->Calls Tryz.prog 185 #[.slice (some ⟨W7.heap.size,0,none⟩) 4 4] W' fun e w'=>e=.returned (.int .i64 (min4 (x1 * y1) (x1 * y2) (x2 * y1) (x2 * y2)))/\W'=w'):=fun W' h =>
  minI_c _ _ [x1 * y2,x2 * y1,x2 * y2] W' (L8'.stay h hl7) (by simp)
 have CMx:Hid (∀ W',Stay W8 W' g->Calls Tryz.prog 186 #[.slice (some ⟨W7.heap.size,0,none⟩) 4 4] W' fun e w'=>e=.returned (.int .i64 (max4 (x1 * y1) (x1 * y2) (x2 * y1) (x2 * y2)))/\W'=w'):=fun W' h =>
  maxI_c _ _ [x1 * y2,x2 * y1,x2 * y2] W' (L8'.stay h hl7) (by simp)
 clear B8' S8' O8' L8' BW8 SW8 O8 HL
 have HKS:Hid (keepsL [((nx:Int),F1),((ny:Int),F2),((nz:Int),[(min4 (x1 * y1) (x1 * y2) (x2 * y1) (x2 * y2),max4 (x1 * y1) (x1 * y2) (x2 * y1) (x2 * y2))])] out=keepL (keepL (keepL out ((nx:Int),F1)) ((ny:Int),F2)) ((nz:Int),[(min4 (x1 * y1) (x1 * y2) (x2 * y1) (x2 * y2),max4 (x1 * y1) (x1 * y2) (x2 * y1) (x2 * y2))])):=rfl
 obtain ⟨mn,hmn⟩:∃ mn,mn=min4 (x1 * y1) (x1 * y2) (x2 * y1) (x2 * y2):=⟨_,rfl⟩
 obtain ⟨mx,hmx⟩:∃ mx,mx=max4 (x1 * y1) (x1 * y2) (x2 * y1) (x2 * y2):=⟨_,rfl⟩
 rw [<- hmn] at CMn HKS |-
 rw [<- hmx] at CMx HKS |-
 have HMN:=hD hmn
 have HMX:=hD hmx
 clear hmn hmx
 have hv8:=P7.out _ BX.out SX.out
 go_region_held3 (fun W'=>W'.cell? ⟨W.heap.size,2,none⟩=some (.int .i64 nz)) ((first | exact P7.out _ BX.out SX.out | exact P7.out _ BX.out.drew SX.out.drew | exact P7.out _ BW9.out SW9.out | exact P7.out _ (BX.out.drew.alloc BX.out.size _) (SX.out.drew.alloc _) | exact P7.out _ BW10.out SW10.out))
  (first
   | (go_at_call 185;(with_reducible refine (CMn.out _ (Stay.refl W8 g).drew).mono ?_);rintro e w' ⟨rfl,rfl⟩)
   | (go_at_call 186;(with_reducible refine (CMx.out _ (Stay.refl W8 g).drew).mono ?_);rintro e w' ⟨rfl,rfl⟩)
   | (go_at_call 92;refine (keep_c w0.heap.size bo g nz (keepL (keepL out ((nx:Int),F1)) ((ny:Int),F2)) [(mn,mx)] _ _ ((OX.out.below ((Below.refl _ W8).drew)).below (bA _)) (by rw [E7.out];exact hz) (rgAt_new W8.drew mn mx _) (by simp) (Nat.le_trans BX.out.size (by simp)) (by rw [E7.out];exact hdl)).mono ?_;rintro e W10 ⟨⟨u,rfl⟩,o10,b10,s10⟩;have BW10:=hD ((BX.out.drew.alloc BX.out.size _).trans b10);have SW10:=hD ((SX.out.drew.alloc _).trans s10);have O10:=hD o10;clear o10 b10 s10))
 go_wp2_with fail
 go_ret
 exact ⟨below_of HW.out BW10.out (Nat.le_trans (HZ.out _).size SW10.out.1),(Stay.of_below (HZ.out _)).trans SW10.out,.inl ⟨_,rfl,rfl,by rw [<- HMN.out,<- HMX.out,HKS.out];exact O10.out⟩⟩
structure QSt (qb:Nat) (w:World) (pl:Value) (w':World) (pl':Value):Prop where
 b0:Below 0 w w'
 blk:∀ b,b<w.heap.size->b≠qb->pl.ownBlock≠some b->w'.heap[b]?=w.heap[b]?
 row:∀ b,pl'.ownBlock=some b->pl.ownBlock=some b\/w.heap.size<=b
theorem QSt.refl (qb:Nat) (w:World) (pl:Value):QSt qb w pl w pl:=⟨Below.refl _ _,fun _ _ _ _=>rfl,fun _ h=>.inl h⟩
theorem QSt.trans {qb:Nat} {w1 w2 w3:World} {p1 p2 p3:Value} (h:QSt qb w1 p1 w2 p2) (g:QSt qb w2 p2 w3 p3):QSt qb w1 p1 w3 p3 where
 b0:=h.b0.trans g.b0
 blk:=fun b hb hq hp=>by
  refine (g.blk b (Nat.lt_of_lt_of_le hb h.b0.size) hq (fun e=>?_)).trans (h.blk b hb hq hp)
  rcases h.row b e with h1 | h1
  ·exact hp h1
  ·omega
 row:=fun b hb=>by
  rcases g.row b hb with h1 | h1
  ·exact h.row b h1
  ·exact .inr (Nat.le_trans h.b0.size h1)
theorem QSt.of_below {qb:Nat} {w w':World} {pl:Value} (h:Below w.heap.size w w'):QSt qb w pl w' pl:=⟨h.mono (Nat.zero_le _),fun b hb _ _=>h.block b hb,fun _ h=>.inl h⟩
theorem QSt.below {qb B:Nat} {w w':World} {pl pl':Value} (h:QSt qb w pl w' pl') (hq:B<=qb) (hp:∀ b,pl.ownBlock=some b->B<=b) (hB:B<=w.heap.size):Below B w w' :=
 ⟨h.b0.os,h.b0.tape,h.b0.output,h.b0.size,fun k hk=>h.blk k (by omega) (by omega) (fun e=>by have:=hp k e;omega)⟩
structure QAt (w:World) (qb mb B:Nat) (pl vp:Value) (L:List Int):Prop where
 c0:w.cell? ⟨qb,0,none⟩=some pl
 c1:w.cell? ⟨qb,1,none⟩=some vp
 c2:w.cell? ⟨qb,2,none⟩=some (.map (some mb))
 f0:w.frozen? ⟨qb,0,none⟩=false
 own:w.ownsRow B 3 1 pl L.length (L.map (Value.int .i64))
 lq:qb<B
 lm:mb<B
theorem QAt.lt {w:World} {qb mb B:Nat} {pl vp:Value} {L:List Int} (h:QAt w qb mb B pl vp L):qb<w.heap.size:=World.block_lt_of_cell? w ⟨qb,0,none⟩ h.c0
theorem QAt.below {w w':World} {qb mb B:Nat} {pl vp:Value} {L:List Int} (h:QAt w qb mb B pl vp L) (hb:Below w.heap.size w w'):QAt w' qb mb B pl vp L :=
 have e:=hb.block qb h.lt
 ⟨(World.cell?_of_block (a:=⟨qb,0,none⟩) e).trans h.c0,(World.cell?_of_block (a:=⟨qb,1,none⟩) e).trans h.c1,(World.cell?_of_block (a:=⟨qb,2,none⟩) e).trans h.c2,(World.frozen?_of_block (a:=⟨qb,0,none⟩) e).trans h.f0,own_below h.own hb,h.lq,h.lm⟩
theorem own_cap1 {w:World} {B e g n cap:Nat} {xs:List Value} (h:w.ownsRow B e 1 (.slice (some ⟨g,0,none⟩) n cap) n xs):n<=cap/\cap<=maxLen:=by
 obtain ⟨a,c,he,h1,h2⟩:=SlAt.shape (SlAt.of_own h)
 cases he
 exact ⟨h1,h2⟩
theorem own_short {w:World} {B e g n m cap:Nat} {xs:List Value} (h:w.ownsRow B e 1 (.slice (some ⟨g,0,none⟩) n cap) n xs) (hm:m<=n):w.ownsRow B e 1 (.slice (some ⟨g,0,none⟩) m cap) m (xs.take m):=by
 rcases h.2 with ⟨h',_⟩ | ⟨g',cap',cur,h',hb,hg,hnc,hcm,hcs,htake⟩
 ·simp at h'
 ·simp only [Value.slice.injEq,Option.some.injEq,Addr.mk.injEq,and_true,true_and] at h'
  obtain ⟨rfl,rfl⟩:=h'
  have hl:=h.1
  refine ⟨by rw [List.length_take];omega,.inr ⟨g,cap,cur,rfl,hb,hg,by omega,hcm,hcs,?_⟩⟩
  rw [<- htake,List.take_take,Nat.mul_one,Nat.mul_one]
  congr 1;omega
def wgt (kind:Int) (n1 n2:Nat):Int:=if kind=2 then 1000 else if kind=3 then 100+n2 else n1
theorem weight_c (kind:Int) (a0 a1 a2:Option Addr) (n0 n1 n2 c0 c1 c2:Nat) (rel c x y z:Int) (w:World) (h2:n2<=4096) :
  Calls Tryz.prog 153 #[.agg #[.int .i64 kind,.slice a0 n0 c0,.slice a1 n1 c1,.int .i64 rel,.int .i64 c,.int .i64 x,.int .i64 y,.int .i64 z,.slice a2 n2 c2]] w
   fun e w'=>e=.returned (.int .i64 (wgt kind n1 n2))/\Below w.heap.size w w':=by
 have HZ:Hid (∀ o,Below w.heap.size w (w.alloc o)):=fun o=>bA _
 by_cases k2:kind=2
 ·have g2:(kind==2)=true:=by simpa using k2
  have HR:Hid (wgt kind n1 n2=1000):=by show _=_;unfold wgt;rw [if_pos k2]
  clear k2
  go_enter Tryz.func153,Tryz.ntmps153
  go_wp2
  go_ret
  exact ⟨ret_int HR.out.symm,HZ.out _⟩
 have g2:(kind==2)=false:=by simpa using k2
 by_cases k3:kind=3
 ·have g3:(kind==3)=true:=by simpa using k3
  have HR:Hid (wgt kind n1 n2=100+n2):=by show _=_;unfold wgt;rw [if_neg k2,if_pos k3]
  clear k2 k3
  go_enter Tryz.func153,Tryz.ntmps153
  go_wp2
  go_ret
  exact ⟨ret_int HR.out.symm,HZ.out _⟩
 have g3:(kind==3)=false:=by simpa using k3
 have HR:Hid (wgt kind n1 n2=n1):=by show _=_;unfold wgt;rw [if_neg k2,if_neg k3]
 clear k2 k3
 go_enter Tryz.func153,Tryz.ntmps153
 go_wp2
 go_ret
 exact ⟨ret_int HR.out.symm,HZ.out _⟩
theorem qlen_c (ao:Option Addr) (n c:Nat) (w:World):Calls Tryz.prog 64 #[.slice ao n c] w fun e w'=>e=.returned (.int .i64 n)/\w=w':=by
 go_enter Tryz.func64,Tryz.ntmps64
 go_wp2
 go_ret
 exact ⟨rfl,rfl⟩
@[go_sem] theorem ta_int (i:Int) (W:World):(Instr.typeAssert (.iface 3 (.int .i64 i)) 20 3 false).run Tryz.prog W=.ok (.int .i64 i) W:=by kernel_rfl
theorem qpush_c (qb mb B:Nat) (pl vp:Value) (L:List Int) (i:Int) (w:World) (h:QAt w qb mb B pl vp L) (hl:L.length<=4096) (hB:B<=w.heap.size) :
  Calls Tryz.prog 151 #[.pointer (some ⟨qb,0,none⟩),.iface 3 (.int .i64 i)] w
   fun e w'=>(∃ u,e=.returned u)/\∃ pl',QAt w' qb mb B pl' vp (L++[i])/\QSt qb w pl w' pl':=by
 obtain ⟨i0,hi,hz0,hz1,hz2⟩:=info_parts Tryz.infoInt
 have H:=hD h
 have c0:=h.c0
 have f0:=h.f0
 have ow:=h.own
 obtain ⟨ao,cap,rfl,_⟩:=(SlAt.of_own ow).shape
 have ma:∀ o,(w.alloc o).cell? ⟨qb,0,none⟩=some (.slice ao L.length cap):=fun o=>Lib.cell?_alloc_some o c0
 have HA:Hid (∀ o,Below B w (w.alloc o).drew):=fun o=>below_drewN ((Below.refl B w).alloc hB _) 1
 clear h
 go_enter Tryz.func151,Tryz.ntmps151
 go_wp2
 go_region_law
  ((refine step_append1 rfl (.tmp 7) (.tmp 10) 101 rfl B 3 i0 (.int .i64 0) 8 Tryz.underlying101 hi hz0 hz1 hz2 rfl _ _ _ rfl (World.ownsRow.drew (ow.alloc _)) (.int .i64 i) _ rfl ?_ rfl ?_ ?_ ?_;(·simp);(·omega);(·simp;omega);intro g1 cap1 w1 ow1 bw1 kw1 aw1;have mm:=(((HA.out _).trans bw1).cell (p:=⟨qb,0,none⟩) H.out.lq).trans H.out.c0;have mf:=(((HA.out _).trans bw1).frozen (p:=⟨qb,0,none⟩) H.out.lq).trans H.out.f0))
 all_goals
  go_end0
  refine ⟨⟨_,rfl⟩,.slice (some ⟨g1,0,none⟩) (L.length+1) cap1,?_,?_⟩
  ·have hb:=(HA.out _).trans bw1
   have e1:=(hb.cell (p:=⟨qb,1,none⟩) H.out.lq).trans H.out.c1
   have e2:=(hb.cell (p:=⟨qb,2,none⟩) H.out.lq).trans H.out.c2
   refine ⟨World.cell?_setCell_same _ _ _ mm,(World.cell?_setCell_other _ _ _ _ (by simp)).trans e1,(World.cell?_setCell_other _ _ _ _ (by simp)).trans e2,by rw [World.frozen?_setCell];exact mf,?_,H.out.lq,H.out.lm⟩
   rw [List.length_append,List.length_singleton,List.map_append]
   exact own_setCell ow1 (a:=⟨qb,0,none⟩) H.out.lq _
  ·have hb:=(HA.out _).trans bw1
   refine ⟨(hb.mono (Nat.zero_le _)).setCell (p:=⟨qb,0,none⟩) (Nat.zero_le _) _,fun b hbl hq hp=>?_,fun b hb1=>?_⟩
   ·rw [Below.heap_setCell _ _ _ _ hq,kw1 b (by simp [World.drew];omega) hp]
    exact Below.heap_alloc w _ b hbl
   ·simp [Value.ownBlock] at hb1
    subst hb1
    rcases aw1 with h | h
    ·exact .inl h
    ·right;rw [h];simp [World.drew]
theorem qpop_c (qb mb B:Nat) (pl vp:Value) (L:List Int) (i:Int) (w:World) (h:QAt w qb mb B pl vp (L++[i])) (hl:L.length<=4096) :
  Calls Tryz.prog 150 #[.pointer (some ⟨qb,0,none⟩)] w
   fun e w'=>e=.returned (.iface 3 (.int .i64 i))/\∃ pl',QAt w' qb mb B pl' vp L/\QSt qb w pl w' pl':=by
 have H:=hD h
 have c0:=h.c0
 have f0:=h.f0
 have ow:=h.own
 have hle:(L++[i]).length=L.length+1:=by simp
 rw [hle] at ow
 obtain ⟨g,cap,rfl,hgb,hcells⟩:=owns_pos ow (by omega)
 have x0:=hcells L.length (by omega)
 rw [List.map_append,List.getElem?_append_right (by simp),List.length_map,Nat.sub_self] at x0
 simp only [List.map_cons,List.map_nil,List.getElem?_cons_zero] at x0
 have hcp:=(own_cap1 ow)
 have HOW:=hD ow
 clear h hcells ow hle
 go_enter Tryz.func150,Tryz.ntmps150
 go_wp2
 go_ret
 refine ⟨rfl,.slice (some ⟨g,0,none⟩) L.length cap,?_,?_⟩
 ·have e1:=H.out.c1
  have e2:=H.out.c2
  refine ⟨World.cell?_setCell_same _ _ _ c0,(World.cell?_setCell_other _ _ _ _ (by simp)).trans e1,(World.cell?_setCell_other _ _ _ _ (by simp)).trans e2,by rw [World.frozen?_setCell];exact f0,?_,H.out.lq,H.out.lm⟩
  have h1:=own_short HOW.out (Nat.le_succ L.length)
  rw [List.map_append,List.take_left' (by simp)] at h1
  exact own_setCell h1 (a:=⟨qb,0,none⟩) H.out.lq _
 ·refine ⟨(Below.refl 0 w).setCell (p:=⟨qb,0,none⟩) (Nat.zero_le _) _,fun b hbl hq hp=>Below.heap_setCell _ _ _ _ hq,fun b hb1=>.inl hb1⟩
def swapL (L:List Int) (i k:Nat):List Int:=(L.set i (L.getD k 0)).set k (L.getD i 0)
theorem swapL_len (L:List Int) (i k:Nat):(swapL L i k).length=L.length:=by simp [swapL]
theorem qswap_c (B:Nat) (pl:Value) (L:List Int) (i k:Nat) (w:World) (h:w.ownsRow B 3 1 pl L.length (L.map (Value.int .i64))) (hi:i<L.length) (hk:k<L.length) (hl:L.length<=4097) :
  Calls Tryz.prog 152 #[pl,.int .i64 i,.int .i64 k] w
   fun e w'=>(∃ u,e=.returned u)/\w'.ownsRow B 3 1 pl L.length ((swapL L i k).map (Value.int .i64))/\∀ qb,(pl.ownBlock≠some qb)->QSt qb w pl w' pl:=by
 obtain ⟨g,cap,rfl,hgb,hcells⟩:=owns_pos h (by omega)
 have xi:=hcells i (by omega)
 have xk:=hcells k (by omega)
 rw [List.getElem?_map,List.getElem?_eq_getElem hi] at xi
 rw [List.getElem?_map,List.getElem?_eq_getElem hk] at xk
 simp only [Option.map_some] at xi xk
 have fi:=h.frozenAt i
 have fk:=h.frozenAt k
 have hcp:=own_cap1 h
 have HOW:=hD h
 have e:Hid (swapL L i k=(L.set i L[k]).set k L[i]):=by show _=_;unfold swapL;rw [List.getD_eq_getElem?_getD,List.getD_eq_getElem?_getD,List.getElem?_eq_getElem hk,List.getElem?_eq_getElem hi];rfl
 have j1:(i:Int)<L.length:=by omega
 have j2:(k:Int)<L.length:=by omega
 generalize hyi:L[i]=yi at *
 generalize hyk:L[k]=yk at *
 have hz:(w.setCell ⟨g,i,none⟩ (.int .i64 yk)).cell? ⟨g,k,none⟩=some (.int .i64 yk):=by
  by_cases hik:i=k
  ·subst hik;exact World.cell?_setCell_same _ _ _ xi
  ·rw [World.cell?_setCell_other _ _ _ _ (fun he=>hik (by injection he))];exact xk
 clear h hcells hyi hyk
 go_enter Tryz.func152,Tryz.ntmps152
 go_wp2
 go_region
 all_goals
  go_end0
  refine ⟨⟨_,rfl⟩,?_,fun qb hqb=>?_⟩
  ·have h1:=(HOW.out.stored i (.int .i64 yk)).1
   have h2:=(h1.stored k (.int .i64 yi)).1
   rw [e.out,List.map_set,List.map_set]
   exact h2
  ·refine ⟨(((Below.refl 0 w).setCell (p:=⟨g,i,none⟩) (Nat.zero_le _) _).setCell (p:=⟨g,k,none⟩) (Nat.zero_le _) _).drew,fun b hbl hq hp=>?_,fun b hb1=>.inl hb1⟩
   have hbg:b≠g:=fun e=>hp (by rw [e];rfl)
   rw [show ((w.setCell ⟨g,i,none⟩ (.int .i64 yk)).setCell ⟨g,k,none⟩ (.int .i64 yi)).drew.heap[b]?=((w.setCell ⟨g,i,none⟩ (.int .i64 yk)).setCell ⟨g,k,none⟩ (.int .i64 yi)).heap[b]? from rfl,Below.heap_setCell _ _ _ _ hbg,Below.heap_setCell _ _ _ _ hbg]
def pw (ps:List PL) (x:Int):Int:=match ps[x.toNat]? with
 | some p=>wgt p.kind p.vars.length p.vs.length
 | none=>0
def qLess (ps:List PL) (L:List Int) (i k:Nat):Bool:=decide (pw ps (L.getD i 0)<pw ps (L.getD k 0))
theorem pw_at {ps:List PL} {x:Int} {a:Nat} (h:x=a) (ha:a<ps.length):pw ps x=wgt ps[a].kind ps[a].vars.length ps[a].vs.length:=by
 subst h
 unfold pw
 rw [Int.toNat_natCast,List.getElem?_eq_getElem ha]
theorem qless_c (qb mb B:Nat) (pl vp:Value) (L:List Int) (ps:List PL) (i k:Nat) (w:World) (h:QAt w qb mb B pl vp L) (hp:PsAt w vp ps) (hps:∀ p∈ps,p.vs.length<=4096) (_hpl:ps.length<=4096) (hin:InPs L ps) (hi:i<L.length) (hk:k<L.length) (hl:L.length<=4097) :
  Calls Tryz.prog 149 #[.pointer (some ⟨qb,0,none⟩),.int .i64 i,.int .i64 k] w fun e w'=>e=.returned (.bool (qLess ps L i k))/\Below w.heap.size w w':=by
 have c0:=h.c0
 have c1:=h.c1
 obtain ⟨g,cap,rfl,hgb,hcells⟩:=owns_pos h.own (by omega)
 have xi:=hcells i (by omega)
 have xk:=hcells k (by omega)
 rw [List.getElem?_map,List.getElem?_eq_getElem hi] at xi
 rw [List.getElem?_map,List.getElem?_eq_getElem hk] at xk
 simp only [Option.map_some] at xi xk
 have hii:=hin _ (List.getElem_mem hi)
 have hkk:=hin _ (List.getElem_mem hk)
 obtain ⟨a,ha⟩:=Int.eq_ofNat_of_zero_le hii.1
 obtain ⟨c,hc⟩:=Int.eq_ofNat_of_zero_le hkk.1
 have hal:a<ps.length:=by have:=hii.2;omega
 have hcl:c<ps.length:=by have:=hkk.2;omega
 have HR:Hid (qLess ps L i k=decide (wgt ps[a].kind ps[a].vars.length ps[a].vs.length<wgt ps[c].kind ps[c].vars.length ps[c].vs.length)):=by
  show _=_
  unfold qLess
  rw [List.getD_eq_getElem?_getD,List.getD_eq_getElem?_getD,List.getElem?_eq_getElem hi,List.getElem?_eq_getElem hk,Option.getD_some,Option.getD_some,pw_at ha hal,pw_at hc hcl]
 rw [ha] at xi
 rw [hc] at xk
 obtain ⟨ap,cp,rfl,_⟩:=hp.shape
 obtain ⟨bp,op,va,vb,vv,rfl,hbp,ca,ia,ib,iv⟩:=hp.get a hal
 obtain ⟨bp2,op2,va2,vb2,vv2,he,_,cc,ia2,ib2,iv2⟩:=hp.get c hcl
 simp only [Option.some.injEq,Addr.mk.injEq,and_true] at he
 obtain ⟨rfl,rfl⟩:=he
 have hv1:=hps _ (List.getElem_mem hal)
 have hv2:=hps _ (List.getElem_mem hcl)
 obtain ⟨n0,q0,rfl,s0⟩:=IsAt.shape ia
 obtain ⟨n1,q1,rfl,s1⟩:=IsAt.shape ib
 obtain ⟨n2,q2,rfl,s2⟩:=IsAt.shape iv
 obtain ⟨n3,q3,rfl,s3⟩:=IsAt.shape ia2
 obtain ⟨n4,q4,rfl,s4⟩:=IsAt.shape ib2
 obtain ⟨n5,q5,rfl,s5⟩:=IsAt.shape iv2
 clear s0 s1 s2 s3 s4 s5 ia ib iv ia2 ib2 iv2 hp hps hcells h hii hkk ha hc hin
 have j1:(i:Int)<L.length:=by omega
 have j2:(k:Int)<L.length:=by omega
 have j3:(a:Int)<ps.length:=by omega
 have j4:(c:Int)<ps.length:=by omega
 generalize qLess ps L i k=R at *
 generalize ps[a]=pa at *
 generalize ps[c]=pc at *
 clear hal hcl
 obtain ⟨k1,r1,u1,x1,y1,z1,cf1,vr1,vs1⟩:=pa
 obtain ⟨k2,r2,u2,x2,y2,z2,cf2,vr2,vs2⟩:=pc
 dsimp only at *
 have CW1:Hid (∀ W,Calls Tryz.prog 153 #[.agg #[.int .i64 k1,.slice n0 cf1.length q0,.slice n1 vr1.length q1,.int .i64 r1,.int .i64 u1,.int .i64 x1,.int .i64 y1,.int .i64 z1,.slice n2 vs1.length q2]] W fun e w'=>e=.returned (.int .i64 (wgt k1 vr1.length vs1.length))/\Below W.heap.size W w'):=fun W=>weight_c _ _ _ _ _ _ _ _ _ _ _ _ _ _ _ W hv1
 have CW2:Hid (∀ W,Calls Tryz.prog 153 #[.agg #[.int .i64 k2,.slice n3 cf2.length q3,.slice n4 vr2.length q4,.int .i64 r2,.int .i64 u2,.int .i64 x2,.int .i64 y2,.int .i64 z2,.slice n5 vs2.length q5]] W fun e w'=>e=.returned (.int .i64 (wgt k2 vr2.length vs2.length))/\Below W.heap.size W w'):=fun W=>weight_c _ _ _ _ _ _ _ _ _ _ _ _ _ _ _ W hv2
 have y0:=qb_cell c0
 have y1':=qb_cell c1
 have y2':=qb_cell xi
 have y3:=qb_cell xk
 obtain ⟨d0,d1,d2,d3,d4,d5,d6,d7,d8⟩:=ca
 obtain ⟨e0,e1,e2,e3,e4,e5,e6,e7,e8⟩:=cc
 have f0:=qb_cell d0;have f1:=qb_cell d1;have f2:=qb_cell d2;have f3:=qb_cell d3;have f4:=qb_cell d4;have f5:=qb_cell d5;have f6:=qb_cell d6;have f7:=qb_cell d7;have f8:=qb_cell d8
 have g0:=qb_cell e0;have g1:=qb_cell e1;have g2:=qb_cell e2;have g3:=qb_cell e3;have g4:=qb_cell e4;have g5:=qb_cell e5;have g6:=qb_cell e6;have g7:=qb_cell e7;have g8:=qb_cell e8
 clear c0 c1 xi xk d0 d1 d2 d3 d4 d5 d6 d7 d8 e0 e1 e2 e3 e4 e5 e6 e7 e8
 generalize wgt k1 vr1.length vs1.length=w1 at *
 generalize wgt k2 vr2.length vs2.length=w2 at *
 go_enter Tryz.func149,Tryz.ntmps149
 go_wp2
 refine wp_region_below (by kernel_rfl) (by kernel_rfl) ?_
 repeat (go_big_quiet_step ((go_at_call 153;first | with_reducible exact qb_call _ (CW1.out _) | with_reducible exact qb_call _ (CW2.out _))))
 refine wpQuiet_nil ?_
 intro w1' hw1'
 clear y0 y1' y2' y3 f0 f1 f2 f3 f4 f5 f6 f7 f8 g0 g1 g2 g3 g4 g5 g6 g7 g8
 go_wp2
 go_ret
 exact ⟨by rw [HR.out];rfl,hw1'.below⟩
end
end Go.Proofs.YtaekdgikgbdnnaaGreat
