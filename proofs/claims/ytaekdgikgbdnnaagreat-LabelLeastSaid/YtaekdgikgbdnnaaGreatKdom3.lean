/-
  dom.Ends, dom.At, walked.
  coneyref14.Has, .list, walked.
  coneyref14.normal, .Norm, .Meet, .Join, .Minus, .Compl, walked.
  dom.Has, walked.
  coneyref14.cut, .Shift, .Scale, .Ends, .Size, .At, walked.
  coneyref14.Shift, .Scale, walked.
  coneyref14.Scale, walked.
-/
import Derived.Test.YtaekdgikgbdnnaaGreatKdom2
import Derived.Test.YtaekdgikgbdnnaaGreatKdom1
import Derived.Shelf.SlicesQ.IndexFunc
import Derived.Lib.SliceRun
import Derived.Deep.AppendLies
import Derived.Deep.RegionHeldLaw
namespace Go.Proofs.YtaekdgikgbdnnaaGreat
section
open Go.RowKit
def endV (l:List Rg):Value:=.tuple #[.int .i64 (endsL l).1,.int .i64 (endsL l).2.1,.bool (endsL l).2.2]
def atV (o:Option Int):Value:=match o with
 | some n=>.tuple #[.int .i64 n,.bool true]
 | none=>.tuple #[.int .i64 0,.bool false]
set_option maxRecDepth 100000
set_option maxHeartbeats 800000
theorem ends_c (va:Value) (a:List Rg) (w:World) (ha:RgAt w va a) (hla:a.length<=4096) :
  Calls Tryz.prog 45 #[va] w fun e w'=>e=.returned (endV (norm a))/\Below w.heap.size w w':=by
 obtain ⟨ao,cap,rfl,_⟩:=ha.shape
 have CA:Hid (Calls Tryz.prog 54 #[.slice ao a.length cap] w (RetR (norm a) w)):=norm_c _ _ w ha hla
 have hln:(norm a).length<=201:=norm_len a
 clear ha
 generalize hNA:norm a=na at CA hln |-
 clear hNA
 rcases List.eq_nil_or_concat na with rfl | ⟨M,p,rfl⟩
 ·rw [show ([]:List Rg).length=0 from rfl] at *
  go_enter Tryz.func45,Tryz.ntmps45
  go_wp2_with (first
   | (go_at_call 54;(with_reducible refine CA.out.mono ?_);rintro e W ⟨a1,c1,rfl,hr1,hb1⟩;rw [show ([]:List Rg).length=0 from rfl];have HW:=hD hb1;clear hr1 hb1))
  go_ret3
  exact ⟨rfl,HW.out⟩
 ·rw [List.concat_eq_append] at *
  go_enter Tryz.func45,Tryz.ntmps45
  have hML:(M++[p]).length=M.length+1:=by simp
  have HEV:Hid (endV (M++[p])=.tuple #[.int .i64 ((M++[p])[0]'(by simp)).1,.int .i64 p.2,.bool true]):=by
   show _=_
   cases M with
   | nil=>rfl
   | cons r M =>
    have hl:(r::(M++[p])).getLast (by simp)=p:=by
     have h1:(r::(M++[p])).getLast?=some p:=List.getLast?_concat (l:=r::M) (a:=p)
     rw [List.getLast?_eq_some_getLast (by simp)] at h1
     exact Option.some.inj h1
    show Value.tuple #[_,.int .i64 ((r::(M++[p])).getLast _).2,_]=_
    rw [hl]
    rfl
  have hz:((M.length:Int)+1==0)=false:=beq_eq_false_iff_ne.2 (by omega)
  go_wp2_with (first
   | (go_at_call 54;(with_reducible refine CA.out.mono ?_);rintro e W ⟨a1,c1,rfl,hr1,hb1⟩;have HR1:=hD hr1;have HW:=hD hb1;clear hr1 hb1;rw [hML]))
  obtain ⟨b,off,c',he,hcap,hbs,hc⟩:=RgAt.at HR1.out (by simp)
  simp only [Value.slice.injEq,true_and] at he
  obtain ⟨rfl,_,rfl⟩:=he
  have c1:=(hc 0 (by simp)).1
  have c2:=(hc M.length (by simp)).2
  simp only [Nat.zero_mul,Nat.add_zero,List.getElem_append_right,Nat.le_refl,Nat.sub_self,List.getElem_cons_zero] at c1 c2
  clear hc
  obtain ⟨x,hx⟩:∃ x,x=((M++[p])[0]'(by simp)).1:=⟨_,rfl⟩
  rw [<- hx] at c1 HEV
  clear hx
  go_wp2
  go_quiet (fail)
  go_wp2
  go_ret3
  exact ⟨by rw [HEV.out];rfl,below_drewN HW.out _⟩
theorem at_c (va:Value) (a:List Rg) (i:Int) (w:World) (ha:RgAt w va a) (hla:a.length<=4096) (hi0:-9223372036854775808<=i/\i<=9223372036854775807) :
  Calls Tryz.prog 165 #[va,.int .i64 i] w fun e w'=>e=.returned (atV (if i<0 then none else atL (norm a) i))/\Below w.heap.size w w':=by
 obtain ⟨ao,cap,rfl,_⟩:=ha.shape
 by_cases hneg:i<0
 ·go_enter Tryz.func165,Tryz.ntmps165
  go_wp2
  go_ret2
  exact ⟨rfl,Below.refl _ _⟩
 rw [if_neg hneg]
 have CA:Hid (Calls Tryz.prog 54 #[.slice ao a.length cap] w (RetR (norm a) w)):=norm_c _ _ w ha hla
 have HBD:Hid (∀ p∈norm a,-200<=p.1/\p.1<=p.2/\p.2<=200):=norm_bounds a
 have hln:(norm a).length<=201:=norm_len a
 clear ha
 generalize hNA:norm a=na at CA hln HBD |-
 clear hNA
 obtain ⟨hi1,hi2⟩:=hi0
 go_enter Tryz.func165,Tryz.ntmps165
 go_wp2_with (first
  | (go_at_call 54;(with_reducible refine CA.out.mono ?_);rintro e W ⟨a1,c1,rfl,hr1,hb1⟩;have HR1:=hD hr1;have HW:=hD hb1;clear hr1 hb1))
 go_loopw [1,14] (fun f s wr=>∃ k:Nat,∃ fz:Int,k<=na.length/\s=.int .i64 k/\f=.int .i64 fz/\0<=fz/\fz<=9223372036854775807/\atL na i=atL (na.drop k) fz/\Below W.heap.size W wr) (fun _ s _=>na.length - (intOf s).toNat)
 case atStart=>exact ⟨0,i,by omega,rfl,rfl,by omega,by omega,rfl,Below.refl _ _⟩
 case round =>
  obtain ⟨k,fz,hk,rfl,rfl,hf1,hf2,hf,hbel⟩:=hrel
  have hle:W.heap.size<=wr.heap.size:=hbel.size
  have HB:=hD hbel
  clear hbel
  by_cases hlt:k<na.length
  ·obtain ⟨b,off,c',he,hcap,hbs,hc⟩:=RgAt.at HR1.out (by omega)
   simp only [Value.slice.injEq,true_and] at he
   obtain ⟨rfl,rfl⟩:=he
   obtain ⟨c1,c2⟩:=hc k hlt
   rw [<- HB.out.cell (p:=⟨b,off+k * 2,none⟩) hbs] at c1
   rw [<- HB.out.cell (p:=⟨b,off+k * 2+1,none⟩) hbs] at c2
   have hbd:=HBD.out _ (List.getElem_mem hlt)
   rw [List.drop_eq_getElem_cons hlt,atL] at hf
   obtain ⟨r,hr⟩:∃ r,r=na[k]:=⟨_,rfl⟩
   rw [<- hr] at c1 c2 hf hbd
   have HF:=hD hf
   clear hc hr hf
   obtain ⟨hd1,hd2,hd3⟩:=hbd
   have hbe:b≠wr.heap.size:=by have:=hbs;omega
   by_cases hx:fz ≥ r.2 - r.1+1
   ·rw [if_pos hx] at HF
    go_wp2
    exact ⟨⟨k+1,fz - (r.2 - r.1+1),by omega,by go_num,by first | rfl | go_num,by omega,by omega,HF.out,HB.out.alloc hle _⟩,by simp [intOf];omega⟩
   ·rw [if_neg hx] at HF
    go_wp2
    go_ret2
    exact ⟨by rw [HF.out];rfl,HW.out.trans ((HB.out.alloc hle _).mono HW.out.size)⟩
  ·obtain rfl:k=na.length:=by omega
   rw [List.drop_length,atL] at hf
   have HF:=hD hf
   clear hf
   go_wp2
   go_ret2
   exact ⟨by rw [HF.out];rfl,bT HW.out HB.out⟩
theorem refHas_c (va:Value) (a:List Rg) (n:Int) (w:World) (ha:RgAt w va a) (hla:a.length<=4096) :
  Calls Tryz.prog 48 #[va,.int .i64 n] w fun e w'=>e=.returned (.bool (inD n&&memL a n))/\w=w':=by
 obtain ⟨ao,cap,rfl,_⟩:=ha.shape
 have HA:=hD ha
 clear ha
 by_cases h1:n < -200
 ·go_enter Tryz.func48,Tryz.ntmps48
  go_wp2
  go_ret
  exact ⟨ret_bool (by symm;simp [inD];omega),rfl⟩
 by_cases h2:200<n
 ·go_enter Tryz.func48,Tryz.ntmps48
  go_wp2
  go_ret
  exact ⟨ret_bool (by symm;simp [inD];omega),rfl⟩
 have HI:Hid ((inD n&&memL a n)=memL a n):=by show _=_;simp [inD,show -200<=n by omega,show n<=200 by omega]
 rw [HI.out]
 clear HI
 go_enter Tryz.func48,Tryz.ntmps48
 go_wp2
 go_loop [5] (fun s=>∃ k:Nat,k<=a.length/\s=.int .i64 k/\memL a n=memL (a.drop k) n) (fun s=>a.length - (intOf s).toNat)
 case atStart=>exact ⟨0,by omega,rfl,rfl⟩
 case round =>
  obtain ⟨k,hk,rfl,hE⟩:=hrel
  by_cases hlt:k<a.length
  ·obtain ⟨b,off,c',he,hcap,hbs,hc⟩:=RgAt.at HA.out (by omega)
   simp only [Value.slice.injEq,true_and] at he
   obtain ⟨rfl,rfl⟩:=he
   obtain ⟨c1,c2⟩:=hc k hlt
   rw [List.drop_eq_getElem_cons hlt,memL_cons] at hE
   obtain ⟨r,hr⟩:∃ r,r=a[k]:=⟨_,rfl⟩
   rw [<- hr] at c1 c2 hE
   have HE:=hD hE
   clear hc hr hE
   by_cases hx:r.1<=n
   ·by_cases hy:n<=r.2
    ·go_wp2
     go_ret
     exact ⟨ret_bool (by rw [HE.out];simp [hx,hy]),rfl⟩
    ·go_wp2
     exact ⟨⟨k+1,by omega,by go_num,by rw [HE.out];simp [hx,hy]⟩,by simp [intOf];omega⟩
   ·go_wp2
    exact ⟨⟨k+1,by omega,by go_num,by rw [HE.out];simp [hx]⟩,by simp [intOf];omega⟩
  ·obtain rfl:k=a.length:=by omega
   rw [List.drop_length,memL_nil] at hE
   have HE:=hD hE
   clear hE
   go_wp2
   go_ret
   exact ⟨ret_bool (by rw [HE.out]),rfl⟩
def wayS (way:Int) (a b:List Rg) (n:Int):Bool :=
 (decide (way=1)&&memL a n&&memL b n)||(decide (way=2)&&(memL a n||memL b n))||(decide (way=3)&&memL a n&&!memL b n)
set_option maxHeartbeats 3200000
theorem list_n (va vb:Value) (a b:List Rg) (way:Int) (hway:way=1\/way=2\/way=3) (w:World) (ha:RgAt w va a) (hb:RgAt w vb b) (hla:a.length<=4096) (hlb:b.length<=4096) :
  Calls Tryz.prog 55 #[va,vb,.int .i64 way] w (RetN (canon (wayS way a b)) w):=by
 obtain ⟨i0,hi,hz0,hz1,hz2⟩:=info_parts Tryz.infoRg
 obtain ⟨ao,cap,rfl,_⟩:=ha.shape
 obtain ⟨ao2,cap2,rfl,_⟩:=hb.shape
 have CA:Hid (∀ n W,Below w.heap.size w W->Calls Tryz.prog 48 #[.slice ao a.length cap,.int .i64 n] W fun e w'=>e=.returned (.bool (inD n&&memL a n))/\W=w'):=fun n W h=>refHas_c _ a n W (ha.below h) hla
 have CB:Hid (∀ n W,Below w.heap.size w W->Calls Tryz.prog 48 #[.slice ao2 b.length cap2,.int .i64 n] W fun e w'=>e=.returned (.bool (inD n&&memL b n))/\W=w'):=fun n W h=>refHas_c _ b n W (hb.below h) hlb
 have HC:Hid ((accL (wayS way a b) 401).1=canon (wayS way a b)):=accL_canon _
 have hln:(canon (wayS way a b)).length<=201:=canon_len _
 have HL:Hid (∀ k,k<=401->(accL (wayS way a b) k).1.length<=201):=fun k h=>accL_len _ k h
 have HS:Hid (∀ k,accL (wayS way a b) (k+1)=if wayS way a b ((k:Int) - 200)=true then
   (if (accL (wayS way a b) k).2=true then setTop (accL (wayS way a b) k).1 ((k:Int) - 200) else (accL (wayS way a b) k).1++[((k:Int) - 200,(k:Int) - 200)],true)
  else ((accL (wayS way a b) k).1,false)):=fun k=>rfl
 have HO:Hid (∀ k,k<=401->(accL (wayS way a b) k).2=true->∃ M p,(accL (wayS way a b) k).1=M++[p]):=fun k h h2=>by
  obtain ⟨M,p,h3,_⟩:=(accL_ok (wayS way a b) k h).2.2.1 h2
  exact ⟨M,p,h3⟩
 clear ha hb
 have H0:accL (wayS way a b) 0=([],false):=rfl
 have HW:Hid (∀ n,wayS way a b n=((decide (way=1)&&memL a n&&memL b n)||(decide (way=2)&&(memL a n||memL b n))||(decide (way=3)&&memL a n&&!memL b n))):=fun n=>rfl
 generalize wayS way a b=S at *
 generalize hme:canon S=me at HC hln |-
 clear hme
 go_enter Tryz.func55,Tryz.ntmps55
 go_wp2
 go_loopw [7,8,9] (fun o op s wr=>∃ k:Nat,k<=401/\s=.int .i64 ((k:Int) - 200)/\op=.bool (accL S k).2/\wr.ownsRow w.heap.size 77 2 o (accL S k).1.length (cellsR (accL S k).1)/\Below w.heap.size w wr) (fun _ _ s _=>(201 - intOf s).toNat)
 case atStart =>
  refine ⟨0,by omega,rfl,by rw [H0],?_,bA _⟩
  rw [H0]
  exact World.ownsRow_made w #[] 0 (rN _) (by decide) rfl
 case round =>
  obtain ⟨k,hk,rfl,rfl,hown,hbel⟩:=hrel
  have HB:=hD hbel
  have hle:=hbel.size
  have hOl:=HL.out k hk
  by_cases hlt:k<401
  ·have hS1:=HS.out k
   have hO1:=HO.out k hk
   have hL1:=HL.out (k+1) (by omega)
   clear hbel
   have CA2:=hD (CA.out ((k:Int) - 200) wr HB.out)
   have CB2:=hD (CB.out ((k:Int) - 200) wr HB.out)
   have hin:inD ((k:Int) - 200)=true:=by simp [inD];omega
   rw [HW.out] at hS1
   rw [hin,Bool.true_and] at CA2 CB2
   generalize accL S k=st at *
   obtain ⟨O,op⟩:=st
   generalize hn:(k:Int) - 200=n at *
   generalize memL a n=xa at *
   generalize memL b n=xb at *
   have HO1:=hD hO1
   clear hO1
   have hM:(201 - (n+1)).toNat<(201 - n).toNat:=by omega
   rcases hway with rfl | rfl | rfl
   ·cases xa
    ·cases xb
     ·have HS1:Hid (accL S (k+1)=(O,false)):=hS1
      clear hS1
      go_wp2_with (first
       | (go_at_call 48;(with_reducible refine CA2.out.mono ?_);rintro e w' ⟨rfl,rfl⟩)
       | (go_at_call 48;(with_reducible refine CB2.out.mono ?_);rintro e w' ⟨rfl,rfl⟩))
      refine ⟨⟨k+1,by omega,by go_num,by rw [HS1.out],?_,HB.out⟩,hM⟩
      rw [HS1.out]
      exact hown
     ·have HS1:Hid (accL S (k+1)=(O,false)):=hS1
      clear hS1
      go_wp2_with (first
       | (go_at_call 48;(with_reducible refine CA2.out.mono ?_);rintro e w' ⟨rfl,rfl⟩)
       | (go_at_call 48;(with_reducible refine CB2.out.mono ?_);rintro e w' ⟨rfl,rfl⟩))
      refine ⟨⟨k+1,by omega,by go_num,by rw [HS1.out],?_,HB.out⟩,hM⟩
      rw [HS1.out]
      exact hown
    ·cases xb
     ·have HS1:Hid (accL S (k+1)=(O,false)):=hS1
      clear hS1
      go_wp2_with (first
       | (go_at_call 48;(with_reducible refine CA2.out.mono ?_);rintro e w' ⟨rfl,rfl⟩)
       | (go_at_call 48;(with_reducible refine CB2.out.mono ?_);rintro e w' ⟨rfl,rfl⟩))
      refine ⟨⟨k+1,by omega,by go_num,by rw [HS1.out],?_,HB.out⟩,hM⟩
      rw [HS1.out]
      exact hown
     ·cases op
      ·have HS1:Hid (accL S (k+1)=(O++[(n,n)],true)):=hS1
       rw [HS1.out] at hL1
       clear hS1
       go_wp2_with (first
        | (go_at_call 48;(with_reducible refine CA2.out.mono ?_);rintro e w' ⟨rfl,rfl⟩)
        | (go_at_call 48;(with_reducible refine CB2.out.mono ?_);rintro e w' ⟨rfl,rfl⟩)
        | (at_builtin;refine wpList_append2 rfl (.tmp 69) (.tmp 73) 61 rfl w.heap.size 77 i0 (.agg #[.int .i64 0,.int .i64 0]) 16 Tryz.underlying61 hi hz0 hz1 hz2 rfl _ _ _ rfl hown _ _ rfl rfl rfl rfl (by omega) hle ?_;intro v1 w1 o1 b1 n1))
       refine ⟨⟨k+1,by omega,by go_num,by rw [HS1.out],?_,HB.out.trans b1⟩,hM⟩
       rw [HS1.out,List.length_append,cellsR_append]
       exact o1
      ·obtain ⟨M,p,hMp⟩:=HO1.out rfl
       simp only at hMp
       subst hMp
       have HS1:Hid (accL S (k+1)=(M++[(p.1,n)],true)):=by rw [<- setTop_snoc];exact hS1
       clear hS1
       obtain ⟨g,oc,rfl,hgb,hcells⟩:=owns_pos hown (by simp)
       have gf:=hown.frozenAt (M.length * 2+1)
       have HQ:=hD (hown.stored (M.length * 2+1) (.int .i64 n))
       have g1:=hcells (M.length * 2+1) (by simp;omega)
       rw [(cellsR_at (M++[p]) M.length (by simp)).2] at g1
       have hML:(M++[p]).length=M.length+1:=by simp
       rw [hML]
       rw [hML] at HQ
       clear hcells hown
       generalize (M++[p])[M.length].2=pu at g1
       go_wp2_with (first
        | (go_at_call 48;(with_reducible refine CA2.out.mono ?_);rintro e w' ⟨rfl,rfl⟩)
        | (go_at_call 48;(with_reducible refine CB2.out.mono ?_);rintro e w' ⟨rfl,rfl⟩))
       refine ⟨⟨k+1,by omega,by go_num,by rw [HS1.out],?_,HB.out.setCell (p:=⟨g,M.length * 2+1,none⟩) hgb _⟩,hM⟩
       rw [HS1.out,<- cellsR_last,List.length_append]
       exact HQ.out.1
   ·cases xa
    ·cases xb
     ·have HS1:Hid (accL S (k+1)=(O,false)):=hS1
      clear hS1
      go_wp2_with (first
       | (go_at_call 48;(with_reducible refine CA2.out.mono ?_);rintro e w' ⟨rfl,rfl⟩)
       | (go_at_call 48;(with_reducible refine CB2.out.mono ?_);rintro e w' ⟨rfl,rfl⟩))
      refine ⟨⟨k+1,by omega,by go_num,by rw [HS1.out],?_,HB.out⟩,hM⟩
      rw [HS1.out]
      exact hown
     ·cases op
      ·have HS1:Hid (accL S (k+1)=(O++[(n,n)],true)):=hS1
       rw [HS1.out] at hL1
       clear hS1
       go_wp2_with (first
        | (go_at_call 48;(with_reducible refine CA2.out.mono ?_);rintro e w' ⟨rfl,rfl⟩)
        | (go_at_call 48;(with_reducible refine CB2.out.mono ?_);rintro e w' ⟨rfl,rfl⟩)
        | (at_builtin;refine wpList_append2 rfl (.tmp 69) (.tmp 73) 61 rfl w.heap.size 77 i0 (.agg #[.int .i64 0,.int .i64 0]) 16 Tryz.underlying61 hi hz0 hz1 hz2 rfl _ _ _ rfl hown _ _ rfl rfl rfl rfl (by omega) hle ?_;intro v1 w1 o1 b1 n1))
       refine ⟨⟨k+1,by omega,by go_num,by rw [HS1.out],?_,HB.out.trans b1⟩,hM⟩
       rw [HS1.out,List.length_append,cellsR_append]
       exact o1
      ·obtain ⟨M,p,hMp⟩:=HO1.out rfl
       simp only at hMp
       subst hMp
       have HS1:Hid (accL S (k+1)=(M++[(p.1,n)],true)):=by rw [<- setTop_snoc];exact hS1
       clear hS1
       obtain ⟨g,oc,rfl,hgb,hcells⟩:=owns_pos hown (by simp)
       have gf:=hown.frozenAt (M.length * 2+1)
       have HQ:=hD (hown.stored (M.length * 2+1) (.int .i64 n))
       have g1:=hcells (M.length * 2+1) (by simp;omega)
       rw [(cellsR_at (M++[p]) M.length (by simp)).2] at g1
       have hML:(M++[p]).length=M.length+1:=by simp
       rw [hML]
       rw [hML] at HQ
       clear hcells hown
       generalize (M++[p])[M.length].2=pu at g1
       go_wp2_with (first
        | (go_at_call 48;(with_reducible refine CA2.out.mono ?_);rintro e w' ⟨rfl,rfl⟩)
        | (go_at_call 48;(with_reducible refine CB2.out.mono ?_);rintro e w' ⟨rfl,rfl⟩))
       refine ⟨⟨k+1,by omega,by go_num,by rw [HS1.out],?_,HB.out.setCell (p:=⟨g,M.length * 2+1,none⟩) hgb _⟩,hM⟩
       rw [HS1.out,<- cellsR_last,List.length_append]
       exact HQ.out.1
    ·cases xb
     ·cases op
      ·have HS1:Hid (accL S (k+1)=(O++[(n,n)],true)):=hS1
       rw [HS1.out] at hL1
       clear hS1
       go_wp2_with (first
        | (go_at_call 48;(with_reducible refine CA2.out.mono ?_);rintro e w' ⟨rfl,rfl⟩)
        | (go_at_call 48;(with_reducible refine CB2.out.mono ?_);rintro e w' ⟨rfl,rfl⟩)
        | (at_builtin;refine wpList_append2 rfl (.tmp 69) (.tmp 73) 61 rfl w.heap.size 77 i0 (.agg #[.int .i64 0,.int .i64 0]) 16 Tryz.underlying61 hi hz0 hz1 hz2 rfl _ _ _ rfl hown _ _ rfl rfl rfl rfl (by omega) hle ?_;intro v1 w1 o1 b1 n1))
       refine ⟨⟨k+1,by omega,by go_num,by rw [HS1.out],?_,HB.out.trans b1⟩,hM⟩
       rw [HS1.out,List.length_append,cellsR_append]
       exact o1
      ·obtain ⟨M,p,hMp⟩:=HO1.out rfl
       simp only at hMp
       subst hMp
       have HS1:Hid (accL S (k+1)=(M++[(p.1,n)],true)):=by rw [<- setTop_snoc];exact hS1
       clear hS1
       obtain ⟨g,oc,rfl,hgb,hcells⟩:=owns_pos hown (by simp)
       have gf:=hown.frozenAt (M.length * 2+1)
       have HQ:=hD (hown.stored (M.length * 2+1) (.int .i64 n))
       have g1:=hcells (M.length * 2+1) (by simp;omega)
       rw [(cellsR_at (M++[p]) M.length (by simp)).2] at g1
       have hML:(M++[p]).length=M.length+1:=by simp
       rw [hML]
       rw [hML] at HQ
       clear hcells hown
       generalize (M++[p])[M.length].2=pu at g1
       go_wp2_with (first
        | (go_at_call 48;(with_reducible refine CA2.out.mono ?_);rintro e w' ⟨rfl,rfl⟩)
        | (go_at_call 48;(with_reducible refine CB2.out.mono ?_);rintro e w' ⟨rfl,rfl⟩))
       refine ⟨⟨k+1,by omega,by go_num,by rw [HS1.out],?_,HB.out.setCell (p:=⟨g,M.length * 2+1,none⟩) hgb _⟩,hM⟩
       rw [HS1.out,<- cellsR_last,List.length_append]
       exact HQ.out.1
     ·cases op
      ·have HS1:Hid (accL S (k+1)=(O++[(n,n)],true)):=hS1
       rw [HS1.out] at hL1
       clear hS1
       go_wp2_with (first
        | (go_at_call 48;(with_reducible refine CA2.out.mono ?_);rintro e w' ⟨rfl,rfl⟩)
        | (go_at_call 48;(with_reducible refine CB2.out.mono ?_);rintro e w' ⟨rfl,rfl⟩)
        | (at_builtin;refine wpList_append2 rfl (.tmp 69) (.tmp 73) 61 rfl w.heap.size 77 i0 (.agg #[.int .i64 0,.int .i64 0]) 16 Tryz.underlying61 hi hz0 hz1 hz2 rfl _ _ _ rfl hown _ _ rfl rfl rfl rfl (by omega) hle ?_;intro v1 w1 o1 b1 n1))
       refine ⟨⟨k+1,by omega,by go_num,by rw [HS1.out],?_,HB.out.trans b1⟩,hM⟩
       rw [HS1.out,List.length_append,cellsR_append]
       exact o1
      ·obtain ⟨M,p,hMp⟩:=HO1.out rfl
       simp only at hMp
       subst hMp
       have HS1:Hid (accL S (k+1)=(M++[(p.1,n)],true)):=by rw [<- setTop_snoc];exact hS1
       clear hS1
       obtain ⟨g,oc,rfl,hgb,hcells⟩:=owns_pos hown (by simp)
       have gf:=hown.frozenAt (M.length * 2+1)
       have HQ:=hD (hown.stored (M.length * 2+1) (.int .i64 n))
       have g1:=hcells (M.length * 2+1) (by simp;omega)
       rw [(cellsR_at (M++[p]) M.length (by simp)).2] at g1
       have hML:(M++[p]).length=M.length+1:=by simp
       rw [hML]
       rw [hML] at HQ
       clear hcells hown
       generalize (M++[p])[M.length].2=pu at g1
       go_wp2_with (first
        | (go_at_call 48;(with_reducible refine CA2.out.mono ?_);rintro e w' ⟨rfl,rfl⟩)
        | (go_at_call 48;(with_reducible refine CB2.out.mono ?_);rintro e w' ⟨rfl,rfl⟩))
       refine ⟨⟨k+1,by omega,by go_num,by rw [HS1.out],?_,HB.out.setCell (p:=⟨g,M.length * 2+1,none⟩) hgb _⟩,hM⟩
       rw [HS1.out,<- cellsR_last,List.length_append]
       exact HQ.out.1
   ·cases xa
    ·cases xb
     ·have HS1:Hid (accL S (k+1)=(O,false)):=hS1
      clear hS1
      go_wp2_with (first
       | (go_at_call 48;(with_reducible refine CA2.out.mono ?_);rintro e w' ⟨rfl,rfl⟩)
       | (go_at_call 48;(with_reducible refine CB2.out.mono ?_);rintro e w' ⟨rfl,rfl⟩))
      refine ⟨⟨k+1,by omega,by go_num,by rw [HS1.out],?_,HB.out⟩,hM⟩
      rw [HS1.out]
      exact hown
     ·have HS1:Hid (accL S (k+1)=(O,false)):=hS1
      clear hS1
      go_wp2_with (first
       | (go_at_call 48;(with_reducible refine CA2.out.mono ?_);rintro e w' ⟨rfl,rfl⟩)
       | (go_at_call 48;(with_reducible refine CB2.out.mono ?_);rintro e w' ⟨rfl,rfl⟩))
      refine ⟨⟨k+1,by omega,by go_num,by rw [HS1.out],?_,HB.out⟩,hM⟩
      rw [HS1.out]
      exact hown
    ·cases xb
     ·cases op
      ·have HS1:Hid (accL S (k+1)=(O++[(n,n)],true)):=hS1
       rw [HS1.out] at hL1
       clear hS1
       go_wp2_with (first
        | (go_at_call 48;(with_reducible refine CA2.out.mono ?_);rintro e w' ⟨rfl,rfl⟩)
        | (go_at_call 48;(with_reducible refine CB2.out.mono ?_);rintro e w' ⟨rfl,rfl⟩)
        | (at_builtin;refine wpList_append2 rfl (.tmp 69) (.tmp 73) 61 rfl w.heap.size 77 i0 (.agg #[.int .i64 0,.int .i64 0]) 16 Tryz.underlying61 hi hz0 hz1 hz2 rfl _ _ _ rfl hown _ _ rfl rfl rfl rfl (by omega) hle ?_;intro v1 w1 o1 b1 n1))
       refine ⟨⟨k+1,by omega,by go_num,by rw [HS1.out],?_,HB.out.trans b1⟩,hM⟩
       rw [HS1.out,List.length_append,cellsR_append]
       exact o1
      ·obtain ⟨M,p,hMp⟩:=HO1.out rfl
       simp only at hMp
       subst hMp
       have HS1:Hid (accL S (k+1)=(M++[(p.1,n)],true)):=by rw [<- setTop_snoc];exact hS1
       clear hS1
       obtain ⟨g,oc,rfl,hgb,hcells⟩:=owns_pos hown (by simp)
       have gf:=hown.frozenAt (M.length * 2+1)
       have HQ:=hD (hown.stored (M.length * 2+1) (.int .i64 n))
       have g1:=hcells (M.length * 2+1) (by simp;omega)
       rw [(cellsR_at (M++[p]) M.length (by simp)).2] at g1
       have hML:(M++[p]).length=M.length+1:=by simp
       rw [hML]
       rw [hML] at HQ
       clear hcells hown
       generalize (M++[p])[M.length].2=pu at g1
       go_wp2_with (first
        | (go_at_call 48;(with_reducible refine CA2.out.mono ?_);rintro e w' ⟨rfl,rfl⟩)
        | (go_at_call 48;(with_reducible refine CB2.out.mono ?_);rintro e w' ⟨rfl,rfl⟩))
       refine ⟨⟨k+1,by omega,by go_num,by rw [HS1.out],?_,HB.out.setCell (p:=⟨g,M.length * 2+1,none⟩) hgb _⟩,hM⟩
       rw [HS1.out,<- cellsR_last,List.length_append]
       exact HQ.out.1
     ·have HS1:Hid (accL S (k+1)=(O,false)):=hS1
      clear hS1
      go_wp2_with (first
       | (go_at_call 48;(with_reducible refine CA2.out.mono ?_);rintro e w' ⟨rfl,rfl⟩)
       | (go_at_call 48;(with_reducible refine CB2.out.mono ?_);rintro e w' ⟨rfl,rfl⟩))
      refine ⟨⟨k+1,by omega,by go_num,by rw [HS1.out],?_,HB.out⟩,hM⟩
      rw [HS1.out]
      exact hown
  ·obtain rfl:k=401:=by omega
   rw [HC.out] at hown
   obtain ⟨oa,oc,rfl,_⟩:=(SlAt.of_own hown).shape
   go_wp2
   go_ret
   exact ⟨_,_,rfl,RgAt.own hown,HB.out,fun b hb=>(hown.lt b hb).1⟩
theorem normal_c (va:Value) (a:List Rg) (w:World) (ha:RgAt w va a) (hla:a.length<=4096) :
  Calls Tryz.prog 71 #[va] w fun e w'=>∃ r:Bool,e=.returned (.bool r)/\(r=true->Normal a)/\∃ q,w'=w.drewN q:=by
 obtain ⟨ao,cap,rfl,_⟩:=ha.shape
 have HA:=hD ha
 clear ha
 go_enter Tryz.func71,Tryz.ntmps71
 go_wp2
 go_loopw [3] (fun s wr=>∃ k q:Nat,k<=a.length/\s=.int .i64 k/\Normal (a.take k)/\wr=w.drewN q) (fun s _=>a.length - (intOf s).toNat)
 case atStart=>exact ⟨0,0,by omega,rfl,trivial,rfl⟩
 case round =>
  obtain ⟨k,q,hk,rfl,hN,rfl⟩:=hrel
  by_cases hlt:k<a.length
  ·obtain ⟨b,off,c',he,hcap,hbs,hc⟩:=RgAt.at HA.out (by omega)
   simp only [Value.slice.injEq,true_and] at he
   obtain ⟨rfl,rfl⟩:=he
   obtain ⟨c1,c2⟩:=hc k hlt
   have HT:Hid (a.take (k+1)=a.take k++[a[k]]):=List.take_succ_eq_append_getElem hlt
   obtain ⟨r,hr⟩:∃ r,r=a[k]:=⟨_,rfl⟩
   rw [<- hr] at c1 c2 HT
   clear hr
   have HN:=hD hN
   clear hN
   by_cases h1:r.1 > r.2
   ·have g1:decide (r.1 > r.2)=true:=by simpa using h1
    clear hc
    go_wp2
    go_quiet (fail)
    go_wp2
    go_ret
    exact ⟨_,rfl,(fun h=>by cases h),_,World.drewN_drewN _ _ _⟩
   have g1:decide (r.1 > r.2)=false:=by simpa using h1
   by_cases h2:r.1 < -200
   ·have g2:decide (r.1 < -200)=true:=by simpa using h2
    clear hc
    go_wp2
    go_quiet (fail)
    go_wp2
    go_ret
    exact ⟨_,rfl,(fun h=>by cases h),_,World.drewN_drewN _ _ _⟩
   have g2:decide (r.1 < -200)=false:=by simpa using h2
   by_cases h3:r.2 > 200
   ·have g3:decide (r.2 > 200)=true:=by simpa using h3
    clear hc
    go_wp2
    go_quiet (fail)
    go_wp2
    go_ret
    exact ⟨_,rfl,(fun h=>by cases h),_,World.drewN_drewN _ _ _⟩
   have g3:decide (r.2 > 200)=false:=by simpa using h3
   rcases Nat.eq_zero_or_pos k with rfl | hk0
   ·clear hc
    have g4:decide (((0:Nat):Int) > 0)=false:=by simp
    have HK:Hid (Normal (a.take (0+1))):=by
     show Normal _
     rw [HT.out]
     exact normal_snoc.2 ⟨HN.out,by omega,by omega,by omega,fun q hq=>by simp at hq⟩
    rw [Nat.zero_mul,Nat.add_zero] at c1 c2
    go_wp2
    go_quiet (fail)
    go_wp2
    exact ⟨⟨1,q+nq,by omega,rfl,HK.out,rfl⟩,by simp [intOf];omega⟩
   ·obtain ⟨m,rfl⟩:∃ m,k=m+1:=⟨k - 1,by omega⟩
    obtain ⟨d1,d2⟩:=hc m (by omega)
    obtain ⟨s,hs⟩:∃ s,s=a[m]:=⟨_,rfl⟩
    rw [<- hs] at d1 d2
    have HG:Hid ((a.take (m+1)).getLast?=some s):=by
     show _=_
     rw [List.take_succ_eq_append_getElem (by omega),List.getLast?_concat,hs]
    clear hc hs d1
    have g4:decide (((m+1:Nat):Int) > 0)=true:=by simp
    by_cases h5:r.1 - 1<=s.2
    ·have g5:decide (r.1 - 1<=s.2)=true:=by simpa using h5
     go_wp2
     go_quiet (fail)
     go_wp2
     go_ret
     exact ⟨_,rfl,(fun h=>by cases h),_,World.drewN_drewN _ _ _⟩
    ·have g5:decide (r.1 - 1<=s.2)=false:=by simpa using h5
     have HK:Hid (Normal (a.take (m+1+1))):=by
      show Normal _
      rw [HT.out]
      exact normal_snoc.2 ⟨HN.out,by omega,by omega,by omega,fun q hq=>by rw [HG.out] at hq;cases hq;exact h5⟩
     go_wp2
     go_quiet (fail)
     go_wp2
     exact ⟨⟨m+1+1,q+nq,by omega,by go_num,HK.out,rfl⟩,by simp [intOf];omega⟩
  ·obtain rfl:k=a.length:=by omega
   rw [List.take_length] at hN
   go_wp2
   go_ret
   exact ⟨_,rfl,(fun _=>hN),_,rfl⟩
theorem way1 (a b:List Rg):canon (wayS 1 a b)=meetL a b:=by unfold meetL;exact canon_congr fun n _ _=>by simp [wayS]
theorem way2 (a b:List Rg):canon (wayS 2 a b)=joinL a b:=by unfold joinL;exact canon_congr fun n _ _=>by simp [wayS]
theorem way3 (a b:List Rg):canon (wayS 3 a b)=minusL a b:=by unfold minusL;exact canon_congr fun n _ _=>by simp [wayS]
theorem way2nil (a:List Rg):canon (wayS 2 a [])=norm a:=by rw [way2];unfold joinL norm;exact canon_congr fun n _ _=>by rw [memL_nil,Bool.or_false]
theorem refNorm_n (va:Value) (a:List Rg) (w:World) (ha:RgAt w va a) (hla:a.length<=4096) :
  Calls Tryz.prog 47 #[va] w (RetN (norm a) w):=by
 obtain ⟨i0,hi,hz0,hz1,hz2⟩:=info_parts Tryz.infoRg
 obtain ⟨ao,cap,rfl,_⟩:=ha.shape
 have HA:=hD ha
 have CN:=hD (normal_c _ a w ha hla)
 have CL:Hid (∀ W,Below w.heap.size w W->Calls Tryz.prog 55 #[.slice ao a.length cap,.slice none 0 0,.int .i64 2] W (RetN (norm a) W)):=fun W h=>by
  have:=list_n _ (.slice none 0 0) a [] 2 (by simp) W (ha.below h) RgAt.nil hla (by simp)
  rwa [way2nil] at this
 have HNN:Hid (Normal a->norm a=a):=norm_of_normal
 clear ha
 generalize norm a=na at CL HNN |-
 go_enter Tryz.func47,Tryz.ntmps47
 go_wp2_with (first
  | (go_at_call 71;(with_reducible refine CN.out.mono ?_);rintro e w' ⟨r,rfl,hr,q,rfl⟩;have HR:=hD hr;clear hr;cases r)
  | (at_builtin;refine wpList_append_sl rfl (.tmp 7) (.tmp 8) 61 rfl w.heap.size 77 i0 (.agg #[.int .i64 0,.int .i64 0]) 2 16 Tryz.underlying61 hi hz0 hz1 hz2 rfl (by decide) _ 0 [] rfl (World.ownsRow_made _ #[] 0 (rN _) (by decide) rfl) _ _ _ rfl (SlAt.alloc (SlAt.drewN HA.out _) _) (cellsR_one _) (by omega) (by simp) ?_;intro v1 w1 o1 b1 g1;clear g1)
  | (go_at_call 55;(with_reducible refine (CL.out _ (below_drewN (Below.refl _ _) _)).mono ?_);rintro e W ⟨a1,c1,rfl,hr1,hb1,hn1⟩))
 ·go_ret
  exact ⟨_,_,rfl,hr1,(below_drewN (Below.refl _ _) _).trans hb1,hn1⟩
 ·go_ret
  have hn:=HNN.out (HR.out (by trivial))
  subst hn
  rw [Nat.zero_add,List.nil_append] at o1
  have hb:Below w.heap.size w w1:=by first | exact (((below_drewN (Below.refl _ _) _).alloc (rN _) _).trans b1) | exact ((below_drewN (bA _) _).trans b1)
  obtain ⟨oa,oc,rfl,_⟩:=(SlAt.of_own o1).shape
  exact ⟨_,_,rfl,RgAt.own o1,hb,fun b h=>(o1.lt b h).1⟩
theorem refNorm_c (va:Value) (a:List Rg) (w:World) (ha:RgAt w va a) (hla:a.length<=4096) :
  Calls Tryz.prog 47 #[va] w (RetR (norm a) w):=(refNorm_n va a w ha hla).mono fun _ _ h=>h.toR
theorem refMeet_n (va vb:Value) (a b:List Rg) (w:World) (ha:RgAt w va a) (hb:RgAt w vb b) (hla:a.length<=4096) (hlb:b.length<=4096) :
  Calls Tryz.prog 36 #[va,vb] w (RetN (meetL a b) w):=by
 obtain ⟨ao,cap,rfl,_⟩:=ha.shape
 obtain ⟨ao2,cap2,rfl,_⟩:=hb.shape
 have C:=hD (list_n _ _ a b 1 (by simp) w ha hb hla hlb)
 rw [way1] at C
 clear ha hb
 generalize meetL a b=me at C |-
 go_enter Tryz.func36,Tryz.ntmps36
 go_wp2_with (go_at_call 55;(with_reducible refine C.out.mono ?_);rintro e W ⟨a1,c1,rfl,hr1,hb1,hn1⟩)
 go_ret
 exact ⟨_,_,rfl,hr1,hb1,hn1⟩
theorem refMeet_c (va vb:Value) (a b:List Rg) (w:World) (ha:RgAt w va a) (hb:RgAt w vb b) (hla:a.length<=4096) (hlb:b.length<=4096) :
  Calls Tryz.prog 36 #[va,vb] w (RetR (meetL a b) w):=(refMeet_n va vb a b w ha hb hla hlb).mono fun _ _ h=>h.toR
theorem refMinus_n (va vb:Value) (a b:List Rg) (w:World) (ha:RgAt w va a) (hb:RgAt w vb b) (hla:a.length<=4096) (hlb:b.length<=4096) :
  Calls Tryz.prog 79 #[va,vb] w (RetN (minusL a b) w):=by
 obtain ⟨ao,cap,rfl,_⟩:=ha.shape
 obtain ⟨ao2,cap2,rfl,_⟩:=hb.shape
 have C:=hD (list_n _ _ a b 3 (by simp) w ha hb hla hlb)
 rw [way3] at C
 clear ha hb
 generalize minusL a b=me at C |-
 go_enter Tryz.func79,Tryz.ntmps79
 go_wp2_with (go_at_call 55;(with_reducible refine C.out.mono ?_);rintro e W ⟨a1,c1,rfl,hr1,hb1,hn1⟩)
 go_ret
 exact ⟨_,_,rfl,hr1,hb1,hn1⟩
theorem rgAt_lit2 (w:World) (r:Rg) (T:TypeId):RgAt (w.alloc (.cells #[.int .i64 r.1,.int .i64 r.2] T)) (.slice (some ⟨w.heap.size,0,none⟩) 1 1) [r] :=
 RgAt.own (e:=T) (World.ownsRow_lit (base:=0) w #[.int .i64 r.1,.int .i64 r.2] 1 (Nat.zero_le _) (by simp [maxLen]) rfl)
theorem contains_none (p:Option Addr) (cap:Nat) (fv:Value) (w:World) :
  Calls Tryz.prog 174 #[.slice p 0 cap,fv] w fun e w'=>e=.returned (.bool false)/\w=w':=by
 have CI:Hid (Calls Tryz.prog 177 #[.slice p 0 cap,fv] w fun e w'=>e=.returned (.int .i64 (-1))/\w=w'):=by
  show Calls _ _ _ _ _
  go_enter Tryz.func177,Tryz.ntmps177
  go_wp2
  go_loopw [8] (fun s wr=>s=.int .i64 0/\wr=w) (fun _ _=>0)
  case atStart=>exact ⟨rfl,rfl⟩
  case round =>
   obtain ⟨rfl,rfl⟩:=hrel
   go_wp2
   go_ret
   exact ⟨rfl,rfl⟩
 go_enter Tryz.func174,Tryz.ntmps174
 go_wp2_with (go_at_call 177;(with_reducible refine CI.out.mono ?_);rintro e w' ⟨rfl,rfl⟩)
 go_ret
 exact ⟨rfl,rfl⟩
theorem hasFn_c (n:Int) (B:Nat) (w:World) (hB:B<w.heap.size) (hcell:w.cell? ⟨B,0,none⟩=some (.int .i64 n)) :
  Go.Proofs.PredBelow Tryz.prog 175 #[.pointer (some ⟨B,0,none⟩)] (fun x=>.agg (encR x).toArray) (fun x=>decide (x.1<=n)&&decide (n<=x.2)) w:=fun W x hb=>by
 have hc:W.cell? ⟨B,0,none⟩=some (.int .i64 n):=(hb.cell (p:=⟨B,0,none⟩) hB).trans hcell
 have hBW:B<W.heap.size:=Nat.lt_of_lt_of_le hB hb.size
 have hne:B≠W.heap.size:=by omega
 show Calls Tryz.prog 175 #[.agg #[.int .i64 x.1,.int .i64 x.2],.pointer (some ⟨B,0,none⟩)] W _
 by_cases h1:x.1<=n
 ·by_cases h2:n<=x.2
  all_goals
   go_enter Tryz.func175,Tryz.ntmps175
   go_wp2
   all_goals (go_ret;exact ⟨ret_bool (by simp [h1,h2]),bL hb _⟩)
 ·go_enter Tryz.func175,Tryz.ntmps175
  go_wp2
  all_goals (go_ret;exact ⟨ret_bool (by simp;omega),bL hb _⟩)
theorem has_c (va:Value) (a:List Rg) (n:Int) (w:World) (ha:RgAt w va a) (hla:a.length<=4096) :
  Calls Tryz.prog 172 #[va,.int .i64 n] w fun e w'=>e=.returned (.bool (inD n&&memL a n))/\Below w.heap.size w w':=by
 obtain ⟨ao,cap,rfl,_⟩:=ha.shape
 by_cases h1:n < -200
 ·go_enter Tryz.func172,Tryz.ntmps172
  go_wp2
  go_ret
  exact ⟨ret_bool (by symm;simp [inD];omega),bA _⟩
 by_cases h2:200<n
 ·go_enter Tryz.func172,Tryz.ntmps172
  go_wp2
  go_ret
  exact ⟨ret_bool (by symm;simp [inD];omega),bA _⟩
 have HI:Hid ((inD n&&memL a n)=memL a n):=by show _=_;simp [inD,show -200<=n by omega,show n<=200 by omega]
 rw [HI.out]
 clear HI
 have eg:∀ args w,(callFunc 175 args).run Tryz.prog w=.ok (.enter 175 args) w:=enters_of Tryz.func175 (by kernel_rfl) rfl
 have CC:Hid (∀ T,Calls Tryz.prog 174 #[.slice ao a.length cap,.func (.func 175) #[] #[.pointer (some ⟨w.heap.size,0,none⟩)]] (w.alloc (.cells #[.int .i64 n] T)) fun e w' =>
   e=.returned (.bool (memL a n))/\Below w.heap.size (w.alloc (.cells #[.int .i64 n] T)) w'):=fun T=>by
  have hb0:Below w.heap.size w (w.alloc (.cells #[.int .i64 n] T)):=bA _
  rcases Nat.eq_zero_or_pos a.length with h0 | h0
  ·obtain rfl:=List.eq_nil_of_length_eq_zero h0
   exact (contains_none ao cap _ _).mono fun e w' ⟨he,hw⟩=>⟨he,by rw [<- hw];exact Below.refl _ _⟩
  ·obtain ⟨b,off,c',he,hcap,hbs,hc⟩:=RgAt.at (ha.below hb0) h0
   simp only [Value.slice.injEq,true_and] at he
   obtain ⟨rfl,rfl⟩:=he
   have hcon:=AnyQ.slices_ContainsFunc Tryz.contRg 2 Tryz.isAgg77 Tryz.sizeOf77 encR (fun _=>rfl) (fun x=>decide (x.1<=n)&&decide (n<=x.2)) 175 #[.pointer (some ⟨w.heap.size,0,none⟩)] eg b off a.length cap a
    (w.alloc (.cells #[.int .i64 n] T)) (hasFn_c n w.heap.size _ (by simp) (by simp)) (rN _) (by omega) hbs (fun j hj i v hi=>by
     obtain ⟨e1,e2⟩:=hc j hj
     rw [getElem!_pos a j hj] at hi
     match i,hi with
     | 0,hi=>simp [encR] at hi;rw [<- hi];exact e1
     | 1,hi=>simp [encR] at hi;rw [<- hi];exact e2
     | i+2,hi=>simp [encR] at hi)
   change Calls Tryz.prog 174 _ _ _ at hcon
   rw [List.take_length] at hcon
   exact hcon.mono fun e w' ⟨he,hb⟩=>⟨he,hb.mono (by simp)⟩
 clear ha eg
 generalize memL a n=r at *
 go_enter Tryz.func172,Tryz.ntmps172
 go_wp2_with (go_at_call 174;(with_reducible refine (CC.out _).mono ?_);rintro e W ⟨rfl,hb⟩)
 go_ret
 exact ⟨rfl,(bA _).trans hb⟩
theorem refEnds_c (va:Value) (a:List Rg) (w:World) (ha:RgAt w va a) (hla:a.length<=4096) :
  Calls Tryz.prog 51 #[va] w fun e w'=>e=.returned (endV (norm a))/\Below w.heap.size w w':=by
 obtain ⟨ao,cap,rfl,_⟩:=ha.shape
 have CA:Hid (Calls Tryz.prog 47 #[.slice ao a.length cap] w (RetR (norm a) w)):=refNorm_c _ _ w ha hla
 have hln:(norm a).length<=201:=norm_len a
 clear ha
 generalize hNA:norm a=na at CA hln |-
 clear hNA
 rcases List.eq_nil_or_concat na with rfl | ⟨M,p,rfl⟩
 ·rw [show ([]:List Rg).length=0 from rfl] at *
  go_enter Tryz.func51,Tryz.ntmps51
  go_wp2_with (first
   | (go_at_call 47;(with_reducible refine CA.out.mono ?_);rintro e W ⟨a1,c1,rfl,hr1,hb1⟩;rw [show ([]:List Rg).length=0 from rfl];have HW:=hD hb1;clear hr1 hb1))
  go_ret3
  exact ⟨rfl,HW.out⟩
 ·rw [List.concat_eq_append] at *
  go_enter Tryz.func51,Tryz.ntmps51
  have hML:(M++[p]).length=M.length+1:=by simp
  have HEV:Hid (endV (M++[p])=.tuple #[.int .i64 ((M++[p])[0]'(by simp)).1,.int .i64 p.2,.bool true]):=by
   show _=_
   cases M with
   | nil=>rfl
   | cons r M =>
    have hl:(r::(M++[p])).getLast (by simp)=p:=by
     have h1:(r::(M++[p])).getLast?=some p:=List.getLast?_concat (l:=r::M) (a:=p)
     rw [List.getLast?_eq_some_getLast (by simp)] at h1
     exact Option.some.inj h1
    show Value.tuple #[_,.int .i64 ((r::(M++[p])).getLast _).2,_]=_
    rw [hl]
    rfl
  have hz:((M.length:Int)+1==0)=false:=beq_eq_false_iff_ne.2 (by omega)
  go_wp2_with (first
   | (go_at_call 47;(with_reducible refine CA.out.mono ?_);rintro e W ⟨a1,c1,rfl,hr1,hb1⟩;have HR1:=hD hr1;have HW:=hD hb1;clear hr1 hb1;rw [hML]))
  obtain ⟨b,off,c',he,hcap,hbs,hc⟩:=RgAt.at HR1.out (by simp)
  simp only [Value.slice.injEq,true_and] at he
  obtain ⟨rfl,_,rfl⟩:=he
  have c1:=(hc 0 (by simp)).1
  have c2:=(hc M.length (by simp)).2
  simp only [Nat.zero_mul,Nat.add_zero,List.getElem_append_right,Nat.le_refl,Nat.sub_self,List.getElem_cons_zero] at c1 c2
  clear hc
  obtain ⟨x,hx⟩:∃ x,x=((M++[p])[0]'(by simp)).1:=⟨_,rfl⟩
  rw [<- hx] at c1 HEV
  clear hx
  go_wp2
  go_quiet (fail)
  go_wp2
  go_ret3
  exact ⟨by rw [HEV.out];rfl,below_drewN HW.out _⟩
theorem refSize_c (va:Value) (a:List Rg) (w:World) (ha:RgAt w va a) (hla:a.length<=4096) :
  Calls Tryz.prog 28 #[va] w fun e w'=>e=.returned (.int .i64 (sizeL (norm a)))/\Below w.heap.size w w':=by
 obtain ⟨ao,cap,rfl,_⟩:=ha.shape
 have CA:Hid (Calls Tryz.prog 47 #[.slice ao a.length cap] w (RetR (norm a) w)):=refNorm_c _ _ w ha hla
 have HBD:Hid (∀ p∈norm a,-200<=p.1/\p.1<=p.2/\p.2<=200):=norm_bounds a
 have HS:Hid (∀ k,0<=sizeL ((norm a).take k)/\sizeL ((norm a).take k)<=402):=fun k=>sizeL_bounds _ (-200) (by decide) ((norm_normal a).take k)
 have hln:(norm a).length<=201:=norm_len a
 clear ha
 generalize hNA:norm a=na at CA hln HBD HS |-
 clear hNA
 go_enter Tryz.func28,Tryz.ntmps28
 go_wp2_with (first
  | (go_at_call 47;(with_reducible refine CA.out.mono ?_);rintro e W ⟨a1,c1,rfl,hr1,hb1⟩;have HR1:=hD hr1;have HW:=hD hb1;clear hr1 hb1))
 go_loopw [4,5] (fun f s wr=>∃ k q:Nat,∃ fz:Int,k<=na.length/\s=.int .i64 k/\f=.int .i64 fz/\fz=sizeL (na.take k)/\wr=W.drewN q) (fun _ s _=>na.length - (intOf s).toNat)
 case atStart=>exact ⟨0,0,0,by omega,rfl,rfl,rfl,rfl⟩
 case round =>
  obtain ⟨k,q,fz,hk,rfl,rfl,hf,rfl⟩:=hrel
  have HF:=hD hf
  have hfb:=HS.out k
  rw [<- HF.out] at hfb
  obtain ⟨hf1,hf2⟩:=hfb
  clear hf
  by_cases hlt:k<na.length
  ·obtain ⟨b,off,c',he,hcap,hbs,hc⟩:=RgAt.at HR1.out (by omega)
   simp only [Value.slice.injEq,true_and] at he
   obtain ⟨rfl,rfl⟩:=he
   obtain ⟨c1,c2⟩:=hc k hlt
   have hbd:=HBD.out _ (List.getElem_mem hlt)
   have HT:Hid (sizeL (na.take (k+1))=fz+(na[k].2 - na[k].1+1)):=by
    show _=_
    rw [List.take_succ_eq_append_getElem hlt,sizeL_append,HF.out];simp only [sizeL];omega
   obtain ⟨r,hr⟩:∃ r,r=na[k]:=⟨_,rfl⟩
   rw [<- hr] at c1 c2 HT hbd
   clear hc hr
   obtain ⟨hd1,hd2,hd3⟩:=hbd
   go_wp2
   go_quiet (fail)
   go_wp2
   refine ⟨⟨k+1,q+nq,fz+r.2 - r.1+1,by omega,by go_num,by first | rfl | go_num,by rw [HT.out];omega,rfl⟩,by simp [intOf];omega⟩
  ·obtain rfl:k=na.length:=by omega
   go_wp2
   go_ret
   exact ⟨ret_int (by rw [HF.out,List.take_length]),below_drewN HW.out _⟩


end
end Go.Proofs.YtaekdgikgbdnnaaGreat
