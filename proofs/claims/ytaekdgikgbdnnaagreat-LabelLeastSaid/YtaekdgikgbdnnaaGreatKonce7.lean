/-
  PLAIN LAWS of the document's cut: single integers, rising, joined, are a normal list; no program.
  The reference's alone, ends, factor, same of layer 16, walked.
  The reference's times, stays of layer 16, walked.
-/
import Derived.Test.YtaekdgikgbdnnaaGreatKonce1
import Derived.Test.YtaekdgikgbdnnaaGreatKlin6
import Derived.Test.YtaekdgikgbdnnaaGreatKdom2
import Derived.Test.YtaekdgikgbdnnaaGreatKrel4
import Derived.Test.YtaekdgikgbdnnaaGreatKonce4
namespace Go.Proofs.YtaekdgikgbdnnaaGreat
section
theorem glue_ok {out:List Rg} {v:Int} (ho:Normal out) (hv:-200<=v/\v<=200) (hs:∀ q∈out,q.2<v):Normal (glue out (v,v))/\∀ q∈glue out (v,v),q.2<=v:=by
 rcases List.eq_nil_or_concat out with rfl | ⟨M,p,rfl⟩
 ·rw [glue_nil]
  exact ⟨⟨hv.1,Int.le_refl _,hv.2,trivial⟩,fun q hq=>by simp at hq;subst hq;exact Int.le_refl _⟩
 ·rw [List.concat_eq_append] at ho hs |-
  obtain ⟨n1,n2,n3,n4,n5⟩:=NormFrom.snoc.1 ho
  have hp:=hs p (by simp)
  rw [glue_snoc]
  dsimp only
  split
  ·refine ⟨NormFrom.snoc.2 ⟨n1,n2,by dsimp only;omega,by dsimp only;omega,n5⟩,fun q hq=>?_⟩
   rcases List.mem_append.1 hq with h | h
   ·have:=hs q (by simp [h]);omega
   ·simp at h;subst h;exact Int.le_refl _
  ·rename_i hne
   refine ⟨NormFrom.snoc.2 ⟨ho,by dsimp only;omega,Int.le_refl _,hv.2,fun q hq=>?_⟩,fun q hq=>?_⟩
   ·dsimp only
    rcases List.mem_append.1 hq with h | h
    ·have:=n5 q h;omega
    ·simp at h;subst h;omega
   ·rcases List.mem_append.1 hq with h | h
    ·have:=hs q h;omega
    ·simp at h;subst h;exact Int.le_refl _
def Rises (m:Int):List Rg->Prop
 | []=>True
 | r::G=>r.1=r.2/\m<r.1/\r.1<=200/\Rises r.1 G
theorem Rises.mono {m m':Int} (h:m'<=m):∀ {G:List Rg},Rises m G->Rises m' G
 | [],_=>trivial
 | _::_,⟨a,b,c,d⟩=>⟨a,by omega,c,d⟩
theorem fold_ok:∀ (G out:List Rg) (m:Int),-201<=m->Normal out->(∀ q∈out,q.2<=m)->Rises m G->Normal (G.foldl glue out)
 | [],_,_,_,ho,_,_=>ho
 | (a,b)::G,out,m,hm,ho,hs,⟨h1,h2,h3,h4⟩=>by
  dsimp only at h1 h2 h3 h4
  subst h1
  obtain ⟨g1,g2⟩:=glue_ok (v:=a) ho ⟨by omega,h3⟩ (fun q hq=>by have:=hs q hq;omega)
  exact fold_ok G _ a (by omega) g1 g2 h4
theorem rises_append:∀ {A B:List Rg} {m k:Int},Rises m A->(∀ r∈A,r.1<=k)->m<=k->Rises k B->Rises m (A++B)
 | [],_,_,_,_,_,h,hB=>hB.mono h
 | r::_,_,_,_,⟨a,b,c,d⟩,hk,_,hB=>⟨a,b,c,rises_append d (fun q hq=>hk q (List.mem_cons_of_mem _ hq)) (hk r (List.mem_cons_self ..)) hB⟩
theorem runG_le (p:Int->Bool) (lo:Int):∀ (n:Nat),∀ r∈runG p lo n,r.1<lo+n
 | 0,r,h=>by simp [runG] at h
 | n+1,r,h=>by
  rw [runG] at h
  rcases List.mem_append.1 h with h | h
  ·have:=runG_le p lo n r h;omega
  ·split at h
   ·simp at h;subst h;dsimp only;omega
   ·cases h
theorem runG_rises (p:Int->Bool) (lo m:Int) (hm:m<lo):∀ (n:Nat),lo+n<=201->Rises m (runG p lo n)
 | 0,_=>trivial
 | n+1,h=>by
  rw [runG]
  refine rises_append (k:=lo+n - 1) (runG_rises p lo m hm n (by omega)) (fun r hr=>by have:=runG_le p lo n r hr;omega) (by omega) ?_
  split
  ·exact ⟨rfl,by dsimp only;omega,by dsimp only;omega,trivial⟩
  ·trivial
theorem goneL_rises (p:Int->Bool):∀ (D:List Rg) (lo:Int),NormFrom lo D->Rises (lo - 1) (goneL p D)
 | [],_,_=>trivial
 | r::D,lo,⟨h1,h2,h3,h4⟩=>by
  have e:goneL p (r::D)=runG p r.1 (r.2+1 - r.1).toNat++goneL p D:=by unfold goneL;rw [List.flatMap_cons]
  rw [e]
  refine rises_append (k:=r.2) (runG_rises p r.1 (lo - 1) (by omega) _ (by omega)) (fun q hq=>by have:=runG_le p r.1 _ q hq;omega) (by omega) ?_
  exact (goneL_rises p D _ h4).mono (by omega)
theorem cut_glue (D:List Rg) (hD:Normal D) (p:Int->Bool):glueL (goneL p D)=canon fun v=>memL D v&&p v:=by
 have hN:Normal (glueL (goneL p D)):=fold_ok (goneL p D) [] (-201) (Int.le_refl _) trivial (fun q hq=>by cases hq) ((goneL_rises p D (-200) hD).mono (by omega))
 refine normal_unique hN (canon_normal _) (fun x=>?_)
 rw [(glueL_mem (goneL p D) (goneL_single p D)).1 x,goneL_mem,canon_mem]
 cases hm:memL D x with
 | false=>simp
 | true=>obtain ⟨h1,h2⟩:=memL_bounds hD hm;simp [h1,h2]
theorem hasW_at {v lo hi a b:Int} (k:Nat) (hk:k<(hi+1 - lo).toNat) (h1:a<=v * (lo+k)) (h2:v * (lo+k)<=b):hasW v lo hi a b=true:=by
 unfold hasW
 rw [List.any_eq_true]
 exact ⟨k,List.mem_range.2 hk,by simp [h1,h2]⟩
theorem hasW_none {v lo hi a b:Int} (h:∀ k:Nat,k<(hi+1 - lo).toNat->¬ (a<=v * (lo+k)/\v * (lo+k)<=b)):hasW v lo hi a b=false:=by
 unfold hasW
 rw [List.any_eq_false]
 intro k hk
 have:=h k (List.mem_range.1 hk)
 simpa using this
theorem diffOk_none {was:Ds} {l:List Int} {i:Nat} {v:Int} (k:Nat) (hk:k<l.length) (h1:k≠i) (h2:aloneL (domOf was (l.getD k 0)) v=true):diffOk was l i v=false:=by
 unfold diffOk
 rw [List.all_eq_false]
 exact ⟨k,List.mem_range.2 hk,by rw [h2];simp [h1]⟩
theorem diffOk_all {was:Ds} {l:List Int} {i:Nat} {v:Int} (h:∀ k,k<l.length->k≠i->aloneL (domOf was (l.getD k 0)) v=false):diffOk was l i v=true:=by
 unfold diffOk
 rw [List.all_eq_true]
 intro k hk
 by_cases e:k=i
 ·simp [e]
 ·rw [h k (List.mem_range.1 hk) e];simp
theorem loD_cons {r:Rg} {t:List Rg} (h:Normal (r::t)):loD (r::t)=r.1:=by unfold loD;rw [norm_of_normal h];rfl
theorem hiD_snoc {M:List Rg} {p:Rg} (h:Normal (M++[p])):hiD (M++[p])=p.2:=by
 unfold hiD
 rw [norm_of_normal h]
 cases M with
 | nil=>rfl
 | cons r M =>
  show (((r::M)++[p]).getLast (by simp)).2=p.2
  rw [List.getLast_concat]
theorem lohi_bnd {d:List Rg}:-200<=loD d/\loD d<=200/\-200<=hiD d/\hiD d<=200:=ends_bnd d
end
section
open Go.RowKit
set_option maxRecDepth 100000
theorem alone_c (vd:Value) (d:List Rg) (v:Int) (w:World) (hd:RgAt w vd d) (_hl:d.length<=4096) :
  Calls Tryz.prog 124 #[vd,.int .i64 v] w fun e w'=>e=.returned (.bool (aloneL d v))/\w=w':=by
 by_cases h1:d.length=1
 ·obtain ⟨⟨a,b⟩,rfl⟩:=List.length_eq_one_iff.1 h1
  obtain ⟨bk,off,cap,rfl,hc,hb,hx⟩:=hd.at (by simp)
  obtain ⟨x1,x2⟩:=hx 0 (by simp)
  simp only [List.getElem_cons_zero,Nat.zero_mul,Nat.add_zero] at x1 x2
  rw [show ([(a,b)]:List Rg).length=1 from rfl] at *
  have hA:Hid (aloneL [(a,b)] v=(decide (a=v)&&decide (b=v))):=by show _=_;unfold aloneL;rw [Bool.eq_iff_iff];simp
  clear hd hx
  by_cases e1:a=v
  ·by_cases e2:b=v
   ·have g1:(a==v)=true:=by simpa using e1
    have g2:(b==v)=true:=by simpa using e2
    have HA2:Hid (aloneL [(a,b)] v=true):=by show _=_;rw [hA.out];simp [e1,e2]
    clear e1 e2 hA
    go_enter Tryz.func124,Tryz.ntmps124
    go_wp2
    go_ret
    exact ⟨ret_bool HA2.out.symm,rfl⟩
   ·have g1:(a==v)=true:=by simpa using e1
    have g2:(b==v)=false:=by simpa using e2
    have HA2:Hid (aloneL [(a,b)] v=false):=by show _=_;rw [hA.out];simp [e2]
    clear e1 e2 hA
    go_enter Tryz.func124,Tryz.ntmps124
    go_wp2
    go_ret
    exact ⟨ret_bool HA2.out.symm,rfl⟩
  ·have g1:(a==v)=false:=by simpa using e1
   have HA2:Hid (aloneL [(a,b)] v=false):=by show _=_;rw [hA.out];simp [e1]
   clear e1 hA
   go_enter Tryz.func124,Tryz.ntmps124
   go_wp2
   go_ret
   exact ⟨ret_bool HA2.out.symm,rfl⟩
 ·obtain ⟨ao,cap,rfl,_⟩:=hd.shape
  have g1:((d.length:Int)==1)=false:=by simp;omega
  have HA2:Hid (aloneL d v=false):=by
   show _=_
   unfold aloneL
   simp only [decide_eq_false_iff_not]
   rintro rfl
   exact h1 rfl
  clear h1 hd
  go_enter Tryz.func124,Tryz.ntmps124
  go_wp2
  go_ret
  exact ⟨ret_bool HA2.out.symm,rfl⟩
theorem ends16_c (vd:Value) (d:List Rg) (w:World) (hd:RgAt w vd d) (hN:Normal d) (hne:d≠[]) :
  Calls Tryz.prog 130 #[vd] w fun e w'=>e=.returned (.tuple #[.int .i64 (loD d),.int .i64 (hiD d)])/\Below w.heap.size w w':=by
 obtain ⟨bk,off,cap,rfl,hc,hb,hx⟩:=hd.at (List.length_pos_iff.2 hne)
 have hl:=normal_len hN
 have HF:Hid (∃ x1 y2,loD d=x1/\hiD d=y2/\w.cell? ⟨bk,off,none⟩=some (.int .i64 x1)/\w.cell? ⟨bk,off+(d.length - 1) * 2+1,none⟩=some (.int .i64 y2)):=by
  rcases List.eq_nil_or_concat d with rfl | ⟨M,p,rfl⟩
  ·exact absurd rfl hne
  ·rw [List.concat_eq_append] at *
   have q2:=(hx M.length (by simp)).2
   have e2:(M++[p])[M.length]'(by simp)=p:=by simp
   rw [e2] at q2
   have q1:=(hx 0 (by simp)).1
   rw [Nat.zero_mul,Nat.add_zero] at q1
   refine ⟨_,_,rfl,hiD_snoc hN,?_,by rw [show (M++[p]).length - 1=M.length by simp];exact q2⟩
   rw [q1]
   congr 2
   cases M with
   | nil=>exact (loD_cons hN).symm
   | cons r M=>exact (loD_cons hN).symm
 obtain ⟨x1,y2,h1,h2,c1,c2⟩:=HF.out
 have H1:=hD h1
 have H2:=hD h2
 have hp:0<d.length:=List.length_pos_iff.2 hne
 obtain ⟨m,hm⟩:∃ m,d.length=m+1:=⟨d.length - 1,by omega⟩
 rw [hm] at c2 hc hl |-
 rw [Nat.add_sub_cancel] at c2
 clear HF h1 h2 hx hd hN hne hp hm
 have j1:(0:Int)<(m:Int)+1:=by omega
 have j2:(m:Int)<(m:Int)+1:=by omega
 go_enter Tryz.func130,Tryz.ntmps130
 go_wp2
 go_quiet (fail)
 go_wp2
 go_ret2
 exact ⟨by (rw [H1.out,H2.out] <;> rfl),below_drewN (Below.refl _ _) _⟩
theorem mul_bnd3 (x y:Int) (hx:-200<=x/\x<=200) (hy:-200<=y/\y<=200):-40000<=x * y/\x * y<=40000:=by have:=mul_bnd y x 200 hy hx;omega
set_option maxHeartbeats 800000
theorem factor_c (v lo hi a b:Int) (w:World) (hv:-200<=v/\v<=200) (h1:-200<=lo/\lo<=200) (h2:-200<=hi/\hi<=200) :
  Calls Tryz.prog 131 #[.int .i64 v,.int .i64 lo,.int .i64 hi,.int .i64 a,.int .i64 b] w fun e w'=>e=.returned (.bool (hasW v lo hi a b))/\w=w':=by
 have HN:=hD (fun h=>hasW_none (v:=v) (lo:=lo) (hi:=hi) (a:=a) (b:=b) h)
 have HA:=hD (fun k h=>hasW_at (v:=v) (lo:=lo) (hi:=hi) (a:=a) (b:=b) k h)
 generalize hasW v lo hi a b=R at *
 obtain ⟨l1,l2⟩:=h1
 obtain ⟨l3,l4⟩:=h2
 go_enter Tryz.func131,Tryz.ntmps131
 go_wp2
 go_loop [11] (fun s=>∃ k:Nat,k<=(hi+1 - lo).toNat/\s=.int .i64 (lo+k)/\Hid (∀ j:Nat,j<k->¬ (a<=v * (lo+j)/\v * (lo+j)<=b))) (fun s=>(hi+1 - intOf s).toNat)
 case atStart=>exact ⟨0,by omega,by simp,fun j hj=>by omega⟩
 case round =>
  obtain ⟨k,hk,rfl,HK⟩:=hrel
  by_cases hlt:lo+(k:Int)<=hi
  ·have hkn:k<(hi+1 - lo).toNat:=by omega
   obtain ⟨m1,m2⟩:=mul_bnd3 v (lo+k) hv ⟨by omega,by omega⟩
   have w1:=wrap_small (x:=v * (lo+k)) (by omega)
   have HAk:=hD (HA.out k hkn)
   have HS:Hid (¬ (a<=v * (lo+k)/\v * (lo+k)<=b)->∀ j:Nat,j<k+1->¬ (a<=v * (lo+j)/\v * (lo+j)<=b)):=fun h j hj=>by
    rcases (show j<k\/j=k by omega) with e | rfl
    ·exact HK.out j e
    ·exact h
   have ek:lo+(k:Int)+1=lo+((k+1:Nat):Int):=by omega
   generalize hz:v * (lo+(k:Int))=z at *
   clear HA HN
   by_cases g1:a<=z
   ·by_cases g2:z<=b
    ·have HR:=hD (HAk.out g1 g2)
     clear HAk HS HK
     go_wp2
     go_ret
     exact ⟨ret_bool HR.out.symm,rfl⟩
    ·have HS2:=hD (HS.out (fun h=>g2 h.2))
     clear HAk HS HK
     go_wp2
     go_round
     case rel=>exact ⟨k+1,by omega,by go_num,HS2⟩
     case measure=>simp [intOf];omega
   ·have HS2:=hD (HS.out (fun h=>g1 h.1))
    clear HAk HS HK
    go_wp2
    go_round
    case rel=>exact ⟨k+1,by omega,by go_num,HS2⟩
    case measure=>simp [intOf];omega
  ·have HR:=hD (HN.out (fun j hj=>HK.out j (by omega)))
   clear HN HA HK
   go_wp2
   go_ret
   exact ⟨ret_bool HR.out.symm,rfl⟩
theorem same16_c (va vb:Value) (a b:List Rg) (w:World) (ha:RgAt w va a) (hb:RgAt w vb b) (hla:a.length<=4096) :
  Calls Tryz.prog 97 #[va,vb] w fun e w'=>e=.returned (.bool (decide (a=b)))/\Below w.heap.size w w':=by
 obtain ⟨a0,c0,rfl,_⟩:=ha.shape
 obtain ⟨a1,c1,rfl,_⟩:=hb.shape
 have HA:=hD ha
 have HB:=hD hb
 clear ha hb
 by_cases hl:a.length=b.length
 ·have HL:=hD hl
  have g0:((a.length:Int) != b.length)=false:=by simp;omega
  have HW:=hD hl
  have hlb:b.length<=4096:=by omega
  clear hl
  go_enter Tryz.func97,Tryz.ntmps97
  go_wp2
  go_loopw [5] (fun s wr=>∃ k:Nat,k<=a.length/\s=.int .i64 k/\Hid (a.take k=b.take k)/\Below w.heap.size w wr) (fun s _=>a.length - (intOf s).toNat)
  case atStart=>exact ⟨0,by omega,rfl,rfl,Below.refl _ _⟩
  case round =>
   obtain ⟨k,hk,rfl,HK,hbel⟩:=hrel
   have HBW:=hD hbel
   clear hbel
   by_cases hlt:k<a.length
   ·obtain ⟨b0,o0,q0,he0,hq0,hb0,hx0⟩:=RgAt.at HA.out (by omega)
    obtain ⟨b1,o1,q1,he1,hq1,hb1,hx1⟩:=RgAt.at HB.out (by have:=HL.out;omega)
    simp only [Value.slice.injEq,true_and] at he0 he1
    obtain ⟨rfl,rfl⟩:=he0
    obtain ⟨rfl,rfl⟩:=he1
    have hkb:k<b.length:=by have:=HL.out;omega
    obtain ⟨x1,x2⟩:=hx0 k hlt
    obtain ⟨y1,y2⟩:=hx1 k hkb
    rw [<- HBW.out.cell (p:=⟨b0,o0+k * 2,none⟩) hb0] at x1
    rw [<- HBW.out.cell (p:=⟨b0,o0+k * 2+1,none⟩) hb0] at x2
    rw [<- HBW.out.cell (p:=⟨b1,o1+k * 2,none⟩) hb1] at y1
    rw [<- HBW.out.cell (p:=⟨b1,o1+k * 2+1,none⟩) hb1] at y2
    have S1:Hid (a[k]=b[k]->a.take (k+1)=b.take (k+1)):=fun h=>by rw [List.take_succ_eq_append_getElem hlt,List.take_succ_eq_append_getElem hkb,HK.out,h]
    have S2:Hid (a[k]≠b[k]->decide (a=b)=false):=fun h=>by
     simp only [decide_eq_false_iff_not]
     rintro rfl
     exact h rfl
    have j1:(k:Int)<a.length:=by omega
    have j2:(k:Int)<b.length:=by omega
    clear hx0 hx1 HK
    generalize a[k]=r at *
    generalize b[k]=s at *
    have f1:=neqRg r s
    have f2:=guardRg .neq
    by_cases e:r=s
    ·have HS:=hD (S1.out e)
     have g1:decide (r≠s)=false:=by simp [e]
     clear S1 S2 e
     go_wp2
     go_quiet (fail)
     go_wp2
     exact ⟨⟨k+1,by omega,by go_num,HS,below_drewN HBW.out _⟩,by simp [intOf];omega⟩
    ·have HS:=hD (S2.out e)
     have g1:decide (r≠s)=true:=by simp [e]
     clear S1 S2 e
     go_wp2
     go_quiet (fail)
     go_wp2
     go_ret
     exact ⟨ret_bool HS.out.symm,below_drewN HBW.out _⟩
   ·obtain rfl:k=a.length:=by omega
    have HS:Hid (decide (a=b)=true):=by
     have h:=HK.out
     rw [List.take_length,HL.out,List.take_length] at h
     show _=_
     simpa using h
    go_wp2
    go_ret
    exact ⟨ret_bool HS.out.symm,HBW.out⟩
 ·have g0:((a.length:Int) != b.length)=true:=by simp;omega
  have HS:Hid (decide (a=b)=false):=by
   show _=_
   simp only [decide_eq_false_iff_not]
   rintro rfl
   exact hl rfl
  clear hl
  go_enter Tryz.func97,Tryz.ntmps97
  go_wp2
  go_ret
  exact ⟨ret_bool HS.out.symm,Below.refl _ _⟩
@[go_sem] theorem run_min_int4 {P:Program} {w:World} (ts:Array TypeId) (t:TypeId) (k k' k'' k3:IntKind) (x y z u:Int):(Builtin.min_ ts t #[.int k x,.int k' y,.int k'' z,.int k3 u]).run P w=.ok (.int k (min (min (min x y) z) u)) w:=by
 have e:∀ a b:Int,(if b<a then b else a)=min a b:=fun a b=>by rw [Int.min_def];split <;> split <;> omega
 simp [Builtin.min_,Builtin.min2,e]
@[go_sem] theorem run_max_int4 {P:Program} {w:World} (ts:Array TypeId) (t:TypeId) (k k' k'' k3:IntKind) (x y z u:Int):(Builtin.max_ ts t #[.int k x,.int k' y,.int k'' z,.int k3 u]).run P w=.ok (.int k (max (max (max x y) z) u)) w:=by
 have e:∀ a b:Int,(if b > a then b else a)=max a b:=fun a b=>by rw [Int.max_def];split <;> split <;> omega
 simp [Builtin.max_,Builtin.max2,e]
set_option maxHeartbeats 3200000
theorem times_c (kind:Int) (a0 a1 a2:Option Addr) (n0 n1 n2 c0 c1 c2:Nat) (rel c:Int) (nx ny nz:Nat) (vds:Value) (was:Ds) (place:Nat) (v:Int) (w:World) (hd:DsAt w vds was)
  (hx:nx<was.length) (hy:ny<was.length) (hz:nz<was.length) (hdl:was.length<=4096) (hN:AllN was) (ex:was[nx]≠[]) (ey:was[ny]≠[]) (ez:was[nz]≠[]) (hv:-200<=v/\v<=200) :
  Calls Tryz.prog 123 #[.agg #[.int .i64 kind,.slice a0 n0 c0,.slice a1 n1 c1,.int .i64 rel,.int .i64 c,.int .i64 nx,.int .i64 ny,.int .i64 nz,.slice a2 n2 c2],vds,.int .i64 place,.int .i64 v] w
   fun e w'=>e=.returned (.bool (timesL was nx ny nz place v))/\Below w.heap.size w w':=by
 obtain ⟨bd,od,cd,rfl,hdc,hbd,hh⟩:=hd.at (by omega)
 obtain ⟨ux,kx,rx⟩:=hh nx hx
 obtain ⟨uy,ky,ry⟩:=hh ny hy
 obtain ⟨uz,kz,rz⟩:=hh nz hz
 obtain ⟨ax,px,rfl,sx⟩:=rx.shape
 obtain ⟨ay,py,rfl,sy⟩:=ry.shape
 obtain ⟨az,pz,rfl,sz⟩:=rz.shape
 clear sx sy sz
 have CX:Hid (∀ W,Below w.heap.size w W->Calls Tryz.prog 130 #[.slice ax was[nx].length px] W fun e w'=>e=.returned (.tuple #[.int .i64 (loD was[nx]),.int .i64 (hiD was[nx])])/\Below W.heap.size W w'):=fun W h=>ends16_c _ _ W (rx.below h) (allN_at hN hx) ex
 have CY:Hid (∀ W,Below w.heap.size w W->Calls Tryz.prog 130 #[.slice ay was[ny].length py] W fun e w'=>e=.returned (.tuple #[.int .i64 (loD was[ny]),.int .i64 (hiD was[ny])])/\Below W.heap.size W w'):=fun W h=>ends16_c _ _ W (ry.below h) (allN_at hN hy) ey
 have CZ:Hid (∀ W,Below w.heap.size w W->Calls Tryz.prog 130 #[.slice az was[nz].length pz] W fun e w'=>e=.returned (.tuple #[.int .i64 (loD was[nz]),.int .i64 (hiD was[nz])])/\Below W.heap.size W w'):=fun W h=>ends16_c _ _ W (rz.below h) (allN_at hN hz) ez
 have HF:Hid (∀ W,Below (w.alloc (.cells #[.int .i64 kind,.slice a0 n0 c0,.slice a1 n1 c1,.int .i64 rel,.int .i64 c,.int .i64 nx,.int .i64 ny,.int .i64 nz,.slice a2 n2 c2] 67)).heap.size (w.alloc (.cells #[.int .i64 kind,.slice a0 n0 c0,.slice a1 n1 c1,.int .i64 rel,.int .i64 c,.int .i64 nx,.int .i64 ny,.int .i64 nz,.slice a2 n2 c2] 67)) W ->
   Below w.heap.size w W/\W.cell? ⟨w.heap.size,5,none⟩=some (.int .i64 nx)/\W.cell? ⟨w.heap.size,6,none⟩=some (.int .i64 ny)/\W.cell? ⟨w.heap.size,7,none⟩=some (.int .i64 nz) /\
   W.cell? ⟨bd,od+nx,none⟩=some (.slice ax was[nx].length px)/\W.cell? ⟨bd,od+ny,none⟩=some (.slice ay was[ny].length py)/\W.cell? ⟨bd,od+nz,none⟩=some (.slice az was[nz].length pz)):=fun W h=>by
  have hb:Below w.heap.size w W:=(bA _).trans (h.mono (by simp))
  obtain ⟨_,_,_,_,_,f5,f6,f7,_⟩:=box9 h
  exact ⟨hb,f5,f6,f7,(hb.cell (p:=⟨bd,od+nx,none⟩) hbd).trans kx,(hb.cell (p:=⟨bd,od+ny,none⟩) hbd).trans ky,(hb.cell (p:=⟨bd,od+nz,none⟩) hbd).trans kz⟩
 have HZ:Hid (Below w.heap.size w (w.alloc (.cells #[.int .i64 kind,.slice a0 n0 c0,.slice a1 n1 c1,.int .i64 rel,.int .i64 c,.int .i64 nx,.int .i64 ny,.int .i64 nz,.slice a2 n2 c2] 67))):=bA _
 have CF:Hid (∀ lo hi a b:Int,(-200<=lo/\lo<=200)->(-200<=hi/\hi<=200)->∀ W,Calls Tryz.prog 131 #[.int .i64 v,.int .i64 lo,.int .i64 hi,.int .i64 a,.int .i64 b] W fun e w'=>e=.returned (.bool (hasW v lo hi a b))/\W=w'):=fun lo hi a b h1 h2 W=>factor_c v lo hi a b W hv h1 h2
 obtain ⟨q1,q2,q3,q4⟩:=lohi_bnd (d:=was[nx])
 obtain ⟨q5,q6,q7,q8⟩:=lohi_bnd (d:=was[ny])
 have HL:Hid (timesL was nx ny nz place v=if place=0 then hasW v (loD was[ny]) (hiD was[ny]) (loD was[nz]) (hiD was[nz]) else if place=1 then hasW v (loD was[nx]) (hiD was[nx]) (loD was[nz]) (hiD was[nz]) else
   (decide (min4 (loD was[nx] * loD was[ny]) (loD was[nx] * hiD was[ny]) (hiD was[nx] * loD was[ny]) (hiD was[nx] * hiD was[ny])<=v)&&decide (v<=max4 (loD was[nx] * loD was[ny]) (loD was[nx] * hiD was[ny]) (hiD was[nx] * loD was[ny]) (hiD was[nx] * hiD was[ny])))):=by
  show _=_
  unfold timesL
  rw [domOf_nat hx,domOf_nat hy,domOf_nat hz]
  split
  ·rfl
  ·split
   ·rfl
   ·simp [prodR,memL]
 have hbx:bd≠w.heap.size:=by omega
 have j1:(nx:Int)<was.length:=by omega
 have j2:(ny:Int)<was.length:=by omega
 have j3:(nz:Int)<was.length:=by omega
 clear hd hh rx ry rz hN ex ey ez hv
 generalize timesL was nx ny nz place v=R at *
 generalize was[nx]=dx at *
 generalize was[ny]=dy at *
 generalize was[nz]=dz at *
 clear hx hy hz
 generalize loD dx=x1 at *
 generalize hiD dx=x2 at *
 generalize loD dy=y1 at *
 generalize hiD dy=y2 at *
 generalize loD dz=z1 at *
 generalize hiD dz=z2 at *
 generalize dx.length=lx at *
 generalize dy.length=ly at *
 generalize dz.length=lz at *
 generalize was.length=ld at *
 obtain ⟨m1,m2⟩:=mul_bnd3 x1 y1 ⟨q1,q2⟩ ⟨q5,q6⟩
 obtain ⟨m3,m4⟩:=mul_bnd3 x1 y2 ⟨q1,q2⟩ ⟨q7,q8⟩
 obtain ⟨m5,m6⟩:=mul_bnd3 x2 y1 ⟨q3,q4⟩ ⟨q5,q6⟩
 obtain ⟨m7,m8⟩:=mul_bnd3 x2 y2 ⟨q3,q4⟩ ⟨q7,q8⟩
 have s1:=wrap_small (x:=x1 * y1) (by omega)
 have s2:=wrap_small (x:=x1 * y2) (by omega)
 have s3:=wrap_small (x:=x2 * y1) (by omega)
 have s4:=wrap_small (x:=x2 * y2) (by omega)
 by_cases p0:place=0
 ·subst p0
  have HR:Hid (R=hasW v y1 y2 z1 z2):=by show _=_;rw [HL.out,if_pos rfl]
  have CF2:=hD (CF.out y1 y2 z1 z2 ⟨q5,q6⟩ ⟨q7,q8⟩)
  clear HL CF m1 m2 m3 m4 m5 m6 m7 m8 s1 s2 s3 s4
  generalize hasW v y1 y2 z1 z2=h at *
  go_enter Tryz.func123,Tryz.ntmps123
  go_wp2_with (first
   | (go_at_call 130;(with_reducible refine (CX.out _ HZ.out).mono ?_);rintro e W1 ⟨rfl,bb⟩;have B1:=hD bb;obtain ⟨hw1,f5,f6,f7,g5,g6,g7⟩:=HF.out _ B1.out;have HW1:=hD hw1;clear bb hw1)
   | (go_at_call 130;(with_reducible refine (CY.out _ HW1.out).mono ?_);rintro e W2 ⟨rfl,bb⟩;have B2:=hD (bT B1.out bb);obtain ⟨hw2,i5,i6,i7,k5,k6,k7⟩:=HF.out _ B2.out;have HW2:=hD hw2;clear bb hw2)
   | (go_at_call 130;(with_reducible refine (CZ.out _ HW2.out).mono ?_);rintro e W3 ⟨rfl,bb⟩;have B3:=hD (bT HW2.out bb);clear bb)
   | (go_at_call 131;(with_reducible refine (CF2.out _).mono ?_);rintro e W4 ⟨rfl,rfl⟩))
  go_ret
  exact ⟨ret_bool HR.out.symm,B3.out⟩
 by_cases p1:place=1
 ·subst p1
  have HR:Hid (R=hasW v x1 x2 z1 z2):=by show _=_;rw [HL.out,if_neg (by decide),if_pos rfl]
  have CF2:=hD (CF.out x1 x2 z1 z2 ⟨q1,q2⟩ ⟨q3,q4⟩)
  clear HL CF m1 m2 m3 m4 m5 m6 m7 m8 s1 s2 s3 s4 p0
  generalize hasW v x1 x2 z1 z2=h at *
  go_enter Tryz.func123,Tryz.ntmps123
  go_wp2_with (first
   | (go_at_call 130;(with_reducible refine (CX.out _ HZ.out).mono ?_);rintro e W1 ⟨rfl,bb⟩;have B1:=hD bb;obtain ⟨hw1,f5,f6,f7,g5,g6,g7⟩:=HF.out _ B1.out;have HW1:=hD hw1;clear bb hw1)
   | (go_at_call 130;(with_reducible refine (CY.out _ HW1.out).mono ?_);rintro e W2 ⟨rfl,bb⟩;have B2:=hD (bT B1.out bb);obtain ⟨hw2,i5,i6,i7,k5,k6,k7⟩:=HF.out _ B2.out;have HW2:=hD hw2;clear bb hw2)
   | (go_at_call 130;(with_reducible refine (CZ.out _ HW2.out).mono ?_);rintro e W3 ⟨rfl,bb⟩;have B3:=hD (bT HW2.out bb);clear bb)
   | (go_at_call 131;(with_reducible refine (CF2.out _).mono ?_);rintro e W4 ⟨rfl,rfl⟩))
  go_ret
  exact ⟨ret_bool HR.out.symm,B3.out⟩
 have HR:Hid (R=(decide (min4 (x1 * y1) (x1 * y2) (x2 * y1) (x2 * y2)<=v)&&decide (v<=max4 (x1 * y1) (x1 * y2) (x2 * y1) (x2 * y2)))):=by show _=_;rw [HL.out,if_neg p0,if_neg p1]
 have g0:((place:Int)==0)=false:=by simp;omega
 have g1:((place:Int)==1)=false:=by simp;omega
 clear HL CF p0 p1
 generalize hr1:x1 * y1=r1 at *
 generalize hr2:x1 * y2=r2 at *
 generalize hr3:x2 * y1=r3 at *
 generalize hr4:x2 * y2=r4 at *
 have HM:Hid (min (min (min r1 r2) r3) r4=min4 r1 r2 r3 r4/\max (max (max r1 r2) r3) r4=max4 r1 r2 r3 r4):=⟨rfl,rfl⟩
 generalize min4 r1 r2 r3 r4=mm at *
 generalize max4 r1 r2 r3 r4=MM at *
 have eM1:=HM.out.1
 have eM2:=HM.out.2
 by_cases h1:mm<=v
 ·go_enter Tryz.func123,Tryz.ntmps123
  go_wp2_with (first
   | (go_at_call 130;(with_reducible refine (CX.out _ HZ.out).mono ?_);rintro e W1 ⟨rfl,bb⟩;have B1:=hD bb;obtain ⟨hw1,f5,f6,f7,g5,g6,g7⟩:=HF.out _ B1.out;have HW1:=hD hw1;clear bb hw1)
   | (go_at_call 130;(with_reducible refine (CY.out _ HW1.out).mono ?_);rintro e W2 ⟨rfl,bb⟩;have B2:=hD (bT B1.out bb);obtain ⟨hw2,i5,i6,i7,k5,k6,k7⟩:=HF.out _ B2.out;have HW2:=hD hw2;clear bb hw2)
   | (go_at_call 130;(with_reducible refine (CZ.out _ HW2.out).mono ?_);rintro e W3 ⟨rfl,bb⟩;have B3:=hD (bT HW2.out bb);clear bb))
  go_ret
  exact ⟨ret_bool (by rw [HR.out,Bool.eq_iff_iff];simp only [Bool.and_eq_true,decide_eq_true_eq];omega),B3.out⟩
 ·go_enter Tryz.func123,Tryz.ntmps123
  go_wp2_with (first
   | (go_at_call 130;(with_reducible refine (CX.out _ HZ.out).mono ?_);rintro e W1 ⟨rfl,bb⟩;have B1:=hD bb;obtain ⟨hw1,f5,f6,f7,g5,g6,g7⟩:=HF.out _ B1.out;have HW1:=hD hw1;clear bb hw1)
   | (go_at_call 130;(with_reducible refine (CY.out _ HW1.out).mono ?_);rintro e W2 ⟨rfl,bb⟩;have B2:=hD (bT B1.out bb);obtain ⟨hw2,i5,i6,i7,k5,k6,k7⟩:=HF.out _ B2.out;have HW2:=hD hw2;clear bb hw2)
   | (go_at_call 130;(with_reducible refine (CZ.out _ HW2.out).mono ?_);rintro e W3 ⟨rfl,bb⟩;have B3:=hD (bT HW2.out bb);clear bb))
  go_ret
  exact ⟨ret_bool (by rw [HR.out,Bool.eq_iff_iff];simp only [Bool.and_eq_true,decide_eq_true_eq,Bool.false_eq_true,false_iff];omega),B3.out⟩
theorem DsAt.cells {w:World} {v:Value} {ds:Ds} (h:DsAt w v ds) (hp:0<ds.length):∃ b off cap,v=.slice (some ⟨b,off,none⟩) ds.length cap/\ds.length<=cap/\b<w.heap.size /\
  ∀ j,(hj:j<ds.length)->∃ ao c,w.cell? ⟨b,off+j,none⟩=some (.slice ao ds[j].length c)/\RgAt w (.slice ao ds[j].length c) ds[j]:=by
 obtain ⟨b,off,cap,rfl,h1,h2,h3⟩:=h.at hp
 refine ⟨b,off,cap,rfl,h1,h2,fun j hj=>?_⟩
 obtain ⟨u,e1,e2⟩:=h3 j hj
 obtain ⟨ao,c,rfl,_⟩:=e2.shape
 exact ⟨ao,c,e1,e2⟩
theorem stays3_c (a0 a1:Option Addr) (n0 n1 c0 c1:Nat) (vv:Value) (rel c x y z:Int) (vs:List Int) (vds:Value) (was:Ds) (s:Int) (i:Nat) (v:Int) (w:World) (h2:IsAt w vv vs) (hd:DsAt w vds was)
  (hvs:∀ u∈vs,0<=u/\u.toNat<was.length) (hl2:vs.length<=4096) (hdl:was.length<=4096) (hN:AllN was) :
  Calls Tryz.prog 110 #[.agg #[.int .i64 3,.slice a0 n0 c0,.slice a1 n1 c1,.int .i64 rel,.int .i64 c,.int .i64 x,.int .i64 y,.int .i64 z,vv],vds,.int .i64 s,.int .i64 i,.int .i64 v] w
   fun e w'=>e=.returned (.bool (diffOk was vs i v))/\Below w.heap.size w w':=by
 obtain ⟨a2,c2,rfl,_⟩:=SlAt.shape h2
 obtain ⟨ad,cd,rfl,_⟩:=hd.shape
 have H2:=hD h2
 have HD:=hD hd
 have HV:=hD hvs
 have HN:=hD hN
 have HAll:=hD (fun h=>diffOk_all (was:=was) (l:=vs) (i:=i) (v:=v) h)
 have HNo:=hD (fun k h=>diffOk_none (was:=was) (l:=vs) (i:=i) (v:=v) k h)
 clear h2 hd hvs hN
 generalize diffOk was vs i v=R at *
 go_enter Tryz.func110,Tryz.ntmps110
 go_wp2
 have HZ:Hid (Below w.heap.size w (w.alloc (.cells #[.int .i64 3,.slice a0 n0 c0,.slice a1 n1 c1,.int .i64 rel,.int .i64 c,.int .i64 x,.int .i64 y,.int .i64 z,.slice a2 vs.length c2] 67))/\(w.alloc (.cells #[.int .i64 3,.slice a0 n0 c0,.slice a1 n1 c1,.int .i64 rel,.int .i64 c,.int .i64 x,.int .i64 y,.int .i64 z,.slice a2 vs.length c2] 67)).cell? ⟨w.heap.size,8,none⟩=some (.slice a2 vs.length c2)) :=
  ⟨bA _,(box9 (Below.refl _ _)).2.2.2.2.2.2.2.2⟩
 generalize (w.alloc (.cells #[.int .i64 3,.slice a0 n0 c0,.slice a1 n1 c1,.int .i64 rel,.int .i64 c,.int .i64 x,.int .i64 y,.int .i64 z,.slice a2 vs.length c2] 67))=W at HZ |-
 have y8:=HZ.out.2
 go_loop [11] (fun q=>∃ k:Nat,k<=vs.length/\q=.int .i64 k/\Hid (∀ j,j<k->j≠i->aloneL (domOf was (vs.getD j 0)) v=false)) (fun q=>vs.length - (intOf q).toNat)
 case atStart=>exact ⟨0,by omega,rfl,fun j hj=>by omega⟩
 case round =>
  obtain ⟨k,hk,rfl,HK⟩:=hrel
  by_cases hlt:k<vs.length
  ·obtain ⟨b1,o1,rfl,q1,q2,x1⟩:=IsAt.get H2.out k hlt
   have hvk:=HV.out vs[k] (List.getElem_mem hlt)
   obtain ⟨n,hn⟩:=Int.eq_ofNat_of_zero_le hvk.1
   have hnl:n<was.length:=by have:=hvk.2;omega
   obtain ⟨b2,o2,cd',he,d1,d2,d3⟩:=HD.out.cells (by omega)
   simp only [Value.slice.injEq,true_and] at he
   obtain ⟨rfl,rfl⟩:=he
   obtain ⟨ao,co,x2,r2⟩:=d3 n hnl
   rw [hn] at x1
   have HS:Hid ((aloneL was[n] v=true->k≠i->R=false)/\(k=i\/aloneL was[n] v=false->∀ j,j<k+1->j≠i->aloneL (domOf was (vs.getD j 0)) v=false)):=by
    have e:domOf was (vs.getD k 0)=was[n]:=by
     rw [List.getD_eq_getElem?_getD,List.getElem?_eq_getElem hlt]
     show domOf was vs[k]=_
     rw [hn,domOf_nat hnl]
    refine ⟨fun h hne=>HNo.out k hlt hne (by rw [e];exact h),fun h j hj hji=>?_⟩
    rcases (show j<k\/j=k by omega) with h1 | rfl
    ·exact HK.out j h1 hji
    ·rw [e]
     rcases h with h | h
     ·exact absurd h hji
     ·exact h
   have HB0:=hD HZ.out.1
   have CA:Hid (Calls Tryz.prog 124 #[.slice ao was[n].length co,.int .i64 v] W fun e w'=>e=.returned (.bool (aloneL was[n] v))/\W=w'):=alone_c _ _ v W (r2.below HB0.out) (by have:=normal_len (allN_at HN.out hnl);omega)
   rw [<- HB0.out.cell (p:=⟨b1,o1+k,none⟩) q2] at x1
   rw [<- HB0.out.cell (p:=⟨b2,o2+n,none⟩) d2] at x2
   have j1:(k:Int)<vs.length:=by omega
   have j2:(n:Int)<was.length:=by omega
   clear HNo HAll HK d3 r2 hvk hn
   generalize aloneL was[n] v=al at *
   generalize was[n].length=ln at *
   by_cases hki:k=i
   ·have hne:((k:Int) != (i:Int))=false:=by simp;omega
    have HK2:=hD (HS.out.2 (.inl hki))
    clear HS hki
    go_wp2
    go_round
    case rel=>exact ⟨k+1,by omega,by go_num,HK2⟩
    case measure=>simp [intOf];omega
   ·have hne:((k:Int) != (i:Int))=true:=by simp;omega
    cases al with
    | true =>
     have HR:=hD (HS.out.1 rfl hki)
     clear HS hki
     go_wp2_with (go_at_call 124;(with_reducible refine CA.out.mono ?_);rintro e W2 ⟨rfl,rfl⟩)
     go_ret
     exact ⟨ret_bool HR.out.symm,HB0.out⟩
    | false =>
     have HK2:=hD (HS.out.2 (.inr rfl))
     clear HS hki
     go_wp2_with (go_at_call 124;(with_reducible refine CA.out.mono ?_);rintro e W2 ⟨rfl,rfl⟩)
     go_round
     case rel=>exact ⟨k+1,by omega,by go_num,HK2⟩
     case measure=>simp [intOf];omega
  ·have HR:=hD (HAll.out (fun j hj=>HK.out j (by omega)))
   have HB0:=hD HZ.out.1
   clear HAll HNo HK
   obtain rfl:k=vs.length:=by omega
   go_wp2
   go_ret
   exact ⟨ret_bool HR.out.symm,HB0.out⟩
theorem stays2_c (a0 a1 a2:Option Addr) (n0 n1 n2 c0 c1 c2:Nat) (rel c:Int) (nx ny nz:Nat) (vds:Value) (was:Ds) (s:Int) (place:Nat) (v:Int) (w:World) (hd:DsAt w vds was)
  (hx:nx<was.length) (hy:ny<was.length) (hz:nz<was.length) (hdl:was.length<=4096) (hN:AllN was) (ex:was[nx]≠[]) (ey:was[ny]≠[]) (ez:was[nz]≠[]) (hv:-200<=v/\v<=200) :
  Calls Tryz.prog 110 #[.agg #[.int .i64 2,.slice a0 n0 c0,.slice a1 n1 c1,.int .i64 rel,.int .i64 c,.int .i64 nx,.int .i64 ny,.int .i64 nz,.slice a2 n2 c2],vds,.int .i64 s,.int .i64 place,.int .i64 v] w
   fun e w'=>e=.returned (.bool (timesL was nx ny nz place v))/\Below w.heap.size w w':=by
 obtain ⟨ad,cd,rfl,_⟩:=hd.shape
 have CT:Hid (∀ W,Below w.heap.size w W->Calls Tryz.prog 123 #[.agg #[.int .i64 2,.slice a0 n0 c0,.slice a1 n1 c1,.int .i64 rel,.int .i64 c,.int .i64 nx,.int .i64 ny,.int .i64 nz,.slice a2 n2 c2],.slice ad was.length cd,.int .i64 place,.int .i64 v] W
   fun e w'=>e=.returned (.bool (timesL was nx ny nz place v))/\Below W.heap.size W w'):=fun W h=>times_c 2 a0 a1 a2 n0 n1 n2 c0 c1 c2 rel c nx ny nz _ was place v W (hd.below h) hx hy hz hdl hN ex ey ez hv
 have HZ:Hid (∀ o,Below w.heap.size w (w.alloc o)):=fun o=>bA _
 clear hd hN ex ey ez hv hx hy hz
 generalize timesL was nx ny nz place v=R at *
 go_enter Tryz.func110,Tryz.ntmps110
 go_wp2_with (go_at_call 123;(with_reducible refine (CT.out _ (HZ.out _)).mono ?_);rintro e W2 ⟨rfl,bb⟩;have B2:=hD ((HZ.out _).trans (bb.mono (HZ.out _).size));clear bb)
 go_ret
 exact ⟨rfl,B2.out⟩
theorem stays4_c (a0 a1 a2:Option Addr) (n0 n1 n2 c0 c1 c2:Nat) (rel c x y z:Int) (ad:Option Addr) (nd cd:Nat) (s:Int) (i:Nat) (v:Int) (w:World) :
  Calls Tryz.prog 110 #[.agg #[.int .i64 4,.slice a0 n0 c0,.slice a1 n1 c1,.int .i64 rel,.int .i64 c,.int .i64 x,.int .i64 y,.int .i64 z,.slice a2 n2 c2],.slice ad nd cd,.int .i64 s,.int .i64 i,.int .i64 v] w
   fun e w'=>e=.returned (.bool (reifOk s i v))/\Below w.heap.size w w':=by
 have HZ:Hid (∀ o,Below w.heap.size w (w.alloc o)):=fun o=>bA _
 obtain ⟨R,hR⟩:∃ R,R=reifOk s i v:=⟨_,rfl⟩
 rw [<- hR]
 unfold reifOk at hR
 have HR:=hD hR
 clear hR
 by_cases h0:i=0
 ·subst h0
  by_cases h1:v=1
  ·subst h1
   by_cases h2:-1<s
   ·go_enter Tryz.func110,Tryz.ntmps110
    go_wp2
    go_ret
    exact ⟨ret_bool (by rw [HR.out];simp [h2]),HZ.out _⟩
   ·go_enter Tryz.func110,Tryz.ntmps110
    go_wp2
    go_ret
    exact ⟨ret_bool (by rw [HR.out];simp [h2]),HZ.out _⟩
  ·have e1:(v==1)=false:=by simpa using h1
   by_cases h3:v=0
   ·subst h3
    go_enter Tryz.func110,Tryz.ntmps110
    go_wp2
    go_ret
    exact ⟨ret_bool (by rw [HR.out];simp),HZ.out _⟩
   ·have e3:(v==0)=false:=by simpa using h3
    go_enter Tryz.func110,Tryz.ntmps110
    go_wp2
    go_ret
    exact ⟨ret_bool (by rw [HR.out];simp [h1,h3]),HZ.out _⟩
 ·have h0':(0:Int)<(i:Int):=by omega
  go_enter Tryz.func110,Tryz.ntmps110
  go_wp2
  go_ret
  exact ⟨ret_bool (by rw [HR.out];simp;omega),HZ.out _⟩
end
end Go.Proofs.YtaekdgikgbdnnaaGreat
