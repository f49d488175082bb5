/-
  PLAIN LAWS of constraints over sets: what a constraint says once; no program.
  PLAIN LAWS: the document's way to say a constraint once comes to the same.
  PLAIN LAWS: what a constraint says once loses no values for which it holds; of single integers it says whether it holds; of smaller sets it says smaller ones.
  PLAIN LAWS: of single integers a constraint says whether it holds for them; of smaller sets it says smaller ones, or nothing.
-/
import Derived.Test.YtaekdgikgbdnnaaGreatKlin2
import Derived.Test.YtaekdgikgbdnnaaGreatKrel1
namespace Go.Proofs.YtaekdgikgbdnnaaGreat
section
abbrev Ks:=List (Int×List Rg)
def keepL (out:Ds) (k:Int×List Rg):Ds:=out.set k.1.toNat (meetL (domOf out k.1) k.2)
def keepsL (ks:Ks) (out:Ds):Ds:=ks.foldl keepL out
theorem keepsL_append (a b:Ks) (out:Ds):keepsL (a++b) out=keepsL b (keepsL a out):=by unfold keepsL;rw [List.foldl_append]
theorem keepsL_snoc (a:Ks) (k:Int×List Rg) (out:Ds):keepsL (a++[k]) out=keepL (keepsL a out) k:=by rw [keepsL_append];rfl
theorem keepL_len (out:Ds) (k:Int×List Rg):(keepL out k).length=out.length:=by simp [keepL]
theorem keepsL_len:∀ (ks:Ks) (out:Ds),(keepsL ks out).length=out.length
 | [],_=>rfl
 | k::ks,out=>by show (keepsL ks (keepL out k)).length=_;rw [keepsL_len ks,keepL_len]
def AllN (ds:Ds):Prop:=∀ j,Normal (ds.getD j [])
theorem allN_norm (ds:Ds):AllN (ds.map norm):=fun j=>by rw [getD_map_norm];exact norm_normal _
theorem meetL_normal (a b:List Rg):Normal (meetL a b):=canon_normal _
theorem meetL_mem {a:List Rg} (h:Normal a) (b:List Rg) (x:Int):memL (meetL a b) x=(memL a x&&memL b x):=by
 unfold meetL
 rw [canon_mem]
 cases hm:memL a x with
 | false=>simp
 | true =>
  obtain ⟨h1,h2⟩:=memL_bounds h hm
  simp [h1,h2]
theorem allN_set {out:Ds} (h:AllN out) (k:Nat) {d:List Rg} (hd:Normal d):AllN (out.set k d):=fun j=>by
 rw [getD_set]
 split
 ·exact hd
 ·exact h j
theorem allN_keep {out:Ds} (h:AllN out) (k:Int×List Rg):AllN (keepL out k):=allN_set h _ (meetL_normal _ _)
theorem allN_keeps:∀ (ks:Ks) {out:Ds},AllN out->AllN (keepsL ks out)
 | [],_,h=>h
 | k::ks,_,h=>allN_keeps ks (allN_keep h k)
theorem keepL_mem {out:Ds} (h:AllN out) (k:Int×List Rg) (j:Nat) (hj:j<out.length) (x:Int) :
  memL ((keepL out k).getD j []) x=(memL (out.getD j []) x&&(!decide (k.1.toNat=j)||memL k.2 x)):=by
 unfold keepL
 rw [getD_set]
 by_cases e:k.1.toNat=j
 ·rw [if_pos ⟨e,hj⟩]
  unfold domOf
  rw [e,meetL_mem (h _)];simp
 ·rw [if_neg (fun c=>e c.1)];simp [e]
theorem keepsL_mem (x:Int) (j:Nat):∀ (ks:Ks) {out:Ds},AllN out->j<out.length ->
  memL ((keepsL ks out).getD j []) x=(memL (out.getD j []) x&&ks.all fun k=>!decide (k.1.toNat=j)||memL k.2 x)
 | [],_,_,_=>by simp [keepsL]
 | k::ks,out,h,hj=>by
  show memL ((keepsL ks (keepL out k)).getD j []) x=_
  rw [keepsL_mem x j ks (allN_keep h k) (by rw [keepL_len];exact hj),keepL_mem h k j hj,List.all_cons,Bool.and_assoc]
theorem ds_ext {a b:Ds} (hl:a.length=b.length) (ha:AllN a) (hb:AllN b) (h:∀ j,j<a.length->∀ x,memL (a.getD j []) x=memL (b.getD j []) x):a=b:=by
 apply List.ext_getElem hl
 intro j h1 h2
 have e1:a.getD j []=a[j]:=by simp [List.getD_eq_getElem?_getD,List.getElem?_eq_getElem h1]
 have e2:b.getD j []=b[j]:=by simp [List.getD_eq_getElem?_getD,List.getElem?_eq_getElem h2]
 have:=normal_unique (ha j) (hb j) (h j h1)
 rw [e1,e2] at this
 exact this
def hasW (v lo hi a b:Int):Bool:=(List.range (hi+1 - lo).toNat).any fun i=>decide (a<=v * (lo+i))&&decide (v * (lo+i)<=b)
def downI (a b:Int):Int:=if a.tmod b≠0/\(a<0↔¬ b<0) then a.tdiv b - 1 else a.tdiv b
theorem div_pos {a b d:Int} (hb:0<b) (h1:b * d<=a) (h2:a<b * d+b) (q:Int):q<=d↔b * q<=a:=by
 constructor
 ·intro h
  have:=Int.mul_le_mul_of_nonneg_left h (Int.le_of_lt hb)
  omega
 ·intro h
  rcases (show q<=d\/d+1<=q by omega) with h3 | h3
  ·exact h3
  ·have:=Int.mul_le_mul_of_nonneg_left h3 (Int.le_of_lt hb)
   rw [Int.mul_add,Int.mul_one] at this
   omega
theorem div_neg {a b d:Int} (hb:b<0) (h1:a<=b * d) (h2:b * d+b<a) (q:Int):q<=d↔a<=b * q:=by
 constructor
 ·intro h
  have:=Int.mul_le_mul_of_nonpos_left (Int.le_of_lt hb) h
  omega
 ·intro h
  rcases (show q<=d\/d+1<=q by omega) with h3 | h3
  ·exact h3
  ·have:=Int.mul_le_mul_of_nonpos_left (Int.le_of_lt hb) h3
   rw [Int.mul_add,Int.mul_one] at this
   omega
theorem tmod_facts (a b:Int) (hb:b≠0):b * a.tdiv b+a.tmod b=a/\(0<=a->0<=a.tmod b)/\(a<=0->a.tmod b<=0)/\(a.tmod b<b\/a.tmod b < -b)/\(-b<a.tmod b\/b<a.tmod b):=by
 refine ⟨Int.mul_tdiv_add_tmod a b,fun h=>Int.tmod_nonneg b h,fun h=>?_,?_⟩
 ·have:=Int.tmod_nonneg b (show 0<=-a by omega)
  rw [Int.neg_tmod] at this;omega
 ·have h1:(a.tmod b).natAbs<b.natAbs:=by
   rw [Int.natAbs_tmod];exact Nat.mod_lt _ (by omega)
  omega
theorem downI_spec (a b:Int) (hb:b≠0) (q:Int):(0<b->(q<=downI a b↔b * q<=a))/\(b<0->(q<=downI a b↔a<=b * q)):=by
 obtain ⟨h1,h2,h3,h4,h5⟩:=tmod_facts a b hb
 unfold downI
 generalize a.tmod b=r at *
 generalize a.tdiv b=d at *
 constructor
 ·intro h
  split
  ·rename_i hc
   refine div_pos h ?_ ?_ q <;> rw [Int.mul_sub,Int.mul_one] <;> omega
  ·rename_i hc
   refine div_pos h ?_ ?_ q <;> omega
 ·intro h
  split
  ·rename_i hc
   refine div_neg h ?_ ?_ q <;> rw [Int.mul_sub,Int.mul_one] <;> omega
  ·rename_i hc
   refine div_neg h ?_ ?_ q <;> omega
def upI (a b:Int):Int:=-downI (-a) b
theorem upI_spec (a b:Int) (hb:b≠0) (q:Int):(0<b->(upI a b<=q↔a<=b * q))/\(b<0->(upI a b<=q↔b * q<=a)):=by
 obtain ⟨h1,h2⟩:=downI_spec (-a) b hb (-q)
 rw [Int.mul_neg] at h1 h2
 unfold upI
 constructor
 ·intro h;have:=h1 h;omega
 ·intro h;have:=h2 h;omega
def hasQ (v lo hi a b:Int):Bool :=
 if 0<v then decide (max lo (upI a v)<=min hi (downI b v)) else if v<0 then decide (max lo (upI b v)<=min hi (downI a v)) else !(decide (0<a)||decide (b<0))&&decide (lo<=hi)
theorem hasW_iff (v lo hi a b:Int):hasW v lo hi a b=true↔∃ w,lo<=w/\w<=hi/\a<=v * w/\v * w<=b:=by
 unfold hasW
 rw [List.any_eq_true]
 constructor
 ·rintro ⟨i,h1,h2⟩
  rw [List.mem_range] at h1
  simp at h2
  exact ⟨lo+i,by omega,by omega,h2.1,h2.2⟩
 ·rintro ⟨w,h1,h2,h3,h4⟩
  refine ⟨(w - lo).toNat,List.mem_range.2 (by omega),?_⟩
  have e:lo+((w - lo).toNat:Int)=w:=by omega
  rw [e];simp [h3,h4]
theorem hasQ_eq (v lo hi a b:Int):hasQ v lo hi a b=hasW v lo hi a b:=by
 rw [Bool.eq_iff_iff,hasW_iff]
 unfold hasQ
 by_cases h1:0<v
 ·rw [if_pos h1]
  simp only [decide_eq_true_eq]
  constructor
  ·intro h
   exact ⟨max lo (upI a v),by omega,by omega,((upI_spec a v (by omega) _).1 h1).1 (by omega),((downI_spec b v (by omega) _).1 h1).1 (by omega)⟩
  ·rintro ⟨w,g1,g2,g3,g4⟩
   have:=((upI_spec a v (by omega) w).1 h1).2 g3
   have:=((downI_spec b v (by omega) w).1 h1).2 g4
   omega
 ·rw [if_neg h1]
  by_cases h2:v<0
  ·rw [if_pos h2]
   simp only [decide_eq_true_eq]
   constructor
   ·intro h
    exact ⟨max lo (upI b v),by omega,by omega,((downI_spec a v (by omega) _).2 h2).1 (by omega),((upI_spec b v (by omega) _).2 h2).1 (by omega)⟩
   ·rintro ⟨w,g1,g2,g3,g4⟩
    have:=((upI_spec b v (by omega) w).2 h2).2 g4
    have:=((downI_spec a v (by omega) w).2 h2).2 g3
    omega
  ·rw [if_neg h2]
   obtain rfl:v=0:=by omega
   simp
   constructor
   ·rintro ⟨⟨g1,g2⟩,g3⟩;exact ⟨lo,by omega,by omega,by omega,by omega⟩
   ·rintro ⟨w,g1,g2,g3,g4⟩;omega
def linKs (rel c:Int) (ps:Ps) (vars:List Int) (was:Ds):Option Ks:=(onceL rel c was ps).map fun o=>vars.map fun v=>(v,domOf o v)
def factorsL (d:List Rg) (lo hi a b:Int):List Rg:=canon fun v=>memL d v&&hasW v lo hi a b
def loD (d:List Rg):Int:=(endsL (norm d)).1
def hiD (d:List Rg):Int:=(endsL (norm d)).2.1
def min4 (a b c d:Int):Int:=min (min (min a b) c) d
def max4 (a b c d:Int):Int:=max (max (max a b) c) d
def prodR (X Y:List Rg):List Rg:=[(min4 (loD X * loD Y) (loD X * hiD Y) (hiD X * loD Y) (hiD X * hiD Y),max4 (loD X * loD Y) (loD X * hiD Y) (hiD X * loD Y) (hiD X * hiD Y))]
def prodKs (x y z:Int) (was:Ds):Ks :=
 [(x,factorsL (domOf was x) (loD (domOf was y)) (hiD (domOf was y)) (loD (domOf was z)) (hiD (domOf was z))),
  (y,factorsL (domOf was y) (loD (domOf was x)) (hiD (domOf was x)) (loD (domOf was z)) (hiD (domOf was z))),
  (z,prodR (domOf was x) (domOf was y))]
def diffAt (l:List Int) (was:Ds) (i m:Nat):Ks :=
 if sizeL (norm (domOf was (l.getD i 0)))=1 then (List.range m).flatMap (fun k=>if k=i then [] else [(l.getD k 0,complL (domOf was (l.getD i 0)))]) else []
def diffTo (l:List Int) (was:Ds) (i:Nat):Ks:=(List.range i).flatMap fun i=>diffAt l was i l.length
def mayL (s:Int):List Rg:=if s=1 then [(1,1)] else if s=-1 then [(0,0)] else [(0,1)]
def notRel (r:Int):Int:=if r=1 then 2 else if r=2 then 1 else r
def notC (r c:Int):Int:=if r=1\/r=2 then c else -c - 1
def notCoef (r:Int) (coef:List Int):List Int:=if r=1\/r=2 then coef else coef.map fun k=>-k
def reifKs (x rel c:Int) (coef vars:List Int) (was:Ds):Option Ks :=
 let one:=inD 1&&memL (domOf was x) 1
 let nought:=inD 0&&memL (domOf was x) 0
 let may:Int×List Rg:=(x,mayL (saysL rel c was (coef.zip vars)))
 if (one&&!nought)=true then (linKs rel c (coef.zip vars) vars was).map fun ks=>may::ks
 else if (nought&&!one)=true then (linKs (notRel rel) (notC rel c) ((notCoef rel coef).zip vars) vars was).map fun ks=>may::ks
 else some [may]
def PL.all (p:PL):List Int:=allL p.kind p.vars p.x p.y p.z p.vs
def narrowKs (p:PL) (was:Ds):Option Ks :=
 if p.kind=1 then linKs p.rel p.c (p.coef.zip p.vars) p.vars was
 else if p.kind=2 then some (prodKs p.x p.y p.z was)
 else if p.kind=3 then some (diffTo p.vs was p.vs.length)
 else reifKs p.x p.rel p.c p.coef p.vars was
def anyNil (l:List Int) (ds:Ds):Bool:=l.any fun v=>decide (domOf ds v=[])
def onceP (p:PL) (ds:Ds):Option Ds :=
 if anyNil p.all (ds.map norm)=true then none
 else match narrowKs p (ds.map norm) with
  | none=>none
  | some ks=>if anyNil p.all (keepsL ks (ds.map norm))=true then none else some (keepsL ks (ds.map norm))
theorem diffAt_snoc (l:List Int) (was:Ds) (i m:Nat) (h:sizeL (norm (domOf was (l.getD i 0)))=1):diffAt l was i (m+1)=diffAt l was i m++(if m=i then [] else [(l.getD m 0,complL (domOf was (l.getD i 0)))]):=by
 unfold diffAt
 rw [if_pos h,if_pos h,List.range_succ,List.flatMap_append]
 simp
theorem diffTo_snoc (l:List Int) (was:Ds) (i:Nat):diffTo l was (i+1)=diffTo l was i++diffAt l was i l.length:=by
 unfold diffTo
 rw [List.range_succ,List.flatMap_append]
 simp
theorem domOf_keep {out:Ds} (k:Int×List Rg) (h:k.1.toNat<out.length):domOf (keepL out k) k.1=meetL (domOf out k.1) k.2:=by
 unfold keepL
 show (out.set _ _).getD _ []=_
 rw [getD_set,if_pos ⟨rfl,h⟩]
theorem keeps_sub (ks:Ks) {out:Ds} (h:AllN out) (j:Nat) (x:Int) (hx:memL ((keepsL ks out).getD j []) x=true):memL (out.getD j []) x=true:=by
 by_cases hj:j<out.length
 ·rw [keepsL_mem x j ks h hj,Bool.and_eq_true] at hx
  exact hx.1
 ·rw [List.getD_eq_getElem?_getD,List.getElem?_eq_none (by rw [keepsL_len];omega)] at hx
  simp [memL_nil] at hx
theorem nil_of_sub {a b:List Rg} (hb:Normal b) (h:∀ x,memL b x=true->memL a x=true) (ha:a=[]):b=[]:=by
 subst ha
 by_cases hn:b=[]
 ·exact hn
 ·obtain ⟨x,hx⟩:=normal_some hb hn
  have:=h x hx
  simp [memL_nil] at this
def seqGo:Ks->Ds->Option Ds
 | [],out=>some out
 | k::ks,out=>if domOf (keepL out k) k.1=[] then none else seqGo ks (keepL out k)
theorem seqGo_eq:∀ (ks:Ks) (out:Ds),AllN out->(∀ k∈ks,k.1.toNat<out.length)->seqGo ks out=if anyNil (ks.map (·.1)) (keepsL ks out)=true then none else some (keepsL ks out)
 | [],out,_,_=>by simp [seqGo,anyNil,keepsL]
 | k::ks,out,h,hv=>by
  unfold seqGo
  have hk:=allN_keep h k
  by_cases hn:domOf (keepL out k) k.1=[]
  ·rw [if_pos hn,if_pos]
   have:domOf (keepsL (k::ks) out) k.1=[]:=nil_of_sub (allN_keeps ks hk k.1.toNat) (fun x hx=>keeps_sub ks hk k.1.toNat x hx) hn
   simp [anyNil,this]
  ·rw [if_neg hn,seqGo_eq ks _ hk (fun q hq=>by rw [keepL_len];exact hv q (List.mem_cons_of_mem _ hq))]
   show _=if anyNil (k.1::ks.map (·.1)) (keepsL ks (keepL out k))=true then none else some (keepsL ks (keepL out k))
   by_cases ha:anyNil (ks.map (·.1)) (keepsL ks (keepL out k))=true
   ·rw [if_pos ha,if_pos]
    unfold anyNil at *
    rw [List.any_cons,ha,Bool.or_true]
   ·rw [if_neg ha]
    by_cases hk0:domOf (keepsL ks (keepL out k)) k.1=[]
    ·
     exfalso
     apply ha
     by_cases hl:∃ q∈ks,q.1.toNat=k.1.toNat
     ·obtain ⟨q,hq,he⟩:=hl
      unfold anyNil
      rw [List.any_map,List.any_eq_true]
      refine ⟨q,hq,?_⟩
      have:domOf (keepsL ks (keepL out k)) q.1=[]:=by unfold domOf at *;rw [he];exact hk0
      simp [this]
     ·exfalso
      obtain ⟨x,hx⟩:=normal_some (hk k.1.toNat) hn
      have hx2:memL ((keepsL ks (keepL out k)).getD k.1.toNat []) x=true:=by
       rw [keepsL_mem x _ ks hk (by rw [keepL_len];exact hv k (by simp)),hx,Bool.true_and,List.all_eq_true]
       intro q hq
       have:¬ q.1.toNat=k.1.toNat:=fun e=>hl ⟨q,hq,e⟩
       simp [this]
      have hk1:(keepsL ks (keepL out k)).getD k.1.toNat []=[]:=hk0
      rw [hk1] at hx2
      simp [memL_nil] at hx2
    ·rw [if_neg]
     unfold anyNil at *
     rw [List.any_cons,Bool.or_eq_true]
     rintro (h1 | h1)
     ·simp [hk0] at h1
     ·exact ha h1
theorem onceGo_spec (rel c:Int) (ds:Ds) (lo hi:Int):∀ (ps:Ps) (out r:Ds),(∀ p∈ps,p.2.toNat<out.length)->onceGo rel c ds lo hi ps out=some r ->
  (∀ p∈ps,∃ q∈ps,q.2.toNat=p.2.toNat/\r.getD p.2.toNat []=narrowAt rel c ds lo hi q/\narrowAt rel c ds lo hi q≠[])/\∀ j,(∀ p∈ps,p.2.toNat≠j)->r.getD j []=out.getD j []
 | [],out,r,_,h=>by simp [onceGo] at h;subst h;exact ⟨(fun p hp=>by cases hp),fun _ _=>rfl⟩
 | p::ps,out,r,hv,h=>by
  unfold onceGo at h
  split at h
  ·cases h
  ·rename_i hne
   obtain ⟨h1,h2⟩:=onceGo_spec rel c ds lo hi ps _ r (fun q hq=>by rw [List.length_set];exact hv q (List.mem_cons_of_mem _ hq)) h
   constructor
   ·intro q hq
    by_cases hl:∃ q'∈ps,q'.2.toNat=q.2.toNat
    ·obtain ⟨q',hq',he⟩:=hl
     obtain ⟨q2,a,b,c',d⟩:=h1 q' hq'
     exact ⟨q2,List.mem_cons_of_mem _ a,b.trans he,by rw [<- he];exact c',d⟩
    ·have hqp:q=p:=by
      rcases List.mem_cons.1 hq with e | e
      ·exact e
      ·exact absurd ⟨q,e,rfl⟩ hl
     subst hqp
     refine ⟨q,by simp,rfl,?_,hne⟩
     rw [h2 q.2.toNat (fun q' hq' e=>hl ⟨q',hq',e⟩),getD_set,if_pos ⟨rfl,hv q (by simp)⟩]
   ·intro j hj
    rw [h2 j (fun q hq=>hj q (List.mem_cons_of_mem _ hq)),getD_set,if_neg (fun e=>hj p (by simp) e.1)]
theorem norm_getD {ds:Ds} (h:AllN ds):ds.map norm=ds:=by
 apply List.ext_getElem (by simp)
 intro j h1 h2
 rw [List.getElem_map]
 have:=h j
 rw [List.getD_eq_getElem?_getD,List.getElem?_eq_getElem h2] at this
 exact norm_of_normal this
theorem once_spec (rel c:Int) (was:Ds) (hw:AllN was) (ps:Ps) (hv:∀ p∈ps,p.2.toNat<was.length) (r:Ds) (h:onceL rel c was ps=some r) :
  r.length=was.length/\AllN r/\(∀ j x,memL (r.getD j []) x=true->memL (was.getD j []) x=true)/\(∀ p∈ps,r.getD p.2.toNat []≠[])/\∀ j,(∀ p∈ps,p.2.toNat≠j)->r.getD j []=was.getD j []:=by
 have hl:=once_len rel c was ps r h
 unfold onceL at h
 split at h
 ·split at h
  ·cases h
  ·rw [norm_getD hw] at h
   obtain ⟨h1,h2⟩:=onceGo_spec rel c was _ _ ps was r hv h
   refine ⟨hl,fun j=>?_,fun j x hx=>?_,fun p hp=>?_,h2⟩
   ·by_cases hj:∃ p∈ps,p.2.toNat=j
    ·obtain ⟨p,hp,rfl⟩:=hj
     obtain ⟨q,_,_,e,_⟩:=h1 p hp
     rw [e];exact narrow_normal _ _ _ _ _ _
    ·rw [h2 j (fun p hp e=>hj ⟨p,hp,e⟩)];exact hw j
   ·by_cases hj:∃ p∈ps,p.2.toNat=j
    ·obtain ⟨p,hp,rfl⟩:=hj
     obtain ⟨q,_,e0,e,_⟩:=h1 p hp
     rw [e] at hx
     unfold narrowAt at hx
     rw [narrow_mem,Bool.and_eq_true] at hx
     have:=hx.1
     unfold domOf at this
     rw [norm_of_normal (hw _),e0] at this
     exact this
    ·rw [h2 j (fun p hp e=>hj ⟨p,hp,e⟩)] at hx;exact hx
   ·obtain ⟨q,_,_,e,hne⟩:=h1 p hp
    rw [e];exact hne
 ·cases h
theorem lin_keeps (rel c:Int) (was:Ds) (hw:AllN was) (coef vars:List Int) (_hlen:coef.length=vars.length) (hv:∀ v∈vars,v.toNat<was.length) (r:Ds) (h:onceL rel c was (coef.zip vars)=some r) :
  keepsL (vars.map fun v=>(v,domOf r v)) was=r:=by
 have hps:∀ p∈coef.zip vars,p.2.toNat<was.length:=fun p hp=>hv _ (List.of_mem_zip hp).2
 obtain ⟨hl,hN,hs,hne,hoth⟩:=once_spec rel c was hw _ hps r h
 refine ds_ext (by rw [keepsL_len,hl]) (allN_keeps _ hw) hN (fun j hj x=>?_)
 rw [keepsL_len] at hj
 rw [keepsL_mem x j _ hw hj,Bool.eq_iff_iff,Bool.and_eq_true,List.all_map,List.all_eq_true]
 constructor
 ·rintro ⟨h1,h2⟩
  by_cases hc:∃ v∈vars,v.toNat=j
  ·obtain ⟨v,hv1,rfl⟩:=hc
   have:=h2 v hv1
   simp only [Function.comp,decide_true,Bool.not_true,Bool.false_or] at this
   exact this
  ·rw [hoth j (fun p hp e=>hc ⟨p.2,(List.of_mem_zip hp).2,e⟩)];exact h1
 ·intro h1
  refine ⟨hs j x h1,fun v hv1=>?_⟩
  by_cases e:v.toNat=j
  ·subst e
   simp only [Function.comp,decide_true,Bool.not_true,Bool.false_or]
   exact h1
  ·simp [e]
def aloneL (d:List Rg) (v:Int):Bool:=decide (d=[(v,v)])
def timesL (was:Ds) (x y z:Int) (i:Nat) (v:Int):Bool :=
 if i=0 then hasW v (loD (domOf was y)) (hiD (domOf was y)) (loD (domOf was z)) (hiD (domOf was z))
 else if i=1 then hasW v (loD (domOf was x)) (hiD (domOf was x)) (loD (domOf was z)) (hiD (domOf was z))
 else memL (prodR (domOf was x) (domOf was y)) v
def diffOk (was:Ds) (l:List Int) (i:Nat) (v:Int):Bool:=(List.range l.length).all fun k=>decide (k=i)||!aloneL (domOf was (l.getD k 0)) v
def reifOk (s:Int) (i:Nat) (v:Int):Bool:=decide (0<i)||((decide (v=1)&&decide (-1<s))||(decide (v=0)&&decide (s<1)))
def stays16 (p:PL) (was:Ds) (s:Int) (i:Nat) (v:Int):Bool :=
 if p.kind=2 then timesL was p.x p.y p.z i v else if p.kind=3 then diffOk was p.vs i v else if p.kind=4 then reifOk s i v else true
def cutL (p:PL) (was:Ds) (s:Int) (i:Nat) (d:List Rg):List Rg:=canon fun v=>memL d v&&stays16 p was s i v
def cutsTo (p:PL) (was:Ds) (s:Int) (n:Nat):Ks:=(List.range n).map fun i=>(p.all.getD i 0,cutL p was s i (domOf was (p.all.getD i 0)))
def PL.says (p:PL) (was:Ds):Int:=saysL p.rel p.c was (p.coef.zip p.vars)
def PL.one (p:PL) (was:Ds):Bool:=inD 1&&memL (domOf was p.x) 1
def PL.nought (p:PL) (was:Ds):Bool:=inD 0&&memL (domOf was p.x) 0
def PL.linQ (p:PL) (was:Ds):Option Ds :=
 if p.nought was=true then onceL (notRel p.rel) (notC p.rel p.c) was ((notCoef p.rel p.coef).zip p.vars) else onceL p.rel p.c was (p.coef.zip p.vars)
def refGoP (p:PL) (was:Ds) (out:Ds):Option Ds:=seqGo (cutsTo p was (p.says was) p.all.length) out
def refOnceP (p:PL) (ds:Ds):Option Ds :=
 if anyNil p.all (ds.map norm)=true then none
 else if p.kind=1 then onceL p.rel p.c (ds.map norm) (p.coef.zip p.vars)
 else if p.kind=4/\p.one (ds.map norm)≠p.nought (ds.map norm) then
  match p.linQ (ds.map norm) with
  | none=>none
  | some m=>refGoP p (ds.map norm) m
 else refGoP p (ds.map norm) (ds.map norm)
structure PL.Good (p:PL) (n:Nat):Prop where
 kind:p.kind=1\/p.kind=2\/p.kind=3\/p.kind=4
 len:p.kind=1\/p.kind=4->p.coef.length=p.vars.length
 vars:∀ v∈p.all,0<=v/\v.toNat<n
theorem cutsTo_snd (p:PL) (was:Ds) (s:Int):(cutsTo p was s p.all.length).map (·.1)=p.all:=by
 unfold cutsTo
 rw [List.map_map]
 apply List.ext_getElem (by simp)
 intro j h1 h2
 simp [List.getD_eq_getElem?_getD,List.getElem?_eq_getElem h2]
theorem cutL_mem (p:PL) (was:Ds) (s:Int) (i:Nat) {d:List Rg} (h:Normal d) (v:Int):memL (cutL p was s i d) v=(memL d v&&stays16 p was s i v):=by
 unfold cutL
 rw [canon_mem]
 cases hm:memL d v with
 | false=>simp
 | true=>obtain ⟨h1,h2⟩:=memL_bounds h hm;simp [h1,h2]
theorem one_alone {d:List Rg} (h:Normal d):sizeL (norm d)=1->∀ x,memL d x=aloneL d x:=by
 intro h1 x
 rw [norm_of_normal h] at h1
 cases d with
 | nil=>simp [sizeL] at h1
 | cons r t =>
  obtain ⟨_,h2,_,h4⟩:=h
  have hb:=(sizeL_pos t (fun q hq=>((NormFrom.bounds h4) q hq).2.1)).1
  have hz:=(sizeL_pos t (fun q hq=>((NormFrom.bounds h4) q hq).2.1)).2
  simp only [sizeL] at h1
  have ht:t=[]:=hz (by omega)
  subst ht
  obtain ⟨r1,r2⟩:=r
  dsimp only at *
  obtain rfl:r1=r2:=by simp [sizeL] at h1;omega
  unfold aloneL
  rw [Bool.eq_iff_iff]
  simp [memL];omega
theorem alone_one {d:List Rg} {x:Int} (h:Normal d) (ha:aloneL d x=true):sizeL (norm d)=1:=by
 rw [norm_of_normal h]
 unfold aloneL at ha
 simp at ha
 subst ha
 simp [sizeL]
theorem once_ref (p:PL) (ds:Ds) (hg:p.Good ds.length):refOnceP p ds=onceP p ds:=by
 have hw:AllN (ds.map norm):=allN_norm ds
 have hl:(ds.map norm).length=ds.length:=by simp
 have hvs:∀ v∈p.all,v.toNat<(ds.map norm).length:=fun v hv=>by rw [hl];exact (hg.vars v hv).2
 unfold refOnceP onceP
 generalize ds.map norm=was at *
 by_cases hnil:anyNil p.all was=true
 ·rw [if_pos hnil,if_pos hnil]
 rw [if_neg hnil,if_neg hnil]
 have hcv:∀ (s:Int) (out:Ds),out.length=was.length->∀ k∈cutsTo p was s p.all.length,k.1.toNat<out.length:=fun s out ho k hk=>by
  have:k.1∈(cutsTo p was s p.all.length).map (·.1):=List.mem_map_of_mem hk
  rw [cutsTo_snd] at this
  rw [ho];exact hvs _ this
 have href:∀ out:Ds,AllN out->out.length=was.length->refGoP p was out=if anyNil p.all (keepsL (cutsTo p was (p.says was) p.all.length) out)=true then none else some (keepsL (cutsTo p was (p.says was) p.all.length) out):=fun out ho hlo=>by
  unfold refGoP
  rw [seqGo_eq _ _ ho (hcv _ out hlo),cutsTo_snd]
 have hcm:∀ (s:Int) (j:Nat) (x:Int),((cutsTo p was s p.all.length).all fun k=>!decide (k.1.toNat=j)||memL k.2 x)=true↔∀ i,i<p.all.length->(p.all.getD i 0).toNat=j->memL (was.getD j []) x=true/\stays16 p was s i x=true:=fun s j x=>by
  unfold cutsTo
  rw [List.all_map,List.all_eq_true]
  constructor
  ·intro h i hi he
   have:=h i (List.mem_range.2 hi)
   simp only [Function.comp,he,decide_true,Bool.not_true,Bool.false_or] at this
   rw [cutL_mem p was s i (show Normal (domOf was (p.all.getD i 0)) from hw _),Bool.and_eq_true] at this
   unfold domOf at this
   rw [he] at this
   exact this
  ·intro h i hi
   have hi':=List.mem_range.1 hi
   by_cases he:(p.all.getD i 0).toNat=j
   ·obtain ⟨a,b⟩:=h i hi' he
    simp only [Function.comp,he,decide_true,Bool.not_true,Bool.false_or]
    rw [cutL_mem p was s i (show Normal (domOf was (p.all.getD i 0)) from hw _),Bool.and_eq_true]
    unfold domOf
    rw [he]
    exact ⟨a,b⟩
   ·simp only [Function.comp,he,decide_false,Bool.not_false,Bool.true_or]
 have hsame:∀ (out:Ds) (ks:Ks),AllN out->out.length=was.length->(∀ j,j<was.length->∀ x,memL (was.getD j []) x=true ->
   ((memL (out.getD j []) x=true/\∀ i,i<p.all.length->(p.all.getD i 0).toNat=j->stays16 p was (p.says was) i x=true)↔(ks.all fun k=>!decide (k.1.toNat=j)||memL k.2 x)=true)) ->
   (∀ j x,memL (out.getD j []) x=true->memL (was.getD j []) x=true)->keepsL (cutsTo p was (p.says was) p.all.length) out=keepsL ks was:=fun out ks ho hlo h1 h2=>by
  refine ds_ext (by rw [keepsL_len,keepsL_len,hlo]) (allN_keeps _ ho) (allN_keeps _ hw) (fun j hj x=>?_)
  rw [keepsL_len,hlo] at hj
  rw [keepsL_mem x j _ ho (by omega),keepsL_mem x j _ hw hj,Bool.eq_iff_iff,Bool.and_eq_true,Bool.and_eq_true,hcm]
  constructor
  ·rintro ⟨a,b⟩
   have hx:=h2 j x a
   exact ⟨hx,(h1 j hj x hx).1 ⟨a,fun i hi he=>(b i hi he).2⟩⟩
  ·rintro ⟨a,b⟩
   obtain ⟨c,d⟩:=(h1 j hj x a).2 b
   exact ⟨c,fun i hi he=>⟨a,d i hi he⟩⟩
 rcases hg.kind with k1 | k2 | k3 | k4
 ·
  have hall:p.all=p.vars:=by unfold PL.all allL;rw [if_pos k1]
  rw [if_pos k1]
  unfold narrowKs linKs
  rw [if_pos k1]
  cases ho:onceL p.rel p.c was (p.coef.zip p.vars) with
  | none=>rfl
  | some r =>
   have hk:=lin_keeps p.rel p.c was hw p.coef p.vars (hg.len (.inl k1)) (fun v hv=>hvs v (by rw [hall];exact hv)) r ho
   obtain ⟨_,_,_,hne,_⟩:=once_spec p.rel p.c was hw _ (fun q hq=>hvs _ (by rw [hall];exact (List.of_mem_zip hq).2)) r ho
   simp only [Option.map_some]
   rw [hk,if_neg]
   unfold anyNil
   rw [hall,List.any_eq_true]
   rintro ⟨v,hv,hn⟩
   obtain ⟨i,hi,rfl⟩:=List.getElem_of_mem hv
   have hic:i<p.coef.length:=by rw [hg.len (.inl k1)];exact hi
   have hz:i<(p.coef.zip p.vars).length:=by rw [List.length_zip];omega
   have:=hne _ (List.getElem_mem hz)
   rw [List.getElem_zip] at this
   simp at hn
   exact this hn
 ·rw [if_neg (by omega),if_neg (by omega),href was hw rfl]
  have hall:p.all=[p.x,p.y,p.z]:=by unfold PL.all allL;rw [if_neg (by omega),if_pos k2]
  have hks:narrowKs p was=some (prodKs p.x p.y p.z was):=by unfold narrowKs;rw [if_neg (by omega),if_pos k2]
  rw [hks]
  have hst:∀ i x,stays16 p was (p.says was) i x=timesL was p.x p.y p.z i x:=fun i x=>by unfold stays16;rw [if_pos k2]
  rw [hsame was (prodKs p.x p.y p.z was) hw rfl (fun j hj x hx=>?_) (fun _ _ h=>h)]
  have hf:∀ (v:Int) (lo hi a b:Int),v.toNat=j->memL (factorsL (domOf was v) lo hi a b) x=hasW x lo hi a b:=fun v lo hi a b e=>by
   unfold factorsL
   rw [canon_mem]
   unfold domOf
   rw [e,hx]
   obtain ⟨h1,h2⟩:=memL_bounds (hw j) hx
   simp [h1,h2]
  simp only [hst,hall,hx,true_and,prodKs,List.all_cons,List.all_nil,Bool.and_true,Bool.and_eq_true,Bool.or_eq_true,Bool.not_eq_true',decide_eq_false_iff_not,List.length_cons,List.length_nil]
  constructor
  ·intro h
   refine ⟨?_,?_,?_⟩
   ·by_cases e:p.x.toNat=j
    ·right;rw [hf _ _ _ _ _ e];have:=h 0 (by omega) (by simpa using e);simpa [timesL] using this
    ·exact .inl e
   ·by_cases e:p.y.toNat=j
    ·right;rw [hf _ _ _ _ _ e];have:=h 1 (by omega) (by simpa using e);simpa [timesL] using this
    ·exact .inl e
   ·by_cases e:p.z.toNat=j
    ·right;have:=h 2 (by omega) (by simpa using e);simpa [timesL] using this
    ·exact .inl e
  ·rintro ⟨h0,h1,h2⟩ i hi he
   match i,hi with
   | 0,_ =>
    have e:p.x.toNat=j:=by simpa using he
    have:=h0.resolve_left (fun c=>c e)
    rw [hf _ _ _ _ _ e] at this
    simpa [timesL] using this
   | 1,_ =>
    have e:p.y.toNat=j:=by simpa using he
    have:=h1.resolve_left (fun c=>c e)
    rw [hf _ _ _ _ _ e] at this
    simpa [timesL] using this
   | 2,_ =>
    have e:p.z.toNat=j:=by simpa using he
    have:=h2.resolve_left (fun c=>c e)
    simpa [timesL] using this
 ·rw [if_neg (by omega),if_neg (by omega),href was hw rfl]
  have hall:p.all=p.vs:=by unfold PL.all allL;rw [if_neg (by omega),if_neg (by omega),if_pos k3]
  have hks:narrowKs p was=some (diffTo p.vs was p.vs.length):=by unfold narrowKs;rw [if_neg (by omega),if_neg (by omega),if_pos k3]
  rw [hks]
  have hst:∀ i x,stays16 p was (p.says was) i x=diffOk was p.vs i x:=fun i x=>by unfold stays16;rw [if_neg (by omega),if_pos k3]
  rw [hsame was (diffTo p.vs was p.vs.length) hw rfl (fun j hj x hx=>?_) (fun _ _ h=>h)]
  obtain ⟨hb1,hb2⟩:=memL_bounds (hw j) hx
  have hcm2:∀ d,memL (complL d) x=!memL d x:=fun d=>by unfold complL;rw [canon_mem];simp [hb1,hb2]
  simp only [hst,hall,hx,true_and]
  unfold diffTo diffAt diffOk
  rw [List.all_eq_true]
  constructor
  ·intro h k hk
   obtain ⟨i,hi,hk2⟩:=List.mem_flatMap.1 hk
   split at hk2
   ·rename_i hs
    obtain ⟨m,hm,hk3⟩:=List.mem_flatMap.1 hk2
    split at hk3
    ·cases hk3
    ·rename_i hmi
     rw [List.mem_singleton] at hk3
     subst hk3
     by_cases e:(p.vs.getD m 0).toNat=j
     ·have:=h m (List.mem_range.1 hm) e
      rw [List.all_eq_true] at this
      have h3:=this i hi
      have hne:¬ i=m:=fun c=>hmi c.symm
      simp only [hne,decide_false,Bool.false_or] at h3
      simp only [e,decide_true,Bool.not_true,Bool.false_or]
      rw [hcm2]
      unfold domOf at *
      rw [one_alone (hw _) hs];exact h3
     ·simp only [e,decide_false,Bool.not_false,Bool.true_or]
   ·cases hk2
  ·intro h m hm e
   rw [List.all_eq_true]
   intro i hi
   by_cases hmi:i=m
   ·simp [hmi]
   ·simp only [hmi,decide_false,Bool.false_or]
    cases ha:aloneL (domOf was (p.vs.getD i 0)) x with
    | false=>rfl
    | true =>
     exfalso
     have hs:=alone_one (show Normal (domOf was (p.vs.getD i 0)) from hw _) ha
     have h3:=h (p.vs.getD m 0,complL (domOf was (p.vs.getD i 0))) (by
      refine List.mem_flatMap.2 ⟨i,hi,?_⟩
      rw [if_pos hs]
      refine List.mem_flatMap.2 ⟨m,List.mem_range.2 hm,?_⟩
      rw [if_neg (fun c=>hmi c.symm)]
      exact List.mem_singleton.2 rfl)
     simp only [e,decide_true,Bool.not_true,Bool.false_or] at h3
     rw [hcm2] at h3
     have h4:=one_alone (hw (p.vs.getD i 0).toNat) hs x
     unfold domOf at *
     rw [h4,ha] at h3
     simp at h3
 ·rw [if_neg (by omega)]
  have hall:p.all=p.x::p.vars:=by unfold PL.all allL;rw [if_neg (by omega),if_neg (by omega),if_neg (by omega),if_pos k4]
  have hks:narrowKs p was=reifKs p.x p.rel p.c p.coef p.vars was:=by unfold narrowKs;rw [if_neg (by omega),if_neg (by omega),if_neg (by omega)]
  rw [hks]
  have hst:∀ i x,stays16 p was (p.says was) i x=reifOk (p.says was) i x:=fun i x=>by unfold stays16;rw [if_neg (by omega),if_neg (by omega),if_pos k4]
  have hmay:∀ x,memL (mayL (p.says was)) x=reifOk (p.says was) 0 x:=fun x=>by
   have hv:p.says was=1\/p.says was=0\/p.says was=-1:=says_vals _ _ _ _
   unfold reifOk mayL
   rw [Bool.eq_iff_iff]
   rcases hv with e | e | e <;> rw [e] <;> simp [memL] <;> omega
  have hgo:∀ (r:Option Ds) (rel c:Int) (coef:List Int),coef.length=p.vars.length->onceL rel c was (coef.zip p.vars)=r ->
    (match r with | none=>none | some m=>refGoP p was m)=(match (linKs rel c (coef.zip p.vars) p.vars was).map (fun ks=>(p.x,mayL (p.says was))::ks) with
     | none=>none
     | some ks=>if anyNil p.all (keepsL ks was)=true then none else some (keepsL ks was)):=fun r rel c coef hlen ho=>by
   unfold linKs
   rw [ho]
   cases r with
   | none=>rfl
   | some m =>
    have hps:∀ q∈coef.zip p.vars,q.2.toNat<was.length:=fun q hq=>hvs _ (by rw [hall];exact List.mem_cons_of_mem _ (List.of_mem_zip hq).2)
    obtain ⟨hlm,hNm,hsm,_,hoth⟩:=once_spec rel c was hw _ hps m ho
    simp only [Option.map_some]
    rw [href m hNm hlm,hsame m _ hNm hlm (fun j hj x hx=>?_) hsm]
    simp only [hst,hall,List.all_cons,List.all_map,Bool.and_eq_true,Bool.or_eq_true,Bool.not_eq_true',decide_eq_false_iff_not,hmay]
    rw [List.all_eq_true]
    constructor
    ·rintro ⟨h1,h2⟩
     refine ⟨?_,fun v hv=>?_⟩
     ·by_cases e:p.x.toNat=j
      ·right;exact h2 0 (by simp) (by simpa using e)
      ·exact .inl e
     ·by_cases e:v.toNat=j
      ·simp only [Function.comp,e,decide_true,Bool.not_true,Bool.false_or];unfold domOf;rw [e];exact h1
      ·simp [e]
    ·rintro ⟨h1,h2⟩
     constructor
     ·by_cases hc:∃ v∈p.vars,v.toNat=j
      ·obtain ⟨v,hv,e⟩:=hc
       have:=h2 v hv
       simp only [Function.comp,e,decide_true,Bool.not_true,Bool.false_or] at this
       unfold domOf at this
       rw [e] at this;exact this
      ·rw [hoth j (fun q hq e=>hc ⟨q.2,(List.of_mem_zip hq).2,e⟩)];exact hx
     ·intro i hi e
      match i with
      | 0 =>
       have e':p.x.toNat=j:=by simpa using e
       exact h1.resolve_left (fun c=>c e')
      | i+1=>simp [reifOk]
  have hlen:=hg.len (.inr k4)
  have hlen2:(notCoef p.rel p.coef).length=p.vars.length:=by unfold notCoef;split <;> simp [hlen]
  unfold reifKs
  have e1:(inD 1&&memL (domOf was p.x) 1)=p.one was:=rfl
  have e0:(inD 0&&memL (domOf was p.x) 0)=p.nought was:=rfl
  dsimp only
  rw [e1,e0]
  unfold PL.linQ
  cases h1:p.one was with
  | true =>
   cases h0:p.nought was with
   | true =>
    rw [if_neg (by simp),if_neg (by simp),if_neg (by simp),href was hw rfl]
    dsimp only
    rw [hsame was [(p.x,mayL (saysL p.rel p.c was (p.coef.zip p.vars)))] hw rfl (fun j hj x hx=>?_) (fun _ _ h=>h)]
    show _↔([(p.x,mayL (p.says was))].all _)=true
    simp only [hst,hall,hx,true_and,List.all_cons,List.all_nil,Bool.and_true,Bool.or_eq_true,Bool.not_eq_true',decide_eq_false_iff_not,hmay]
    constructor
    ·intro h
     by_cases e:p.x.toNat=j
     ·right;exact h 0 (by simp) (by simpa using e)
     ·exact .inl e
    ·intro h i hi e
     match i with
     | 0 =>
      have e':p.x.toNat=j:=by simpa using e
      exact h.resolve_left (fun c=>c e')
     | i+1=>simp [reifOk]
   | false =>
    rw [if_pos ⟨k4,by simp⟩,if_neg (by simp),if_pos (by simp)]
    exact hgo _ p.rel p.c p.coef hlen rfl
  | false =>
   cases h0:p.nought was with
   | true =>
    rw [if_pos ⟨k4,by simp⟩,if_pos rfl,if_neg (by simp),if_pos (by simp)]
    exact hgo _ (notRel p.rel) (notC p.rel p.c) (notCoef p.rel p.coef) hlen2 rfl
   | false =>
    rw [if_neg (by simp),if_neg (by simp),if_neg (by simp),href was hw rfl]
    dsimp only
    rw [hsame was [(p.x,mayL (saysL p.rel p.c was (p.coef.zip p.vars)))] hw rfl (fun j hj x hx=>?_) (fun _ _ h=>h)]
    show _↔([(p.x,mayL (p.says was))].all _)=true
    simp only [hst,hall,hx,true_and,List.all_cons,List.all_nil,Bool.and_true,Bool.or_eq_true,Bool.not_eq_true',decide_eq_false_iff_not,hmay]
    constructor
    ·intro h
     by_cases e:p.x.toNat=j
     ·right;exact h 0 (by simp) (by simpa using e)
     ·exact .inl e
    ·intro h i hi e
     match i with
     | 0 =>
      have e':p.x.toNat=j:=by simpa using e
      exact h.resolve_left (fun c=>c e')
     | i+1=>simp [reifOk]
theorem zip_vars {a b:List Int}:∀ p∈a.zip b,p.2∈b:=fun _ h=>(List.of_mem_zip h).2
theorem prod_mono {a b e f x y:Int} (hx:a<=x/\x<=b) (hy:e<=y/\y<=f):min4 (a * e) (a * f) (b * e) (b * f)<=x * y/\x * y<=max4 (a * e) (a * f) (b * e) (b * f):=by
 have h:∀ z w u v:Int,z<=w->w<=v->(∀ t:Int,min (z * t) (v * t)<=w * t/\w * t<=max (z * t) (v * t)):=fun z w u v h1 h2 t=>by
  rcases (show 0<=t\/t<0 by omega) with ht | ht
  ·have:=Int.mul_le_mul_of_nonneg_right h1 ht
   have:=Int.mul_le_mul_of_nonneg_right h2 ht
   omega
  ·have:=Int.mul_le_mul_of_nonpos_right h1 (Int.le_of_lt ht)
   have:=Int.mul_le_mul_of_nonpos_right h2 (Int.le_of_lt ht)
   omega
 have h1:=h a x 0 b hx.1 hx.2 y
 have h2:=h e y 0 f hy.1 hy.2 a
 have h3:=h e y 0 f hy.1 hy.2 b
 rw [Int.mul_comm e a,Int.mul_comm y a,Int.mul_comm f a] at h2
 rw [Int.mul_comm e b,Int.mul_comm y b,Int.mul_comm f b] at h3
 unfold min4 max4
 omega
theorem lo_hi {d:List Rg} {x:Int} (h:Normal d) (hx:memL d x=true):loD d<=x/\x<=hiD d:=by
 have:=ends_mem d x (by rw [norm_of_normal h];exact hx)
 exact ⟨this.1,this.2.1⟩
theorem factors_mem {d:List Rg} (h:Normal d) (lo hi a b v:Int):memL (factorsL d lo hi a b) v=(memL d v&&hasW v lo hi a b):=by
 unfold factorsL
 rw [canon_mem]
 cases hm:memL d v with
 | false=>simp
 | true=>obtain ⟨h1,h2⟩:=memL_bounds h hm;simp [h1,h2]
theorem mem_diffTo {l:List Int} {was:Ds} {k:Int×List Rg} {n:Nat}:k∈diffTo l was n↔∃ i,i<n/\sizeL (norm (domOf was (l.getD i 0)))=1/\∃ m,m<l.length/\m≠i/\k=(l.getD m 0,complL (domOf was (l.getD i 0))):=by
 unfold diffTo diffAt
 rw [List.mem_flatMap]
 constructor
 ·rintro ⟨i,hi,hk⟩
  split at hk
  ·rename_i hs
   obtain ⟨m,hm,hk2⟩:=List.mem_flatMap.1 hk
   split at hk2
   ·cases hk2
   ·rename_i hmi
    exact ⟨i,List.mem_range.1 hi,hs,m,List.mem_range.1 hm,hmi,List.mem_singleton.1 hk2⟩
  ·cases hk
 ·rintro ⟨i,hi,hs,m,hm,hmi,rfl⟩
  refine ⟨i,List.mem_range.2 hi,?_⟩
  rw [if_pos hs]
  refine List.mem_flatMap.2 ⟨m,List.mem_range.2 hm,?_⟩
  rw [if_neg hmi]
  exact List.mem_singleton.2 rfl
theorem narrow_keys {p:PL} {was:Ds} {ks:Ks} (hg:p.Good was.length) (h1:narrowKs p was=some ks) {k:Int×List Rg} (hk:k∈ks):k.1∈p.all:=by
 unfold narrowKs at h1
 rcases hg.kind with k1 | k2 | k3 | k4
 ·rw [if_pos k1] at h1
  unfold linKs at h1
  obtain ⟨o,_,rfl⟩:=Option.map_eq_some_iff.1 h1
  obtain ⟨v,hv,rfl⟩:=List.mem_map.1 hk
  unfold PL.all allL;rw [if_pos k1];exact hv
 ·rw [if_neg (by omega),if_pos k2] at h1
  injection h1 with h1
  subst h1
  unfold prodKs at hk
  simp only [List.mem_cons,List.not_mem_nil,or_false] at hk
  unfold PL.all allL;rw [if_neg (by omega),if_pos k2]
  rcases hk with rfl | rfl | rfl <;> simp
 ·rw [if_neg (by omega),if_neg (by omega),if_pos k3] at h1
  injection h1 with h1
  subst h1
  obtain ⟨i,hi,hs,m,hm,hmi,rfl⟩:=mem_diffTo.1 hk
  unfold PL.all allL;rw [if_neg (by omega),if_neg (by omega),if_pos k3]
  dsimp only
  rw [List.getD_eq_getElem?_getD,List.getElem?_eq_getElem hm];exact List.getElem_mem hm
 ·rw [if_neg (by omega),if_neg (by omega),if_neg (by omega)] at h1
  have hcase:∀ o:Option Ks,o=some ks->(∀ ks',o=some ks'->∀ k∈ks',k.1=p.x\/k.1∈p.vars)->k.1=p.x\/k.1∈p.vars:=fun o ho hh=>hh ks ho k hk
  have hl2:∀ (rel c:Int) (coef:List Int) (ks':Ks),(linKs rel c (coef.zip p.vars) p.vars was).map (fun ks=>(p.x,mayL (saysL p.rel p.c was (p.coef.zip p.vars)))::ks)=some ks'->∀ k∈ks',k.1=p.x\/k.1∈p.vars:=fun rel c coef ks' h k hk=>by
   obtain ⟨ks2,h3,rfl⟩:=Option.map_eq_some_iff.1 h
   unfold linKs at h3
   obtain ⟨o,_,rfl⟩:=Option.map_eq_some_iff.1 h3
   rcases List.mem_cons.1 hk with rfl | hk
   ·exact .inl rfl
   ·obtain ⟨v,hv,rfl⟩:=List.mem_map.1 hk
    exact .inr hv
  have:=hcase _ h1 (fun ks' h k hk=>by
   unfold reifKs at h
   dsimp only at h
   split at h
   ·exact hl2 _ _ _ _ h k hk
   ·split at h
    ·exact hl2 _ _ _ _ h k hk
    ·injection h with h
     subst h
     rw [List.mem_singleton.1 hk];exact .inl rfl)
  unfold PL.all allL;rw [if_neg (by omega),if_neg (by omega),if_neg (by omega),if_pos k4]
  rcases this with e | e
  ·rw [e];simp
  ·exact List.mem_cons_of_mem _ e
theorem onceP_parts {p:PL} {ds r:Ds} (h:onceP p ds=some r):anyNil p.all (ds.map norm)=false/\∃ ks,narrowKs p (ds.map norm)=some ks/\r=keepsL ks (ds.map norm)/\anyNil p.all r=false:=by
 unfold onceP at h
 split at h
 ·cases h
 ·rename_i hn
  refine ⟨by simpa using hn,?_⟩
  cases hk:narrowKs p (ds.map norm) with
  | none=>rw [hk] at h;cases h
  | some ks =>
   rw [hk] at h
   dsimp only at h
   split at h
   ·cases h
   ·rename_i hn2
    injection h with h
    exact ⟨ks,rfl,h.symm,by rw [<- h];simpa using hn2⟩
theorem onceP_len {p:PL} {ds r:Ds} (h:onceP p ds=some r):r.length=ds.length:=by
 obtain ⟨_,ks,_,rfl,_⟩:=onceP_parts h
 rw [keepsL_len];simp
theorem onceP_normal {p:PL} {ds r:Ds} (h:onceP p ds=some r):AllN r:=by
 obtain ⟨_,ks,_,rfl,_⟩:=onceP_parts h
 exact allN_keeps _ (allN_norm ds)
theorem onceP_sub {p:PL} {ds r:Ds} (h:onceP p ds=some r) (j:Nat) (x:Int) (hx:memL (r.getD j []) x=true):memL ((ds.map norm).getD j []) x=true:=by
 obtain ⟨_,ks,_,rfl,_⟩:=onceP_parts h
 exact keeps_sub ks (allN_norm ds) j x hx
theorem anyNil_false {l:List Int} {ds:Ds}:anyNil l ds=false↔∀ v∈l,domOf ds v≠[]:=by
 unfold anyNil
 rw [List.any_eq_false]
 simp
theorem onceP_some_of {p:PL} {ds:Ds} {ks:Ks} (h:anyNil p.all (ds.map norm)=false) (hk:narrowKs p (ds.map norm)=some ks) (he:anyNil p.all (keepsL ks (ds.map norm))=false):onceP p ds=some (keepsL ks (ds.map norm)):=by
 unfold onceP;rw [if_neg (by rw [h];simp),hk];dsimp only;rw [if_neg (by rw [he];simp)]
theorem keeps_other {ks:Ks} {out:Ds} {j:Nat} (h:∀ k∈ks,k.1.toNat≠j):(keepsL ks out).getD j []=out.getD j []:=by
 induction ks generalizing out with
 | nil=>rfl
 | cons k ks ih =>
  show (keepsL ks (keepL out k)).getD j []=_
  rw [ih (fun q hq=>h q (List.mem_cons_of_mem _ hq))]
  unfold keepL
  rw [getD_set,if_neg (fun e=>h k (by simp) e.1)]
theorem onceP_other {p:PL} {ds r:Ds} (hg:p.Good ds.length) (h:onceP p ds=some r) {j:Nat} (hj:∀ v∈p.all,v.toNat≠j):r.getD j []=(ds.map norm).getD j []:=by
 obtain ⟨_,ks,hk,rfl,_⟩:=onceP_parts h
 exact keeps_other (fun k hk2=>hj _ (narrow_keys (by simpa using hg) hk hk2))
theorem one_mem (v x:Int):memL [(v,v)] x=decide (x=v):=by rw [Bool.eq_iff_iff];simp [memL];omega
end
end Go.Proofs.YtaekdgikgbdnnaaGreat
