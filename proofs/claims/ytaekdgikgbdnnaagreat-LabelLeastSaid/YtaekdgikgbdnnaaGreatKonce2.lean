/-
  PLAIN LAWS: of smaller sets what a constraint says once is smaller (or nothing); what it says hangs on its own variables alone; no program.
  PLAIN LAWS of constraints together: the greatest sets at which none says anything new; no program.
  PLAIN LAWS of the walk through the constraints that wait: what is woken, what rests; no program.
  PLAIN LAWS of the document's rounds: what is marked; no program.
-/
import Derived.Test.YtaekdgikgbdnnaaGreatKonce1
namespace Go.Proofs.YtaekdgikgbdnnaaGreat
section
def LeOn (l:List Int) (a b:Ds):Prop:=∀ v∈l,∀ x,memL (domOf a v) x=true->memL (domOf b v) x=true
theorem onceGo_subJ (J:Nat->Prop) (rel c:Int) (ds' ds:Ds) (all:Ps) (h:∀ p∈all,SubD (domOf ds' p.2) (domOf ds p.2)) (ho:allOk ds' all=true) :
  ∀ (ps:Ps) (o' o r':Ds),(∀ p∈ps,p∈all)->o'.length=o.length->(∀ j,J j->∀ x,memL (o'.getD j []) x=true->memL (o.getD j []) x=true) ->
   onceGo rel c ds' (loS ds' all) (hiS ds' all) ps o'=some r'->∃ r,onceGo rel c ds (loS ds all) (hiS ds all) ps o=some r/\∀ j,J j->∀ x,memL (r'.getD j []) x=true->memL (r.getD j []) x=true
 | [],o',o,r',_,_,hs,hr=>by simp [onceGo] at hr;subst hr;exact ⟨o,rfl,hs⟩
 | p::ps,o',o,r',hin,hl,hs,hr=>by
  unfold onceGo at hr |-
  split at hr
  ·cases hr
  ·rename_i hne
   have hsub:=narrow_sub rel c ds' ds all h ho p (hin p (by simp))
   obtain ⟨x,hx⟩:=normal_some (narrow_normal _ _ _ _ _ _) hne
   rw [if_neg (mem_ne_nil (hsub x hx))]
   refine onceGo_subJ J rel c ds' ds all h ho ps _ _ r' (fun q hq=>hin q (by simp [hq])) (by simpa using hl) (fun j hj y hy=>?_) hr
   rw [getD_set] at hy |-
   by_cases hc:p.2.toNat=j/\j<o'.length
   ·rw [if_pos hc] at hy;rw [if_pos ⟨hc.1,by omega⟩];exact hsub y hy
   ·rw [if_neg hc] at hy;rw [if_neg (by rw [<- hl];exact hc)];exact hs j hj y hy
theorem once_subJ (J:Nat->Prop) (rel c:Int) (ds' ds:Ds) (ps:Ps) (hl:ds'.length=ds.length) (h':∀ p∈ps,SubD (domOf ds' p.2) (domOf ds p.2)) (h:∀ j,J j->SubD (ds'.getD j []) (ds.getD j [])) (r':Ds) (hr:onceL rel c ds' ps=some r') :
  ∃ r,onceL rel c ds ps=some r/\∀ j,J j->∀ x,memL (r'.getD j []) x=true->memL (r.getD j []) x=true:=by
 unfold onceL at *
 split at hr
 ·rename_i ho
  rw [if_pos (allOk_sub ds' ds ps h' ho)]
  split at hr
  ·cases hr
  ·rename_i hn
   rw [if_neg (by
    rintro ⟨rfl,h2⟩
    rw [says_nil] at h2
    exact hn ⟨rfl,(says_nil _ _ _).2 h2⟩)]
   refine onceGo_subJ J rel c ds' ds ps h' ho ps _ _ r' (fun _ h=>h) (by simpa using hl) (fun j hj x hx=>?_) hr
   rw [getD_map_norm] at *
   exact h j hj x hx
 ·cases hr
theorem subD_on {l:List Int} {A B:Ds} (hA:AllN A) (hB:AllN B) (h:LeOn l A B) {v:Int} (hv:v∈l):SubD (domOf A v) (domOf B v):=fun x hx=>by
 have e1:norm (domOf A v)=domOf A v:=norm_of_normal (hA _)
 have e2:norm (domOf B v)=domOf B v:=norm_of_normal (hB _)
 rw [e1] at hx;rw [e2]
 exact h v hv x hx
theorem lin_mono {rel c:Int} {ps:Ps} {vars:List Int} {A B:Ds} (hA:AllN A) (hB:AllN B) (hl:A.length=B.length) (hps:∀ p∈ps,p.2∈vars) (h:LeOn vars A B) {ks:Ks} (hk:linKs rel c ps vars A=some ks) :
  ∃ ks',linKs rel c ps vars B=some ks'/\∀ k'∈ks',∃ k∈ks,k.1=k'.1/\∀ x,memL k.2 x=true->memL k'.2 x=true:=by
 unfold linKs at hk |-
 obtain ⟨o,ho,rfl⟩:=Option.map_eq_some_iff.1 hk
 obtain ⟨r,hr,hs⟩:=once_subJ (fun j=>∃ v∈vars,v.toNat=j) rel c A B ps hl (fun p hp=>subD_on hA hB h (hps p hp)) (fun j ⟨v,hv,e⟩=>by subst e;exact subD_on hA hB h hv) o ho
 rw [hr]
 refine ⟨_,rfl,fun k' hk'=>?_⟩
 obtain ⟨v,hv,rfl⟩:=List.mem_map.1 hk'
 exact ⟨(v,domOf o v),List.mem_map.2 ⟨v,hv,rfl⟩,rfl,fun x hx=>hs v.toNat ⟨v,hv,rfl⟩ x hx⟩
theorem keeps_in {ks:Ks} {A:Ds} (hA:AllN A) {v x:Int} (hv:v.toNat<A.length) (hx:memL (domOf (keepsL ks A) v) x=true):memL (domOf A v) x=true/\∀ k∈ks,k.1=v->memL k.2 x=true:=by
 have hx':memL ((keepsL ks A).getD v.toNat []) x=true:=hx
 rw [keepsL_mem x _ ks hA hv,Bool.and_eq_true,List.all_eq_true] at hx'
 refine ⟨hx'.1,fun k hk e=>?_⟩
 have:=hx'.2 k hk
 rw [e] at this
 simpa using this
theorem ends_mono {d e:List Rg} (hd:Normal d) (he:Normal e) (hne:d≠[]) (h:∀ x,memL d x=true->memL e x=true):loD e<=loD d/\hiD d<=hiD e/\loD d<=hiD d:=by
 have hn:=norm_of_normal hd
 have hok:okT d=true:=by rw [okT_nil,hn];simp [hne]
 have h1:memL d (loD d)=true:=by have:=(ends_in d hok).1;unfold loD;rw [hn] at *;exact this
 have h2:memL d (hiD d)=true:=by have:=(ends_in d hok).2;unfold hiD;rw [hn] at *;exact this
 exact ⟨(lo_hi he (h _ h1)).1,(lo_hi he (h _ h2)).2,(lo_hi hd h1).2⟩
theorem hasW_mono {v lo hi a b lo' hi' a' b':Int} (h1:lo'<=lo) (h2:hi<=hi') (h3:a'<=a) (h4:b<=b') (h:hasW v lo hi a b=true):hasW v lo' hi' a' b'=true:=by
 rw [hasW_iff] at *
 obtain ⟨w,g1,g2,g3,g4⟩:=h
 exact ⟨w,by omega,by omega,by omega,by omega⟩
theorem prodR_mono {X Y X' Y':List Rg} (hx:loD X'<=loD X/\hiD X<=hiD X'/\loD X<=hiD X) (hy:loD Y'<=loD Y/\hiD Y<=hiD Y'/\loD Y<=hiD Y) {v:Int} (h:memL (prodR X Y) v=true):memL (prodR X' Y') v=true:=by
 have c1:=prod_mono (a:=loD X') (b:=hiD X') (e:=loD Y') (f:=hiD Y') (x:=loD X) (y:=loD Y) ⟨by omega,by omega⟩ ⟨by omega,by omega⟩
 have c2:=prod_mono (a:=loD X') (b:=hiD X') (e:=loD Y') (f:=hiD Y') (x:=loD X) (y:=hiD Y) ⟨by omega,by omega⟩ ⟨by omega,by omega⟩
 have c3:=prod_mono (a:=loD X') (b:=hiD X') (e:=loD Y') (f:=hiD Y') (x:=hiD X) (y:=loD Y) ⟨by omega,by omega⟩ ⟨by omega,by omega⟩
 have c4:=prod_mono (a:=loD X') (b:=hiD X') (e:=loD Y') (f:=hiD Y') (x:=hiD X) (y:=hiD Y) ⟨by omega,by omega⟩ ⟨by omega,by omega⟩
 unfold prodR at *
 generalize min4 (loD X' * loD Y') (loD X' * hiD Y') (hiD X' * loD Y') (hiD X' * hiD Y')=m' at *
 generalize max4 (loD X' * loD Y') (loD X' * hiD Y') (hiD X' * loD Y') (hiD X' * hiD Y')=M' at *
 generalize loD X * loD Y=p1 at *
 generalize loD X * hiD Y=p2 at *
 generalize hiD X * loD Y=p3 at *
 generalize hiD X * hiD Y=p4 at *
 simp only [memL,List.any_cons,List.any_nil,Bool.or_false,Bool.and_eq_true,decide_eq_true_eq] at h |-
 unfold min4 max4 at h
 omega
theorem yes_mono {rel c lo hi lo' hi':Int} (h1:lo<=lo') (h2:hi'<=hi) (h3:lo'<=hi') (h:yesL rel c lo hi=true):yesL rel c lo' hi'=true:=by
 unfold yesL at *
 split
 ·rename_i h4;rw [if_pos h4] at h;simp at *;omega
 ·rename_i h4
  rw [if_neg h4] at h
  split
  ·rename_i h5;rw [if_pos h5] at h;simp at *;omega
  ·rename_i h5;rw [if_neg h5] at h;simp at *;omega
theorem no_mono {rel c lo hi lo' hi':Int} (h1:lo<=lo') (h2:hi'<=hi) (h3:lo'<=hi') (h:noL rel c lo hi=true):noL rel c lo' hi'=true:=by
 unfold noL at *
 split
 ·rename_i h4;rw [if_pos h4] at h;simp at *;omega
 ·rename_i h4
  rw [if_neg h4] at h
  split
  ·rename_i h5;rw [if_pos h5] at h;simp at *;omega
  ·rename_i h5;rw [if_neg h5] at h;simp at *;omega
theorem yes_no {rel c lo hi:Int} (h3:lo<=hi) (h:noL rel c lo hi=true):yesL rel c lo hi=false:=by
 unfold noL at h
 unfold yesL
 split
 ·rename_i h4;rw [if_pos h4] at h;simp at *;omega
 ·rename_i h4
  rw [if_neg h4] at h
  split
  ·rename_i h5;rw [if_pos h5] at h;simp at *;omega
  ·rename_i h5;rw [if_neg h5] at h;simp at *;omega
theorem says_mono {rel c:Int} {A B:Ds} {ps:Ps} (h:∀ p∈ps,SubD (domOf A p.2) (domOf B p.2)) (ho:allOk A ps=true) :
  (saysL rel c B ps=1->saysL rel c A ps=1)/\(saysL rel c B ps=-1->saysL rel c A ps=-1):=by
 have hB:=allOk_sub A B ps h ho
 obtain ⟨a,b⟩:=sums_sub A B ps h ho
 have c1:=(sums_le_but A ps ho).1
 unfold saysL
 rw [if_pos ho,if_pos hB]
 by_cases y:yesL rel c (loS B ps) (hiS B ps)=true
 ·have y2:=yes_mono a b c1 y
  rw [if_pos y,if_pos y2];simp
 ·rw [if_neg y]
  by_cases n:noL rel c (loS B ps) (hiS B ps)=true
  ·have n2:=no_mono a b c1 n
   rw [if_pos n,if_neg (by rw [yes_no c1 n2];decide),if_pos n2];simp
  ·rw [if_neg n];simp
theorem may_mono {s t x:Int} (h1:t=1->s=1) (h2:t=-1->s=-1) (h:memL (mayL s) x=true):memL (mayL t) x=true:=by
 unfold mayL at *
 by_cases t1:t=1
 ·rw [if_pos t1];rw [if_pos (h1 t1)] at h;exact h
 ·rw [if_neg t1]
  by_cases t2:t=-1
  ·have e:=h2 t2
   rw [if_pos t2];rw [if_neg (by omega),if_pos e] at h;exact h
  ·rw [if_neg t2]
   split at h
   ·simp [memL] at *;omega
   ·split at h
    ·simp [memL] at *;omega
    ·exact h
theorem may_in {s x:Int} (h:memL (mayL s) x=true):x=0\/x=1:=by
 unfold mayL at h
 split at h
 ·simp [memL] at h;omega
 ·split at h
  ·simp [memL] at h;omega
  ·simp [memL] at h;omega
theorem inD01:inD 0=true/\inD 1=true:=by decide
theorem narrow_mono {p:PL} {A B:Ds} (hg:p.Good A.length) (hl:A.length=B.length) (hA:AllN A) (hB:AllN B) (h:LeOn p.all A B) (hne:anyNil p.all A=false) {ks:Ks} (hk:narrowKs p A=some ks)
  (hne2:anyNil p.all (keepsL ks A)=false):∃ ks',narrowKs p B=some ks'/\∀ k'∈ks',∀ x,memL (domOf (keepsL ks A) k'.1) x=true->memL k'.2 x=true:=by
 have hv:=hg.vars
 rw [anyNil_false] at hne hne2
 unfold narrowKs at hk |-
 rcases hg.kind with k1 | k2 | k3 | k4
 ·have hall:p.all=p.vars:=by unfold PL.all allL;rw [if_pos k1]
  rw [hall] at hv h
  rw [if_pos k1] at hk |-
  obtain ⟨ks',h1,h2⟩:=lin_mono hA hB hl (fun q hq=>zip_vars q hq) h hk
  refine ⟨ks',h1,fun k' hk' x hx=>?_⟩
  obtain ⟨k,hkm,e,hs⟩:=h2 k' hk'
  have hm:=narrow_keys hg (by unfold narrowKs;rw [if_pos k1];exact hk) hkm
  rw [e,hall] at hm
  exact hs x ((keeps_in hA (hv _ hm).2 hx).2 k hkm e)
 ·have hall:p.all=[p.x,p.y,p.z]:=by unfold PL.all allL;rw [if_neg (by omega),if_pos k2]
  rw [hall] at hv h hne
  rw [if_neg (by omega),if_pos k2] at hk |-
  injection hk with hk
  refine ⟨_,rfl,?_⟩
  have ex:=ends_mono (hA p.x.toNat) (hB p.x.toNat) (hne p.x (by simp)) (h p.x (by simp))
  have ey:=ends_mono (hA p.y.toNat) (hB p.y.toNat) (hne p.y (by simp)) (h p.y (by simp))
  have ez:=ends_mono (hA p.z.toNat) (hB p.z.toNat) (hne p.z (by simp)) (h p.z (by simp))
  have hkx:=fun x hx=>keeps_in (ks:=ks) hA (v:=p.x) (x:=x) (hv p.x (by simp)).2 hx
  have hky:=fun x hx=>keeps_in (ks:=ks) hA (v:=p.y) (x:=x) (hv p.y (by simp)).2 hx
  have hkz:=fun x hx=>keeps_in (ks:=ks) hA (v:=p.z) (x:=x) (hv p.z (by simp)).2 hx
  intro k' hk' x hx
  unfold prodKs at hk'
  rcases List.mem_cons.1 hk' with rfl | hk'
  ·obtain ⟨m1,m2⟩:=hkx x hx
   have m3:=m2 (p.x,factorsL (domOf A p.x) (loD (domOf A p.y)) (hiD (domOf A p.y)) (loD (domOf A p.z)) (hiD (domOf A p.z))) (by rw [<- hk];simp [prodKs]) rfl
   dsimp only at m3;rw [factors_mem (show Normal (domOf A p.x) from hA _),Bool.and_eq_true] at m3
   dsimp only
   rw [factors_mem (show Normal (domOf B p.x) from hB _),Bool.and_eq_true]
   exact ⟨h p.x (by simp) x m1,hasW_mono ey.1 ey.2.1 ez.1 ez.2.1 m3.2⟩
  ·rcases List.mem_cons.1 hk' with rfl | hk'
   ·obtain ⟨m1,m2⟩:=hky x hx
    have m3:=m2 (p.y,factorsL (domOf A p.y) (loD (domOf A p.x)) (hiD (domOf A p.x)) (loD (domOf A p.z)) (hiD (domOf A p.z))) (by rw [<- hk];simp [prodKs]) rfl
    dsimp only at m3;rw [factors_mem (show Normal (domOf A p.y) from hA _),Bool.and_eq_true] at m3
    dsimp only
    rw [factors_mem (show Normal (domOf B p.y) from hB _),Bool.and_eq_true]
    exact ⟨h p.y (by simp) x m1,hasW_mono ex.1 ex.2.1 ez.1 ez.2.1 m3.2⟩
   ·rcases List.mem_cons.1 hk' with rfl | hk'
    ·obtain ⟨m1,m2⟩:=hkz x hx
     have m3:=m2 (p.z,prodR (domOf A p.x) (domOf A p.y)) (by rw [<- hk];simp [prodKs]) rfl
     exact prodR_mono ex ey m3
    ·cases hk'
 ·have hall:p.all=p.vs:=by unfold PL.all allL;rw [if_neg (by omega),if_neg (by omega),if_pos k3]
  rw [hall] at hv h hne
  rw [if_neg (by omega),if_neg (by omega),if_pos k3] at hk |-
  injection hk with hk
  refine ⟨_,rfl,fun k' hk' x hx=>?_⟩
  obtain ⟨i,hi,h1,m,hm,hmi,rfl⟩:=mem_diffTo.1 hk'
  have hvi:p.vs.getD i 0∈p.vs:=by rw [List.getD_eq_getElem?_getD,List.getElem?_eq_getElem hi];exact List.getElem_mem hi
  have hvm:p.vs.getD m 0∈p.vs:=by rw [List.getD_eq_getElem?_getD,List.getElem?_eq_getElem hm];exact List.getElem_mem hm
  have hal:=one_alone (show Normal (domOf B (p.vs.getD i 0)) from hB _) h1
  obtain ⟨y,hy⟩:=normal_some (show Normal (domOf A (p.vs.getD i 0)) from hA _) (hne _ hvi)
  have hyB:=h _ hvi y hy
  rw [hal] at hyB
  have e1:domOf B (p.vs.getD i 0)=[(y,y)]:=by unfold aloneL at hyB;simpa using hyB
  have e2:domOf A (p.vs.getD i 0)=[(y,y)]:=by
   rw [<- e1]
   refine normal_unique (hA _) (hB _) (fun z=>?_)
   rw [Bool.eq_iff_iff]
   constructor
   ·exact h _ hvi z
   ·intro hz
    have hz':memL (domOf B (p.vs.getD i 0)) z=true:=hz
    rw [e1,one_mem,decide_eq_true_eq] at hz'
    subst hz';exact hy
  refine (keeps_in hA (hv _ hvm).2 hx).2 (p.vs.getD m 0,complL (domOf B (p.vs.getD i 0))) ?_ rfl
  rw [<- hk,mem_diffTo]
  exact ⟨i,hi,by rw [e2,<- e1];exact h1,m,hm,hmi,by rw [e1,e2]⟩
 ·have hall:p.all=p.x::p.vars:=by unfold PL.all allL;rw [if_neg (by omega),if_neg (by omega),if_neg (by omega),if_pos k4]
  have hnk:∀ k∈ks,k.1∈p.all:=fun k hkm=>narrow_keys (was:=A) (ks:=ks) hg (by unfold narrowKs;exact hk) hkm
  rw [hall] at hv h hne hne2 hnk
  rw [if_neg (by omega),if_neg (by omega),if_neg (by omega)] at hk |-
  have hx0:=(hv p.x (by simp)).2
  have hsub:∀ q∈p.coef.zip p.vars,SubD (domOf A q.2) (domOf B q.2):=fun q hq=>subD_on hA hB h (List.mem_cons_of_mem _ (zip_vars q hq))
  have hok:allOk A (p.coef.zip p.vars)=true:=by
   unfold allOk
   rw [List.all_eq_true]
   intro q hq
   rw [okT_nil,norm_of_normal (show Normal (domOf A q.2) from hA _)]
   have:=hne q.2 (List.mem_cons_of_mem _ (zip_vars q hq))
   simpa using this
  obtain ⟨s1,s2⟩:=says_mono (rel:=p.rel) (c:=p.c) hsub hok
  have hmayin:(p.x,mayL (saysL p.rel p.c A (p.coef.zip p.vars)))∈ks:=by
   unfold reifKs at hk
   dsimp only at hk
   split at hk
   ·obtain ⟨_,_,rfl⟩:=Option.map_eq_some_iff.1 hk;exact List.mem_cons_self ..
   ·split at hk
    ·obtain ⟨_,_,rfl⟩:=Option.map_eq_some_iff.1 hk;exact List.mem_cons_self ..
    ·injection hk with hk;subst hk;exact List.mem_cons_self ..
  have hmay:∀ x,memL (domOf (keepsL ks A) p.x) x=true->memL (mayL (saysL p.rel p.c B (p.coef.zip p.vars))) x=true:=fun x hx =>
   may_mono s1 s2 ((keeps_in hA hx0 hx).2 _ hmayin rfl)
  obtain ⟨x0,hxx⟩:=normal_some (allN_keeps ks hA p.x.toNat) (hne2 p.x (by simp))
  have hk0:=keeps_in hA hx0 hxx
  have h01:=may_in (hk0.2 _ hmayin rfl)
  have hxA:=hk0.1
  have hle:=h p.x (by simp)
  have hlv:LeOn p.vars A B:=fun v hv=>h v (List.mem_cons_of_mem _ hv)
  have tail:∀ (rel c:Int) (coef:List Int) (l:Ks),linKs rel c (coef.zip p.vars) p.vars A=some l->(∀ k∈l,k∈ks)->∃ l',linKs rel c (coef.zip p.vars) p.vars B=some l'/\∀ k'∈l',∀ x,memL (domOf (keepsL ks A) k'.1) x=true->memL k'.2 x=true:=fun rel c coef l hlk hin=>by
   obtain ⟨l',h1,h2⟩:=lin_mono hA hB hl (fun q hq=>zip_vars q hq) hlv hlk
   refine ⟨l',h1,fun k' hk' x hx=>?_⟩
   obtain ⟨k,hkm,e,hs⟩:=h2 k' hk'
   have hm:=hnk k (hin k hkm)
   rw [e] at hm
   exact hs x ((keeps_in hA (hv _ hm).2 hx).2 k (hin k hkm) e)
  unfold reifKs at hk |-
  dsimp only at hk |-
  rw [inD01.1,inD01.2,Bool.true_and,Bool.true_and] at hk |-
  by_cases b1:memL (domOf B p.x) 1=true
  ·by_cases b0:memL (domOf B p.x) 0=true
   ·rw [b1,b0,if_neg (by decide),if_neg (by decide)]
    refine ⟨_,rfl,fun k' hk' x hx=>?_⟩
    rw [List.mem_singleton] at hk'
    subst hk'
    exact hmay x hx
   ·have a0:memL (domOf A p.x) 0=false:=by
     cases e:memL (domOf A p.x) 0 with
     | false=>rfl
     | true=>exact absurd (hle 0 e) b0
    have a1:memL (domOf A p.x) 1=true:=by
     rcases h01 with rfl | rfl
     ·have hxA':memL (domOf A p.x) 0=true:=hxA
      rw [a0] at hxA';cases hxA'
     ·exact hxA
    have b0':memL (domOf B p.x) 0=false:=by simpa using b0
    rw [a1,a0,if_pos (by decide)] at hk
    rw [b1,b0',if_pos (by decide)]
    obtain ⟨l,hlk,rfl⟩:=Option.map_eq_some_iff.1 hk
    obtain ⟨l',h1,h2⟩:=tail _ _ _ l hlk (fun k hkm=>List.mem_cons_of_mem _ hkm)
    rw [h1]
    refine ⟨_,rfl,fun k' hk' x hx=>?_⟩
    rcases List.mem_cons.1 hk' with rfl | hk'
    ·exact hmay x hx
    ·exact h2 k' hk' x hx
  ·have b1':memL (domOf B p.x) 1=false:=by simpa using b1
   have a1:memL (domOf A p.x) 1=false:=by
    cases e:memL (domOf A p.x) 1 with
    | false=>rfl
    | true=>exact absurd (hle 1 e) b1
   have a0:memL (domOf A p.x) 0=true:=by
    rcases h01 with rfl | rfl
    ·exact hxA
    ·have hxA':memL (domOf A p.x) 1=true:=hxA
     rw [a1] at hxA';cases hxA'
   have b0:=hle 0 a0
   rw [a1,a0,if_neg (by decide),if_pos (by decide)] at hk
   rw [b1',b0,if_neg (by decide),if_pos (by decide)]
   obtain ⟨l,hlk,rfl⟩:=Option.map_eq_some_iff.1 hk
   obtain ⟨l',h1,h2⟩:=tail _ _ _ l hlk (fun k hkm=>List.mem_cons_of_mem _ hkm)
   rw [h1]
   refine ⟨_,rfl,fun k' hk' x hx=>?_⟩
   rcases List.mem_cons.1 hk' with rfl | hk'
   ·exact hmay x hx
   ·exact h2 k' hk' x hx
theorem not_nil_of {l:List Int} {a b:Ds} (ha:AllN a) (h:LeOn l a b) (hn:anyNil l a=false):anyNil l b=false:=by
 rw [anyNil_false] at *
 intro v hv
 obtain ⟨x,hx⟩:=normal_some (ha v.toNat) (hn v hv)
 exact mem_ne_nil (h v hv x hx)
theorem onceP_mono {p:PL} {a b r:Ds} (hg:p.Good a.length) (hl:a.length=b.length) (h:∀ j x,memL ((a.map norm).getD j []) x=true->memL ((b.map norm).getD j []) x=true) (hr:onceP p a=some r) :
  ∃ s,onceP p b=some s/\∀ j x,memL (r.getD j []) x=true->memL (s.getD j []) x=true:=by
 obtain ⟨h1,ks,hk,rfl,h2⟩:=onceP_parts hr
 have hA:=allN_norm a
 have hB:=allN_norm b
 have hlA:(a.map norm).length=(b.map norm).length:=by simpa using hl
 have hg':p.Good (a.map norm).length:=by simpa using hg
 have hle:LeOn p.all (a.map norm) (b.map norm):=fun v _ x hx=>h v.toNat x hx
 obtain ⟨ks',hk',hin⟩:=narrow_mono hg' hlA hA hB hle h1 hk h2
 have hsub:∀ j x,memL ((keepsL ks (a.map norm)).getD j []) x=true->memL ((keepsL ks' (b.map norm)).getD j []) x=true:=fun j x hx=>by
  by_cases hj:j<(a.map norm).length
  ·have hj':j<(b.map norm).length:=by rw [<- hlA];exact hj
   rw [keepsL_mem x j ks' hB hj',Bool.and_eq_true,List.all_eq_true]
   have hx2:=hx
   rw [keepsL_mem x j ks hA hj,Bool.and_eq_true] at hx2
   refine ⟨h j x hx2.1,fun k' hkm=>?_⟩
   by_cases e:k'.1.toNat=j
   ·subst e
    have:=hin k' hkm x hx
    simp [this]
   ·simp [e]
  ·rw [List.getD_eq_getElem?_getD,List.getElem?_eq_none (by rw [keepsL_len];omega)] at hx
   simp [memL] at hx
 have hN:=allN_keeps ks hA
 refine ⟨_,onceP_some_of (not_nil_of hA hle h1) hk' (not_nil_of hN (fun v _ x hx=>hsub v.toNat x hx) h2),hsub⟩
theorem onceP_stable {p:PL} {a b:Ds} (hg:p.Good a.length) (hl:a.length=b.length) (ha:AllN a) (hb:AllN b) (h:∀ v∈p.all,domOf a v=domOf b v) (hr:onceP p a=some a):onceP p b=some b:=by
 obtain ⟨h1,ks,hk,e,h2⟩:=onceP_parts hr
 rw [norm_getD ha] at h1 hk e
 have hle:LeOn p.all a b:=fun v hv x hx=>by rw [<- h v hv];exact hx
 obtain ⟨ks',hk',hin⟩:=narrow_mono hg hl ha hb hle h1 hk (by rw [<- e];exact h2)
 rw [<- e] at hin
 have hbn:=norm_getD hb
 have e':keepsL ks' b=b:=by
  refine ds_ext (keepsL_len _ _) (allN_keeps ks' hb) hb (fun j hj x=>?_)
  rw [keepsL_len] at hj
  rw [keepsL_mem x j ks' hb hj,Bool.eq_iff_iff,Bool.and_eq_true,List.all_eq_true]
  refine ⟨fun q=>q.1,fun hx=>⟨hx,fun k' hkm=>?_⟩⟩
  by_cases ej:k'.1.toNat=j
  ·subst ej
   have hm:=narrow_keys (by rw [<- hl];exact hg) hk' hkm
   have:=hin k' hkm x (by rw [h _ hm];exact hx)
   simp [this]
  ·simp [ej]
 have:=onceP_some_of (p:=p) (ds:=b) (ks:=ks') (by rw [hbn];exact not_nil_of ha hle h1) (by rw [hbn];exact hk') (by rw [hbn,e'];exact not_nil_of ha hle h1)
 rw [hbn,e'] at this
 exact this
def InPs (L:List Int) (ps:List PL):Prop:=∀ i∈L,0<=i/\i.toNat<ps.length
def LeD (a b:Ds):Prop:=∀ j x,memL (a.getD j []) x=true->memL (b.getD j []) x=true
theorem LeD.refl (a:Ds):LeD a a:=fun _ _ h=>h
theorem LeD.trans {a b c:Ds} (h:LeD a b) (g:LeD b c):LeD a c:=fun j x hx=>g j x (h j x hx)
theorem LeD.eq {a b:Ds} (hl:a.length=b.length) (ha:AllN a) (hb:AllN b) (h:LeD a b) (g:LeD b a):a=b :=
 ds_ext hl ha hb fun j _ x=>by rw [Bool.eq_iff_iff];exact ⟨h j x,g j x⟩
def AllE (a:Ds):Prop:=∀ j,j<a.length->a.getD j []≠[]
structure Common (ps:List PL) (D e:Ds):Prop where
 len:e.length=D.length
 nor:AllN e
 non:AllE e
 sub:LeD e (D.map norm)
 fix:∀ p∈ps,onceP p e=some e
def FixOf (ps:List PL) (D:Ds):Option Ds->Prop
 | some r=>Common ps D r/\∀ e,Common ps D e->LeD e r
 | none=>∀ e,¬ Common ps D e
theorem fixOf_unique {ps:List PL} {D:Ds}:∀ {R R':Option Ds},FixOf ps D R->FixOf ps D R'->R=R'
 | none,none,_,_=>rfl
 | none,some r,h,h'=>absurd h'.1 (h r)
 | some r,none,h,h'=>absurd h.1 (h' r)
 | some _,some _,h,h'=>by rw [LeD.eq (h.1.len.trans h'.1.len.symm) h.1.nor h'.1.nor (h'.2 _ h.1) (h.2 _ h'.1)]
structure OnWay (ps:List PL) (D now:Ds):Prop where
 len:now.length=D.length
 nor:AllN now
 non:AllE now
 sub:LeD now (D.map norm)
 big:∀ e,Common ps D e->LeD e now
theorem onWay_start {ps:List PL} {D:Ds} (h:AllE (D.map norm)):OnWay ps D (D.map norm):=⟨by simp,allN_norm D,h,LeD.refl _,fun _ he=>he.sub⟩
theorem onWay_none {ps:List PL} {D:Ds} {j:Nat} (hj:j<D.length) (h:norm (D.getD j [])=[]):FixOf ps D none:=fun e he=>by
 have hj':j<e.length:=by rw [he.len];exact hj
 obtain ⟨x,hx⟩:=normal_some (he.nor j) (he.non j hj')
 have:=he.sub j x hx
 rw [getD_map_norm,h] at this
 simp [memL] at this
theorem once_big {p:PL} {e now:Ds} (hg:p.Good e.length) (hl:e.length=now.length) (he:AllN e) (hn:AllN now) (h:LeD e now) (hf:onceP p e=some e):∃ d,onceP p now=some d/\LeD e d :=
 onceP_mono hg hl (by rw [norm_getD he,norm_getD hn];exact h) hf
theorem onWay_step {ps:List PL} {D now d:Ds} {p:PL} (hp:p∈ps) (hg:p.Good D.length) (h:OnWay ps D now) (ho:onceP p now=some d):OnWay ps D d:=by
 have hl:=onceP_len ho
 have hn:=norm_getD h.nor
 obtain ⟨h1,ks,_,_,h2⟩:=onceP_parts ho
 refine ⟨hl.trans h.len,onceP_normal ho,fun j hj=>?_,fun j x hx=>?_,fun e he=>?_⟩
 ·by_cases hv:∃ v∈p.all,v.toNat=j
  ·obtain ⟨v,hv1,rfl⟩:=hv
   exact (anyNil_false.1 h2) v hv1
  ·rw [onceP_other (by rw [h.len];exact hg) ho (fun v hv1 e=>hv ⟨v,hv1,e⟩),hn]
   exact h.non j (by omega)
 ·have:=onceP_sub ho j x hx
  rw [hn] at this
  exact h.sub j x this
 ·obtain ⟨d',h3,h4⟩:=once_big (by rw [he.len];exact hg) (he.len.trans h.len.symm) he.nor h.nor (h.big e he) (he.fix p hp)
  rw [ho] at h3
  cases h3
  exact h4
theorem onWay_gone {ps:List PL} {D now:Ds} {p:PL} (hp:p∈ps) (hg:p.Good D.length) (h:OnWay ps D now) (ho:onceP p now=none):FixOf ps D none:=fun e he=>by
 obtain ⟨d',h3,_⟩:=once_big (by rw [he.len];exact hg) (he.len.trans h.len.symm) he.nor h.nor (h.big e he) (he.fix p hp)
 rw [ho] at h3
 cases h3
theorem onWay_end {ps:List PL} {D now:Ds} (h:OnWay ps D now) (hs:∀ p∈ps,onceP p now=some now):FixOf ps D (some now):=⟨⟨h.len,h.nor,h.non,h.sub,hs⟩,h.big⟩
theorem cnt_le {S T:Int->Bool} (h:∀ x,S x=true->T x=true):∀ (k:Nat) (n:Int),cnt S k n<=cnt T k n
 | 0,_=>Int.le_refl _
 | k+1,n=>by
  have:=cnt_le h k (n+1)
  unfold cnt
  by_cases hs:S n=true
  ·rw [if_pos hs,if_pos (h n hs)];omega
  ·rw [if_neg hs];split <;> omega
theorem cnt_lt {S T:Int->Bool} (h:∀ x,S x=true->T x=true) {x:Int} (hT:T x=true) (hS:S x=false):∀ (k:Nat) (n:Int),n<=x->x<n+k->cnt S k n<cnt T k n
 | 0,_,h1,h2=>by omega
 | k+1,n,h1,h2=>by
  unfold cnt
  by_cases e:n=x
  ·subst e
   have:=cnt_le h k (n+1)
   rw [hT,hS];simp;omega
  ·have:=cnt_lt h hT hS k (n+1) (by omega) (by omega)
   by_cases hs:S n=true
   ·rw [if_pos hs,if_pos (h n hs)];omega
   ·rw [if_neg hs];split <;> omega
def sizeN (d:List Rg):Nat:=(cnt (memL d) 401 (-200)).toNat
def tot (a:Ds):Nat:=(a.map sizeN).sum
theorem sizeN_le401 (d:List Rg):sizeN d<=401:=by have:=cnt_nonneg (memL d) 401 (-200);unfold sizeN;omega
theorem tot_le:∀ a:Ds,tot a<=401 * a.length
 | []=>by simp [tot]
 | d::a=>by
  have h1:=tot_le a
  have h2:=sizeN_le401 d
  unfold tot at *
  simp only [List.map_cons,List.sum_cons,List.length_cons]
  omega
theorem sizeN_le {a b:List Rg} (h:∀ x,memL a x=true->memL b x=true):sizeN a<=sizeN b:=by
 have:=cnt_le h 401 (-200)
 unfold sizeN;omega
theorem sizeN_lt {a b:List Rg} (ha:Normal a) (hb:Normal b) (h:∀ x,memL a x=true->memL b x=true) (hne:a≠b):sizeN a<sizeN b:=by
 have hx:∃ x,memL b x=true/\memL a x=false:=by
  apply Classical.byContradiction
  intro hn
  apply hne
  refine normal_unique ha hb (fun x=>?_)
  cases hbx:memL b x with
  | false =>
   cases hax:memL a x with
   | false=>rfl
   | true=>rw [h x hax] at hbx;cases hbx
  | true =>
   cases hax:memL a x with
   | true=>rfl
   | false=>exact absurd ⟨x,hbx,hax⟩ hn
 obtain ⟨x,h1,h2⟩:=hx
 have hbd:=memL_bounds hb h1
 have h3:=cnt_lt h h1 h2 401 (-200) hbd.1 (by omega)
 have h4:=cnt_nonneg (memL a) 401 (-200)
 unfold sizeN;omega
theorem tot_lt:∀ {a b:Ds},a.length=b.length->AllN a->AllN b->LeD a b->tot a<=tot b/\(a≠b->tot a<tot b)
 | [],[],_,_,_,_=>⟨rN _,fun h=>absurd rfl h⟩
 | [],_::_,h,_,_,_=>by simp at h
 | _::_,[],h,_,_,_=>by simp at h
 | d::a,e::b,hl,ha,hb,h=>by
  have hl':a.length=b.length:=by simpa using hl
  have ha':AllN a:=fun j=>ha (j+1)
  have hb':AllN b:=fun j=>hb (j+1)
  have h':LeD a b:=fun j x hx=>h (j+1) x hx
  have hd:∀ x,memL d x=true->memL e x=true:=fun x hx=>h 0 x hx
  obtain ⟨i1,i2⟩:=tot_lt hl' ha' hb' h'
  have h0:=sizeN_le hd
  unfold tot at *
  simp only [List.map_cons,List.sum_cons]
  refine ⟨by omega,fun hne=>?_⟩
  by_cases hde:d=e
  ·subst hde
   have:a≠b:=fun e=>hne (by rw [e])
   have:=i2 this
   omega
  ·have:=sizeN_lt (show Normal d from ha 0) (show Normal e from hb 0) hd hde
   omega
theorem once_tot {p:PL} {now d:Ds} (hn:AllN now) (ho:onceP p now=some d):tot d<=tot now/\(d≠now->tot d<tot now) :=
 tot_lt (onceP_len ho) (onceP_normal ho) hn (fun j x hx=>by have:=onceP_sub ho j x hx;rwa [norm_getD hn] at this)
theorem stable_on {p q:PL} {now d:Ds} (hn:AllN now) (hp:p.Good now.length) (hq:q.Good now.length) (ho:onceP p now=some d) (hs:onceP q now=some now) (hc:∀ v∈q.all,v∈p.all->domOf d v=domOf now v):onceP q d=some d:=by
 refine onceP_stable hq (onceP_len ho).symm hn (onceP_normal ho) (fun v hv=>?_) hs
 by_cases hvp:v∈p.all
 ·exact (hc v hv hvp).symm
 ·by_cases h:∃ u∈p.all,u.toNat=v.toNat
  ·obtain ⟨u,hu,e⟩:=h
   have h1:=hp.vars u hu
   have h2:=hq.vars v hv
   have:u=v:=by omega
   subst this
   exact absurd hu hvp
  ·have:=onceP_other hp ho (j:=v.toNat) (fun u hu e=>h ⟨u,hu,e⟩)
   rw [norm_getD hn] at this
   unfold domOf
   exact this.symm
theorem same_of {p:PL} {now d:Ds} (hn:AllN now) (hp:p.Good now.length) (ho:onceP p now=some d) (hc:∀ v∈p.all,domOf d v=domOf now v):d=now:=by
 refine ds_ext (onceP_len ho) (onceP_normal ho) hn (fun j _ x=>?_)
 by_cases h:∃ u∈p.all,u.toNat=j
 ·obtain ⟨u,hu,rfl⟩:=h
  have:=hc u hu
  unfold domOf at this
  rw [this]
 ·have:=onceP_other hp ho (j:=j) (fun u hu e=>h ⟨u,hu,e⟩)
  rw [norm_getD hn] at this
  rw [this]
theorem mem_uniq {acc:List Int} {v x:Int}:x∈uniq acc v↔x∈acc\/x=v:=by
 unfold uniq
 by_cases h:v∈acc
 ·rw [if_pos (by simpa using h)]
  exact ⟨.inl,fun h'=>h'.elim id (fun e=>e ▸ h)⟩
 ·rw [if_neg (by simpa using h)];simp
theorem mem_uniqL {l:List Int} {x:Int}:x∈uniqL l↔x∈l:=by
 suffices h:∀ (l acc:List Int),x∈l.foldl uniq acc↔x∈acc\/x∈l by simpa [uniqL] using h l []
 intro l
 induction l with
 | nil=>simp
 | cons v l ih=>intro acc;rw [List.foldl_cons,ih,mem_uniq,List.mem_cons,or_assoc]
theorem len_places:∀ (P:Nat) (L:List Int),L.Nodup->(∀ i∈L,0<=i/\i.toNat<P)->L.length<=P
 | 0,[],_,_=>rN _
 | 0,x::L,_,h=>by have:=h x List.mem_cons_self;omega
 | P+1,L,hn,h=>by
  by_cases hm:(P:Int)∈L
  ·have h1:=len_places P (L.erase P) (hn.erase _) (fun i hi=>by
    have h2:=(hn.mem_erase_iff).1 hi
    have h3:=h i h2.2
    have:i≠P:=h2.1
    omega)
   rw [List.length_erase_of_mem hm] at h1
   omega
  ·have h1:=len_places P L hn (fun i hi=>by
    have h3:=h i hi
    have:i≠P:=fun e=>hm (e ▸ hi)
    omega)
   omega
def Rest (ps:List PL) (now:Ds) (L:List Int):Prop:=∀ k,(hk:k<ps.length)->(k:Int) ∉ L->onceP ps[k] now=some now
structure UsOk (ps:List PL) (m:Nat) (us:Nat->List Int):Prop where
 all:∀ k,(hk:k<ps.length)->k<m->∀ v∈ps[k].all,(k:Int)∈us v.toNat
 ins:∀ v,InPs (us v) ps
structure Woken (ps:List PL) (now d:Ds) (vs L1 L2:List Int) (t:Nat):Prop where
 ins:InPs L2 ps
 nd:L2.Nodup
 sub:∀ k∈L1,k∈L2
 all:∀ j,j<t->∀ v,vs[j]?=some v->domOf d v≠domOf now v->∀ k,(hk:k<ps.length)->v∈ps[k].all->(k:Int)∈L2
 same:(∀ j,j<t->∀ v,vs[j]?=some v->domOf d v=domOf now v)->L2.length=L1.length
theorem Woken.start {ps:List PL} {now d:Ds} {vs L1:List Int} (h:InPs L1 ps) (hn:L1.Nodup):Woken ps now d vs L1 L1 0:=⟨h,hn,fun _ h=>h,fun _ hj=>absurd hj (Nat.not_lt_zero _),fun _=>rfl⟩
theorem Woken.skip {ps:List PL} {now d:Ds} {vs L1 L2:List Int} {t:Nat} {v:Int} (h:Woken ps now d vs L1 L2 t) (hv:vs[t]?=some v) (e:domOf d v=domOf now v):Woken ps now d vs L1 L2 (t+1) :=
 ⟨h.ins,h.nd,h.sub,fun j hj u hu hne=>by
  by_cases hjt:j<t
  ·exact h.all j hjt u hu hne
  ·obtain rfl:j=t:=by omega
   rw [hv] at hu;injection hu with hu;subst hu
   exact absurd e hne,fun hs=>h.same (fun j hj=>hs j (by omega))⟩
theorem Woken.more {ps:List PL} {now d:Ds} {vs L1 L2 L3:List Int} {t:Nat} {v:Int} {us:Nat->List Int} (h:Woken ps now d vs L1 L2 t) (hv:vs[t]?=some v) (hne:domOf d v≠domOf now v) (hu:UsOk ps ps.length us) (h3:InPs L3 ps) (hn:L3.Nodup) (hs:∀ k∈L2,k∈L3) (ha:∀ k∈us v.toNat,k∈L3):Woken ps now d vs L1 L3 (t+1) :=
 ⟨h3,hn,fun k hk=>hs k (h.sub k hk),fun j hj u hu' hne' k hk hm=>by
  by_cases hjt:j<t
  ·exact hs _ (h.all j hjt u hu' hne' k hk hm)
  ·obtain rfl:j=t:=by omega
   rw [hv] at hu';injection hu' with hu';subst hu'
   exact ha _ (hu.all k hk hk v hm),fun hs=>absurd (hs t (Nat.lt_succ_self t) v hv) hne⟩
theorem woken_end {ps:List PL} {now d:Ds} {x:Nat} {L L1 L2:List Int} (hg:∀ p∈ps,p.Good now.length) (hn:AllN now) (hx:x<ps.length) (ho:onceP ps[x] now=some d) (hp:((x:Int)::L1).Perm L) (hr:Rest ps now L) (hw:Woken ps now d (uniqL ps[x].all) L1 L2 (uniqL ps[x].all).length) :
  Rest ps d L2/\tot d * (ps.length+1)+L2.length<tot now * (ps.length+1)+L.length:=by
 have hL:L.length=L1.length+1:=by have:=hp.length_eq;simpa using this.symm
 have hgx:ps[x].Good now.length:=hg _ (List.getElem_mem hx)
 have hin:∀ v∈ps[x].all,∃ j,j<(uniqL ps[x].all).length/\(uniqL ps[x].all)[j]?=some v:=fun v hv=>by
  obtain ⟨j,hj,e⟩:=List.mem_iff_getElem.1 (mem_uniqL.2 hv)
  exact ⟨j,hj,by rw [List.getElem?_eq_getElem hj,e]⟩
 constructor
 ·intro k hk hkn
  by_cases e:k=x
  ·subst e
   have hsame:∀ v∈ps[k].all,domOf d v=domOf now v:=fun v hv=>Classical.byContradiction fun hne=>by
    obtain ⟨j,hj,e⟩:=hin v hv
    exact hkn (hw.all j hj v e hne k hk hv)
   have hd:=same_of hn hgx ho hsame
   rw [hd] at ho |-
   exact ho
  ·have hkL:(k:Int) ∉ L:=fun hm=>by
    rcases List.mem_cons.1 (hp.mem_iff.2 hm) with h | h
    ·omega
    ·exact hkn (hw.sub _ h)
   refine stable_on hn hgx (hg _ (List.getElem_mem hk)) ho (hr k hk hkL) (fun v hv hvx=>Classical.byContradiction fun hne=>?_)
   obtain ⟨j,hj,e⟩:=hin v hvx
   exact hkn (hw.all j hj v e hne k hk hv)
 ·have h2:=len_places ps.length L2 hw.nd hw.ins
  obtain ⟨t1,t2⟩:=once_tot hn ho
  by_cases e:d=now
  ·have:=hw.same (fun j _ v _=>by rw [e])
   rw [e];omega
  ·have h3:=t2 e
   have h4:(tot d+1) * (ps.length+1)<=tot now * (ps.length+1):=Nat.mul_le_mul_right _ h3
   rw [Nat.add_mul] at h4
   omega
theorem rest_start {ps:List PL} {now:Ds} {L:List Int} (h:∀ k,k<ps.length->(k:Int)∈L):Rest ps now L:=fun k hk hn=>absurd (h k hk) hn
theorem rest_end {ps:List PL} {D now:Ds} (h:OnWay ps D now) (hr:Rest ps now []):FixOf ps D (some now):=onWay_end h fun p hp=>by
 obtain ⟨k,hk,rfl⟩:=List.mem_iff_getElem.1 hp
 exact hr k hk (by simp)
theorem allE_of {ds:Ds} (h:∀ j,(hj:j<ds.length)->norm ds[j]≠[]):AllE (ds.map norm):=fun j hj=>by
 rw [List.length_map] at hj
 rw [getD_map_norm,List.getD_eq_getElem?_getD,List.getElem?_eq_getElem hj]
 exact h j hj
def marked (vs:List Int) (on:List Bool):Bool:=vs.any fun v=>on.getD v.toNat false
theorem marked_mono {vs:List Int} {on nx:List Bool} (h:∀ j,on.getD j false=true->nx.getD j false=true) (hm:marked vs on=true):marked vs nx=true:=by
 unfold marked at *
 rw [List.any_eq_true] at hm |-
 obtain ⟨v,h1,h2⟩:=hm
 exact ⟨v,h1,h _ h2⟩
theorem marked_of {vs:List Int} {on:List Bool} {v:Int} (h:v∈vs) (ho:on.getD v.toNat false=true):marked vs on=true:=by
 unfold marked;rw [List.any_eq_true];exact ⟨v,h,ho⟩
structure Rnd (ps:List PL) (D was now:Ds) (r:Nat) (on nx:List Bool) (i:Nat):Prop where
 way:OnWay ps D now
 wasN:AllN was
 len:now.length=was.length
 done:∀ k,(hk:k<ps.length)->k<i->onceP ps[k] now=some now\/marked (uniqL ps[k].all) nx=true
 todo:∀ k,(hk:k<ps.length)->i<=k->r=0\/onceP ps[k] now=some now\/marked (uniqL ps[k].all) on=true\/marked (uniqL ps[k].all) nx=true
 le:LeD now was
 mks:∀ j,nx.getD j false=true->now≠was
theorem Rnd.skip {ps:List PL} {D was now:Ds} {r:Nat} {on nx:List Bool} {i:Nat} (h:Rnd ps D was now r on nx i) (hi:i<ps.length) (hr:r≠0) (h1:marked (uniqL ps[i].all) on=false) (h2:marked (uniqL ps[i].all) nx=false):Rnd ps D was now r on nx (i+1) :=
 ⟨h.way,h.wasN,h.len,fun k hk hki=>by
  by_cases e:k=i
  ·subst e
   rcases h.todo k hk (rN _) with a | a | a | a
   ·exact absurd a hr
   ·exact .inl a
   ·rw [h1] at a;cases a
   ·rw [h2] at a;cases a
  ·exact h.done k hk (by omega),fun k hk hki=>h.todo k hk (by omega),h.le,h.mks⟩
structure MarkOf (now d:Ds) (vs:List Int) (nx nx2:List Bool):Prop where
 mono:∀ j,nx.getD j false=true->nx2.getD j false=true
 all:∀ v∈vs,domOf d v≠domOf now v->nx2.getD v.toNat false=true
 just:∀ j,nx2.getD j false=true->nx.getD j false=true\/d≠now
theorem LeD.once {p:PL} {now d:Ds} (hn:AllN now) (ho:onceP p now=some d):LeD d now:=fun j x hx=>by have:=onceP_sub ho j x hx;rwa [norm_getD hn] at this
theorem Rnd.ask {ps:List PL} {D was now d:Ds} {r:Nat} {on nx nx2:List Bool} {i:Nat} (h:Rnd ps D was now r on nx i) (hg:∀ p∈ps,p.Good D.length) (hi:i<ps.length) (ho:onceP ps[i] now=some d) (hm:MarkOf now d (uniqL ps[i].all) nx nx2):Rnd ps D was d r on nx2 (i+1):=by
 have hn:=h.way.nor
 have hl:=h.way.len
 have hg':∀ k,(hk:k<ps.length)->ps[k].Good now.length:=fun k hk=>by rw [hl];exact hg _ (List.getElem_mem hk)
 have step:∀ k,(hk:k<ps.length)->onceP ps[k] now=some now->onceP ps[k] d=some d\/marked (uniqL ps[k].all) nx2=true:=fun k hk hs=>by
  by_cases hc:∀ v∈ps[k].all,v∈ps[i].all->domOf d v=domOf now v
  ·exact .inl (stable_on hn (hg' i hi) (hg' k hk) ho hs hc)
  ·right
   apply Classical.byContradiction
   intro hno
   apply hc
   intro v hv hvi
   apply Classical.byContradiction
   intro hne
   exact hno (marked_of (mem_uniqL.2 hv) (hm.all v (mem_uniqL.2 hvi) hne))
 have hself:onceP ps[i] d=some d\/marked (uniqL ps[i].all) nx2=true:=by
  by_cases hc:∀ v∈ps[i].all,domOf d v=domOf now v
  ·have e:=same_of hn (hg' i hi) ho hc
   left;rw [e] at ho |-;exact ho
  ·right
   apply Classical.byContradiction
   intro hno
   apply hc
   intro v hv
   apply Classical.byContradiction
   intro hne
   exact hno (marked_of (mem_uniqL.2 hv) (hm.all v (mem_uniqL.2 hv) hne))
 have hle:=LeD.once hn ho
 refine ⟨onWay_step (List.getElem_mem hi) (hg _ (List.getElem_mem hi)) h.way ho,h.wasN,(onceP_len ho).trans h.len,fun k hk hki=>?_,fun k hk hki=>?_,hle.trans h.le,fun j hj e=>?_⟩
 ·by_cases e:k=i
  ·subst e;exact hself
  ·rcases h.done k hk (by omega) with a | a
   ·exact step k hk a
   ·exact .inr (marked_mono hm.mono a)
 ·rcases h.todo k hk (by omega) with a | a | a | a
  ·exact .inl a
  ·rcases step k hk a with b | b
   ·exact .inr (.inl b)
   ·exact .inr (.inr (.inr b))
  ·exact .inr (.inr (.inl a))
  ·exact .inr (.inr (.inr (marked_mono hm.mono a)))
 ·have hnw:now=was:=LeD.eq h.len hn h.wasN h.le (by rw [<- e];exact hle)
  rcases hm.just j hj with a | a
  ·exact h.mks j a hnw
  ·exact a (e.trans hnw.symm)
theorem Rnd.gone {ps:List PL} {D was now:Ds} {r:Nat} {on nx:List Bool} {i:Nat} (h:Rnd ps D was now r on nx i) (hg:∀ p∈ps,p.Good D.length) (hi:i<ps.length) (ho:onceP ps[i] now=none):FixOf ps D none :=
 onWay_gone (List.getElem_mem hi) (hg _ (List.getElem_mem hi)) h.way ho
theorem getD_rep_false (n j:Nat):(List.replicate n false).getD j false=false:=by
 rw [List.getD_eq_getElem?_getD]
 by_cases h:j<n
 ·rw [List.getElem?_replicate_of_lt h];rfl
 ·rw [List.getElem?_eq_none (by simp;omega)];rfl
theorem Rnd.start {ps:List PL} {D now:Ds} (h:OnWay ps D now) (on:List Bool) (n:Nat):Rnd ps D now now 0 on (List.replicate n false) 0 :=
 ⟨h,h.nor,rfl,fun k _ hk=>absurd hk (Nat.not_lt_zero _),fun _ _ _=>.inl rfl,LeD.refl _,fun j hj=>by rw [getD_rep_false] at hj;cases hj⟩
theorem Rnd.next {ps:List PL} {D was now:Ds} {r:Nat} {on nx:List Bool} (h:Rnd ps D was now r on nx ps.length) (hne:was≠now) (n:Nat) :
  Rnd ps D now now (r+1) nx (List.replicate n false) 0/\tot now<tot was :=
 ⟨⟨h.way,h.way.nor,rfl,fun k _ hk=>absurd hk (Nat.not_lt_zero _),fun k hk _=>by
   rcases h.done k hk hk with a | a
   ·exact .inr (.inl a)
   ·exact .inr (.inr (.inl a)),LeD.refl _,fun j hj=>by rw [getD_rep_false] at hj;cases hj⟩,
  (tot_lt h.len h.way.nor h.wasN h.le).2 (fun e=>hne e.symm)⟩
theorem Rnd.stop {ps:List PL} {D was:Ds} {r:Nat} {on nx:List Bool} (h:Rnd ps D was was r on nx ps.length):FixOf ps D (some was):=onWay_end h.way fun p hp=>by
 obtain ⟨k,hk,rfl⟩:=List.mem_iff_getElem.1 hp
 rcases h.done k hk hk with a | a
 ·exact a
 ·exfalso
  unfold marked at a
  rw [List.any_eq_true] at a
  obtain ⟨v,_,hv⟩:=a
  exact h.mks _ hv rfl
def markTo (now d:Ds) (vs:List Int) (nx:List Bool):Nat->List Bool
 | 0=>nx
 | t+1=>match vs[t]? with
  | some v=>if domOf d v=domOf now v then markTo now d vs nx t else (markTo now d vs nx t).set v.toNat true
  | none=>markTo now d vs nx t
theorem markTo_len (now d:Ds) (vs:List Int) (nx:List Bool):∀ t,(markTo now d vs nx t).length=nx.length
 | 0=>rfl
 | t+1=>by
  unfold markTo
  cases vs[t]? with
  | none=>exact markTo_len now d vs nx t
  | some v =>
   dsimp only
   split
   ·exact markTo_len now d vs nx t
   ·rw [List.length_set];exact markTo_len now d vs nx t
theorem markTo_step {now d:Ds} {vs:List Int} {nx:List Bool} {t:Nat} {v:Int} (h:vs[t]?=some v):markTo now d vs nx (t+1)=if domOf d v=domOf now v then markTo now d vs nx t else (markTo now d vs nx t).set v.toNat true:=by
 rw [markTo,h]
theorem markTo_mono (now d:Ds) (vs:List Int) (nx:List Bool) (j:Nat):∀ (k t:Nat),(markTo now d vs nx t).getD j false=true->(markTo now d vs nx (t+k)).getD j false=true
 | 0,_,h=>h
 | k+1,t,h=>by
  have h1:=markTo_mono now d vs nx j k t h
  show (markTo now d vs nx (t+k+1)).getD j false=true
  cases e:vs[t+k]? with
  | none=>rw [markTo,e];exact h1
  | some v =>
   rw [markTo_step e]
   split
   ·exact h1
   ·rw [List.getD_eq_getElem?_getD,List.getElem?_set]
    split
    ·rename_i hv;subst hv
     rw [List.getD_eq_getElem?_getD] at h1
     split
     ·rfl
     ·rename_i hl
      rw [List.getElem?_eq_none (by omega)] at h1;cases h1
    ·rw [<- List.getD_eq_getElem?_getD];exact h1
theorem markTo_just (now d:Ds) (vs:List Int) (nx:List Bool) (j:Nat):∀ t,(markTo now d vs nx t).getD j false=true->nx.getD j false=true\/d≠now
 | 0,h=>.inl h
 | t+1,h=>by
  cases e:vs[t]? with
  | none=>rw [markTo,e] at h;exact markTo_just now d vs nx j t h
  | some v =>
   rw [markTo_step e] at h
   by_cases hd:domOf d v=domOf now v
   ·rw [if_pos hd] at h;exact markTo_just now d vs nx j t h
   ·exact .inr (fun e=>hd (by rw [e]))
theorem markOf_to {now d:Ds} {vs:List Int} {nx:List Bool} (h:∀ v∈vs,v.toNat<nx.length):MarkOf now d vs nx (markTo now d vs nx vs.length) :=
 ⟨fun j hj=>by have:=markTo_mono now d vs nx j vs.length 0 hj;rwa [Nat.zero_add] at this,fun v hv hne=>by
  obtain ⟨t,ht,e⟩:=List.mem_iff_getElem.1 hv
  have h1:(markTo now d vs nx (t+1)).getD v.toNat false=true:=by
   rw [markTo_step (by rw [List.getElem?_eq_getElem ht,e]),if_neg hne,List.getD_eq_getElem?_getD,List.getElem?_set_self (by rw [markTo_len];exact h v hv)]
   rfl
  have:=markTo_mono now d vs nx v.toNat (vs.length - (t+1)) (t+1) h1
  rwa [show t+1+(vs.length - (t+1))=vs.length by omega] at this,fun j hj=>markTo_just now d vs nx j _ hj⟩
end
end Go.Proofs.YtaekdgikgbdnnaaGreat
