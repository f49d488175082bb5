/-
  PLAIN LAWS of linear sums over sets: what a sum says once, what is sure of it. No program.
  LISTS OF SETS IN MEMORY: slices of slices of ranges; kept by whatever only makes memory; an own one, whose places are turned.
  lin.Check and coneyref15.Check, walked: both tell the same number.
  SUMS AND LISTS OF SETS THAT COME IN.
  lin.part, lin.parts, lin.Sums, lin.Says, walked.
-/
import Derived.Test.YtaekdgikgbdnnaaGreatKdom1
import Derived.Test.YtaekdgikgbdnnaaGreatRows
import Derived.Test.YtaekdgikgbdnnaaGreatKlib1
import Derived.Test.YtaekdgikgbdnnaaGreatKdom3
import Derived.Deep.RegionHeld3
import Derived.Deep.DeepCutAuto
import Derived.Handy
import Derived.Laws.ResultCell
namespace Go.Proofs.YtaekdgikgbdnnaaGreat
section
abbrev Ds:=List (List Rg)
def domOf (ds:Ds) (v:Int):List Rg:=ds.getD v.toNat []
def loT (c:Int) (d:List Rg):Int:=if c<0 then c * (endsL (norm d)).2.1 else c * (endsL (norm d)).1
def hiT (c:Int) (d:List Rg):Int:=if c<0 then c * (endsL (norm d)).1 else c * (endsL (norm d)).2.1
def okT (d:List Rg):Bool:=(endsL (norm d)).2.2
abbrev Ps:=List (Int×Int)
def loS (ds:Ds) (ps:Ps):Int:=(ps.map fun p=>loT p.1 (domOf ds p.2)).sum
def hiS (ds:Ds) (ps:Ps):Int:=(ps.map fun p=>hiT p.1 (domOf ds p.2)).sum
def allOk (ds:Ds) (ps:Ps):Bool:=ps.all fun p=>okT (domOf ds p.2)
def yesL (rel c lo hi:Int):Bool:=if rel=3 then decide (hi<=c) else if rel=2 then decide (c<lo)||decide (hi<c) else decide (lo=c)&&decide (hi=c)
def noL (rel c lo hi:Int):Bool:=if rel=3 then decide (c<lo) else if rel=2 then decide (lo=c)&&decide (hi=c) else decide (c<lo)||decide (hi<c)
def saysL (rel c:Int) (ds:Ds) (ps:Ps):Int :=
 if allOk ds ps=true then (if yesL rel c (loS ds ps) (hiS ds ps)=true then 1 else if noL rel c (loS ds ps) (hiS ds ps)=true then -1 else 0) else 0
def staysP (rel c k lo hi x:Int):Bool :=
 if rel=3 then decide (lo<=c - k * x) else if rel=2 then !(decide (lo=hi)&&decide (c - k * x=lo)) else decide (lo<=c - k * x)&&decide (c - k * x<=hi)
def narrowL (rel c k:Int) (d:List Rg) (lo hi:Int):List Rg:=canon fun x=>memL d x&&staysP rel c k lo hi x
def narrowAt (rel c:Int) (ds:Ds) (lo hi:Int) (p:Int×Int):List Rg :=
 narrowL rel c p.1 (domOf ds p.2) (lo - loT p.1 (domOf ds p.2)) (hi - hiT p.1 (domOf ds p.2))
def onceGo (rel c:Int) (ds:Ds) (lo hi:Int):Ps->Ds->Option Ds
 | [],out=>some out
 | p::ps,out=>if narrowAt rel c ds lo hi p=[] then none else onceGo rel c ds lo hi ps (out.set p.2.toNat (narrowAt rel c ds lo hi p))
def onceL (rel c:Int) (ds:Ds) (ps:Ps):Option Ds :=
 if allOk ds ps=true then (if ps=[]/\saysL rel c ds ps<1 then none else onceGo rel c ds (loS ds ps) (hiS ds ps) ps (ds.map norm)) else none
theorem normal_last:∀ {M:List Rg} {p:Rg} {lo:Int},NormFrom lo (M++[p])->∀ n,memL (M++[p]) n=true->n<=p.2
 | [],p,lo,h,n,hm=>by simp [memL] at hm;exact hm.2
 | r::M,p,lo,h,n,hm=>by
  obtain ⟨h1,h2,h3,h4⟩:=h
  rw [List.cons_append,memL_cons,Bool.or_eq_true] at hm
  rcases hm with hm | hm
  ·simp at hm
   have:=(NormFrom.bounds h4) p (by simp)
   omega
  ·exact normal_last h4 n hm
theorem ends_mem (d:List Rg) (x:Int) (h:memL (norm d) x=true):(endsL (norm d)).1<=x/\x<=(endsL (norm d)).2.1/\okT d=true:=by
 have hN:=norm_normal d
 unfold okT
 generalize norm d=L at *
 rcases List.eq_nil_or_concat L with rfl | ⟨M,p,rfl⟩
 ·simp [memL_nil] at h
 ·rw [List.concat_eq_append] at *
  have h1:=normal_last hN x h
  cases M with
  | nil=>simp [memL] at h;exact ⟨h.1,h.2,rfl⟩
  | cons r M =>
   have hl2:(r::(M++[p])).getLast (by simp)=p:=by
    have h1:(r::(M++[p])).getLast?=some p:=List.getLast?_concat (l:=r::M) (a:=p)
    rw [List.getLast?_eq_some_getLast (by simp)] at h1
    exact Option.some.inj h1
   refine ⟨?_,?_,rfl⟩
   ·obtain ⟨_,_,_,h4⟩:=hN
    rcases (show r.1<=x\/x<r.1 by omega) with h5 | h5
    ·exact h5
    ·rw [List.cons_append,memL_cons] at h
     have:memL (M++[p]) x=false:=memL_low (by omega) h4
     rw [this] at h;simp at h;omega
   ·show x<=((r::(M++[p])).getLast _).2
    rw [hl2];exact h1
theorem ends_in (d:List Rg) (h:okT d=true):memL (norm d) (endsL (norm d)).1=true/\memL (norm d) (endsL (norm d)).2.1=true:=by
 have hN:=norm_bounds d
 unfold okT at h
 generalize norm d=L at *
 rcases List.eq_nil_or_concat L with rfl | ⟨M,p,rfl⟩
 ·simp [endsL] at h
 ·rw [List.concat_eq_append] at *
  have hp:=hN p (by simp)
  cases M with
  | nil =>
   show memL [p] p.1=true/\memL [p] p.2=true
   simp [memL];omega
  | cons r M =>
   have hr:=hN r (by simp)
   have hl2:(r::(M++[p])).getLast (by simp)=p:=by
    have h1:(r::(M++[p])).getLast?=some p:=List.getLast?_concat (l:=r::M) (a:=p)
    rw [List.getLast?_eq_some_getLast (by simp)] at h1
    exact Option.some.inj h1
   constructor
   ·show memL (r::(M++[p])) r.1=true
    rw [memL_cons];simp;left;omega
   ·show memL (r::(M++[p])) ((r::(M++[p])).getLast _).2=true
    rw [hl2,<- List.cons_append,memL_append]
    simp [memL];right;omega
theorem okT_nil (d:List Rg):okT d=!decide (norm d=[]):=by
 unfold okT
 cases norm d <;> simp [endsL]
theorem ends_bnd (d:List Rg):-200<=(endsL (norm d)).1/\(endsL (norm d)).1<=200/\-200<=(endsL (norm d)).2.1/\(endsL (norm d)).2.1<=200:=by
 cases h:okT d with
 | true =>
  obtain ⟨a,b⟩:=ends_in d h
  have:=memL_bounds (norm_normal d) a
  have:=memL_bounds (norm_normal d) b
  omega
 | false =>
  rw [okT_nil] at h
  simp at h
  rw [h];simp [endsL]
theorem mul_le_neg {c a b:Int} (h:c<0) (h1:a<=b):c * b<=c * a:=Int.mul_le_mul_of_nonpos_left (by omega) h1
theorem mul_le_pos {c a b:Int} (h:¬ c<0) (h1:a<=b):c * a<=c * b:=Int.mul_le_mul_of_nonneg_left h1 (by omega)
theorem term_in (c:Int) (d:List Rg) (x:Int) (h:memL (norm d) x=true):loT c d<=c * x/\c * x<=hiT c d:=by
 obtain ⟨h1,h2,_⟩:=ends_mem d x h
 unfold loT hiT
 by_cases hc:c<0
 ·rw [if_pos hc,if_pos hc];exact ⟨mul_le_neg hc h2,mul_le_neg hc h1⟩
 ·rw [if_neg hc,if_neg hc];exact ⟨mul_le_pos hc h1,mul_le_pos hc h2⟩
theorem term_le (c:Int) (d:List Rg) (h:okT d=true):loT c d<=hiT c d:=by
 obtain ⟨a,_⟩:=ends_in d h
 have:=term_in c d _ a
 omega
def SubD (d' d:List Rg):Prop:=∀ x,memL (norm d') x=true->memL (norm d) x=true
theorem term_sub (c:Int) (d' d:List Rg) (hs:SubD d' d) (h:okT d'=true):loT c d<=loT c d'/\hiT c d'<=hiT c d:=by
 obtain ⟨a,b⟩:=ends_in d' h
 have h1:=term_in c d _ (hs _ a)
 have h2:=term_in c d _ (hs _ b)
 unfold loT hiT at *
 by_cases hc:c<0
 ·simp only [if_pos hc] at *;omega
 ·simp only [if_neg hc] at *;omega
theorem okT_sub (d' d:List Rg) (hs:SubD d' d) (h:okT d'=true):okT d=true:=(ends_mem d _ (hs _ (ends_in d' h).1)).2.2
def holdsS (rel c s:Int):Bool:=if rel=3 then decide (s<=c) else if rel=2 then decide (s≠c) else decide (s=c)
theorem says_vals (rel c:Int) (ds:Ds) (ps:Ps):saysL rel c ds ps=1\/saysL rel c ds ps=0\/saysL rel c ds ps=-1:=by
 unfold saysL
 split
 ·split
  ·exact .inl rfl
  ·split
   ·exact .inr (.inr rfl)
   ·exact .inr (.inl rfl)
 ·exact .inr (.inl rfl)
theorem says_nil (rel c:Int) (ds:Ds):(saysL rel c ds []<1)↔holdsS rel c 0=false:=by
 unfold saysL holdsS yesL noL
 simp only [allOk,List.all_nil,if_true,loS,hiS,List.map_nil,List.sum_nil]
 by_cases r3:rel=3
 ·simp only [if_pos r3]
  by_cases a:0<=c
  ·simp [a]
  ·simp [a];split <;> omega
 ·by_cases r2:rel=2
  ·simp only [if_neg r3,if_pos r2]
   by_cases a:c=0
   ·subst a;simp
   ·have:(decide (c<0)||decide (0<c))=true:=by simp;omega
    simp [this];omega
  ·simp only [if_neg r3,if_neg r2]
   by_cases a:c=0
   ·subst a;simp
   ·have h3:(decide ((0:Int)=c)&&decide ((0:Int)=c))=false:=by simp;omega
    simp
    constructor
    ·intro _;omega
    ·intro _;split <;> omega
theorem narrow_mem (rel c k:Int) (d:List Rg) (lo hi x:Int):memL (narrowL rel c k d lo hi) x=(memL (norm d) x&&staysP rel c k lo hi x):=by
 unfold narrowL
 rw [canon_mem,memL_norm,inD]
 simp [Bool.and_assoc]
theorem mem_ne_nil {L:List Rg} {x:Int} (h:memL L x=true):L≠[]:=by rintro rfl;simp [memL_nil] at h
theorem getD_set (l:Ds) (i j:Nat) (d:List Rg):(l.set i d).getD j []=if i=j/\j<l.length then d else l.getD j []:=by
 simp only [List.getD_eq_getElem?_getD,List.getElem?_set]
 by_cases h:i=j
 ·subst h
  by_cases h2:i<l.length
  ·simp [h2]
  ·simp [h2]
 ·simp [h]
theorem onceGo_len (rel c:Int) (ds:Ds) (lo hi:Int):∀ (ps:Ps) (out out':Ds),onceGo rel c ds lo hi ps out=some out'->out'.length=out.length
 | [],_,_,h=>by simp [onceGo] at h;rw [h]
 | p::ps,out,out',h=>by
  unfold onceGo at h
  split at h
  ·cases h
  ·have:=onceGo_len rel c ds lo hi ps _ _ h
   simpa using this
theorem getD_map_norm (ds:Ds) (j:Nat):(ds.map norm).getD j []=norm (ds.getD j []):=by
 simp only [List.getD_eq_getElem?_getD,List.getElem?_map]
 cases ds[j]? with
 | none=>exact (norm_of_normal (show Normal [] from trivial)).symm
 | some d=>rfl
theorem sums_sub (ds' ds:Ds):∀ (ps:Ps),(∀ p∈ps,SubD (domOf ds' p.2) (domOf ds p.2))->allOk ds' ps=true->loS ds ps<=loS ds' ps/\hiS ds' ps<=hiS ds ps
 | [],_,_=>⟨Int.le_refl _,Int.le_refl _⟩
 | p::ps,h,ho=>by
  simp only [allOk,List.all_cons,Bool.and_eq_true] at ho
  have h1:=sums_sub ds' ds ps (fun q hq=>h q (by simp [hq])) ho.2
  have h2:=term_sub p.1 _ _ (h p (by simp)) ho.1
  simp only [loS,hiS,List.map_cons,List.sum_cons] at *
  omega
theorem sums_sub_but (ds' ds:Ds):∀ (ps:Ps),(∀ p∈ps,SubD (domOf ds' p.2) (domOf ds p.2))->allOk ds' ps=true->∀ p∈ps,
  loS ds ps - loT p.1 (domOf ds p.2)<=loS ds' ps - loT p.1 (domOf ds' p.2)/\hiS ds' ps - hiT p.1 (domOf ds' p.2)<=hiS ds ps - hiT p.1 (domOf ds p.2)
 | [],_,_,_,h=>by cases h
 | q::ps,h,ho,p,hp=>by
  simp only [allOk,List.all_cons,Bool.and_eq_true] at ho
  have hps:=fun q hq=>h q (List.mem_cons_of_mem _ hq)
  rcases List.mem_cons.1 hp with rfl | hp
  ·have h1:=sums_sub ds' ds ps hps ho.2
   simp only [loS,hiS,List.map_cons,List.sum_cons] at *
   omega
  ·have h1:=sums_sub_but ds' ds ps hps ho.2 p hp
   have h2:=term_sub q.1 _ _ (h q (by simp)) ho.1
   simp only [loS,hiS,List.map_cons,List.sum_cons] at *
   omega
theorem sums_le_but (ds:Ds):∀ (ps:Ps),allOk ds ps=true->loS ds ps<=hiS ds ps/\∀ p∈ps,loS ds ps - loT p.1 (domOf ds p.2)<=hiS ds ps - hiT p.1 (domOf ds p.2)
 | [],_=>⟨Int.le_refl _,fun _ h=>by cases h⟩
 | q::ps,ho=>by
  simp only [allOk,List.all_cons,Bool.and_eq_true] at ho
  obtain ⟨h1,h3⟩:=sums_le_but ds ps ho.2
  have h2:=term_le q.1 _ ho.1
  refine ⟨by simp only [loS,hiS,List.map_cons,List.sum_cons] at *;omega,fun p hp=>?_⟩
  rcases List.mem_cons.1 hp with rfl | hp
  ·simp only [loS,hiS,List.map_cons,List.sum_cons] at *;omega
  ·have:=h3 p hp
   simp only [loS,hiS,List.map_cons,List.sum_cons] at *;omega
theorem stays_sub (rel c k lo hi lo' hi' x:Int) (h1:lo<=lo') (h2:hi'<=hi) (h3:lo'<=hi') (h:staysP rel c k lo' hi' x=true):staysP rel c k lo hi x=true:=by
 unfold staysP at *
 generalize k * x=y at *
 by_cases r3:rel=3
 ·simp only [if_pos r3,decide_eq_true_eq] at *;omega
 ·by_cases r2:rel=2
  ·simp only [if_neg r3,if_pos r2,Bool.not_eq_true',Bool.and_eq_false_iff,decide_eq_false_iff_not] at *;omega
  ·simp only [if_neg r3,if_neg r2,Bool.and_eq_true,decide_eq_true_eq] at *;omega
theorem narrow_sub (rel c:Int) (ds' ds:Ds) (ps:Ps) (h:∀ p∈ps,SubD (domOf ds' p.2) (domOf ds p.2)) (ho:allOk ds' ps=true) (p:Int×Int) (hp:p∈ps) (x:Int)
  (hm:memL (narrowAt rel c ds' (loS ds' ps) (hiS ds' ps) p) x=true):memL (narrowAt rel c ds (loS ds ps) (hiS ds ps) p) x=true:=by
 unfold narrowAt at *
 rw [narrow_mem,Bool.and_eq_true] at *
 obtain ⟨a,b⟩:=sums_sub_but ds' ds ps h ho p hp
 exact ⟨h p hp x hm.1,stays_sub rel c p.1 _ _ _ _ x a b ((sums_le_but ds' ps ho).2 p hp) hm.2⟩
theorem narrow_normal (rel c k:Int) (d:List Rg) (lo hi:Int):Normal (narrowL rel c k d lo hi):=canon_normal _
theorem normal_some {L:List Rg} (h:Normal L) (hne:L≠[]):∃ x,memL L x=true:=by
 cases L with
 | nil=>exact absurd rfl hne
 | cons r L=>exact ⟨r.1,by rw [memL_cons];have:=h.2.1;simp;left;exact this⟩
theorem allOk_sub (ds' ds:Ds) (ps:Ps) (h:∀ p∈ps,SubD (domOf ds' p.2) (domOf ds p.2)) (ho:allOk ds' ps=true):allOk ds ps=true:=by
 unfold allOk at *
 rw [List.all_eq_true] at *
 exact fun p hp=>okT_sub _ _ (h p hp) (ho p hp)
theorem once_len (rel c:Int) (ds:Ds) (ps:Ps) (r:Ds) (h:onceL rel c ds ps=some r):r.length=ds.length:=by
 unfold onceL at h
 split at h
 ·split at h
  ·cases h
  ·have:=onceGo_len _ _ _ _ _ _ _ _ h
   simpa using this
 ·cases h
end
section
open Go.RowKit
theorem own_below {w w':World} {B e size n:Nat} {v:Value} {xs:List Value} (h:w.ownsRow B e size v n xs) (hb:Below w.heap.size w w'):w'.ownsRow B e size v n xs:=by
 refine ⟨h.1,?_⟩
 rcases h.2 with hn | ⟨g,cap,cur,rfl,hg,hgg,rest⟩
 ·exact .inl hn
 ·exact .inr ⟨g,cap,cur,rfl,hg,by rw [hb.block g (Array.getElem?_eq_some_iff.1 hgg).1];exact hgg,rest⟩
def DsAt (w:World) (v:Value) (ds:Ds):Prop :=
 ∃ us:List Value,us.length=ds.length/\SlAt w 1 v ds.length us/\∀ j,(hj:j<ds.length)->∃ u,us[j]?=some u/\RgAt w u ds[j]
theorem DsAt.below {w w':World} {v:Value} {ds:Ds} (h:DsAt w v ds) (hb:Below w.heap.size w w'):DsAt w' v ds:=by
 obtain ⟨us,h1,h2,h3⟩:=h
 exact ⟨us,h1,h2.below hb,fun j hj=>by obtain ⟨u,a,b⟩:=h3 j hj;exact ⟨u,a,b.below hb⟩⟩
theorem DsAt.drewN {w:World} {v:Value} {ds:Ds} (h:DsAt w v ds) (q:Nat):DsAt (w.drewN q) v ds:=h
theorem DsAt.alloc {w:World} {v:Value} {ds:Ds} (h:DsAt w v ds) (o:Obj):DsAt (w.alloc o) v ds:=h.below ((Below.refl _ _).alloc (rN _) o)
theorem DsAt.shape {w:World} {v:Value} {ds:Ds} (h:DsAt w v ds):∃ ao cap,v=.slice ao ds.length cap/\ds.length<=cap/\cap<=maxLen:=by
 obtain ⟨us,h1,h2,h3⟩:=h;exact h2.shape
theorem DsAt.nil {w:World}:DsAt w (.slice none 0 0) []:=⟨[],rfl,SlAt.nil,fun j hj=>by simp at hj⟩
theorem DsAt.at {w:World} {v:Value} {ds:Ds} (h:DsAt w v ds) (hp:0<ds.length) :
  ∃ b off cap,v=.slice (some ⟨b,off,none⟩) ds.length cap/\ds.length<=cap/\b<w.heap.size /\
   ∀ j,(hj:j<ds.length)->∃ u,w.cell? ⟨b,off+j,none⟩=some u/\RgAt w u ds[j]:=by
 obtain ⟨us,h1,h2,h3⟩:=h
 obtain ⟨b,off,cap,rfl,a1,_,a2,a3⟩:=SlAt.pos h2 (by omega)
 refine ⟨b,off,cap,rfl,a1,a2,fun j hj=>?_⟩
 obtain ⟨u,e1,e2⟩:=h3 j hj
 exact ⟨u,by rw [a3 j (by omega),e1],e2⟩
theorem DsAt.get {w:World} {ao:Option Addr} {n cap:Nat} {ds:Ds} (h:DsAt w (.slice ao n cap) ds) (j:Nat) (hj:j<ds.length) :
  ∃ b off ao' cap',ao=some ⟨b,off,none⟩/\ds.length<=cap/\b<w.heap.size/\n=ds.length/\w.cell? ⟨b,off+j,none⟩=some (.slice ao' ds[j].length cap')/\RgAt w (.slice ao' ds[j].length cap') ds[j]:=by
 obtain ⟨b,off,c',he,a1,a2,a3⟩:=h.at (by omega)
 simp only [Value.slice.injEq] at he
 obtain ⟨rfl,rfl,rfl⟩:=he
 obtain ⟨u,e1,e2⟩:=a3 j hj
 obtain ⟨ao',cap',rfl,_⟩:=e2.shape
 exact ⟨b,off,ao',cap',rfl,a1,a2,rfl,e1,e2⟩
theorem RgAt.setSlice {w:World} {v:Value} {rs:List Rg} (h:RgAt w v rs) {a:Addr} {ao:Option Addr} {n c:Nat} (hs:w.cell? a=some (.slice ao n c)) (u:Value):RgAt (w.setCell a u) v rs:=by
 obtain ⟨h1,ao0,cap,rfl,h2,h3,h5,h4⟩:=h
 refine ⟨h1,ao0,cap,rfl,h2,h3,h5,fun hp=>?_⟩
 obtain ⟨b,off,rfl,hlt,hc⟩:=h4 hp
 refine ⟨b,off,rfl,by simpa [World.setCell] using hlt,fun j hj=>?_⟩
 rw [<- hc j hj]
 have hj2:j / 2<rs.length:=by omega
 have hint:∃ z,(cellsR rs)[j]?=some (.int .i64 z):=by
  obtain ⟨a1,a2⟩:=cellsR_at rs (j / 2) hj2
  rcases (show j % 2=0\/j % 2=1 by omega) with h | h
  ·exact ⟨_,by rw [show j=j / 2 * 2 by omega];exact a1⟩
  ·exact ⟨_,by rw [show j=j / 2 * 2+1 by omega];exact a2⟩
 obtain ⟨z,hz⟩:=hint
 by_cases hbk:b=a.block
 ·exact World.cell?_setCell_other _ _ _ _ (fun he=>by
   have:=hc j hj
   rw [<- he,hs,hz] at this
   cases this)
 ·exact World.cell?_of_block (Below.heap_setCell _ _ _ _ hbk)
def DsOwn (w:World) (base:Nat) (v:Value) (ds:Ds):Prop :=
 ∃ us:List Value,us.length=ds.length/\w.ownsRow base 61 1 v ds.length us/\∀ j,(hj:j<ds.length)->∃ u,us[j]?=some u/\RgAt w u ds[j]
theorem DsOwn.at {w:World} {base:Nat} {v:Value} {ds:Ds} (h:DsOwn w base v ds):DsAt w v ds:=by
 obtain ⟨us,h1,h2,h3⟩:=h
 exact ⟨us,h1,SlAt.of_own h2,h3⟩
theorem DsOwn.below {w w':World} {base:Nat} {v:Value} {ds:Ds} (h:DsOwn w base v ds) (hb:Below w.heap.size w w'):DsOwn w' base v ds:=by
 obtain ⟨us,h1,h2,h3⟩:=h
 exact ⟨us,h1,own_below h2 hb,fun j hj=>by obtain ⟨u,a,b⟩:=h3 j hj;exact ⟨u,a,b.below hb⟩⟩
theorem DsOwn.drewN {w:World} {base:Nat} {v:Value} {ds:Ds} (h:DsOwn w base v ds) (q:Nat):DsOwn (w.drewN q) base v ds:=h
theorem DsOwn.get {w:World} {base:Nat} {v:Value} {ds:Ds} (h:DsOwn w base v ds) (j:Nat) (hj:j<ds.length) :
  ∃ g cap ao' cap',v=.slice (some ⟨g,0,none⟩) ds.length cap/\base<=g/\ds.length<=cap/\g<w.heap.size/\w.cell? ⟨g,j,none⟩=some (.slice ao' ds[j].length cap')/\w.frozen? ⟨g,j,none⟩=false/\RgAt w (.slice ao' ds[j].length cap') ds[j]:=by
 obtain ⟨us,h1,h2,h3⟩:=h
 obtain ⟨u,e1,e2⟩:=h3 j hj
 obtain ⟨ao',cap',rfl,_⟩:=e2.shape
 have h2':=h2
 rcases h2.2 with ⟨_,h0⟩ | ⟨g,cap,cur,rfl,hb,hg,hn,_⟩
 ·omega
 ·exact ⟨g,cap,ao',cap',rfl,hb,hn,(Array.getElem?_eq_some_iff.1 hg).1,by rw [h2'.cellAt j (by omega),e1],h2'.frozenAt j,e2⟩
theorem DsOwn.set {w:World} {base:Nat} {g cap:Nat} {ds:Ds} (h:DsOwn w base (.slice (some ⟨g,0,none⟩) ds.length cap) ds) (j:Nat) (hj:j<ds.length) {u:Value} {d:List Rg} (hu:RgAt w u d) :
  DsOwn (w.setCell ⟨g,j,none⟩ u) base (.slice (some ⟨g,0,none⟩) ds.length cap) (ds.set j d):=by
 obtain ⟨g',cap',ao',c',he,_,_,_,hc,_,_⟩:=h.get j hj
 simp only [Value.slice.injEq,Option.some.injEq,Addr.mk.injEq] at he
 obtain ⟨⟨rfl,_,_⟩,_,rfl⟩:=he
 obtain ⟨us,h1,h2,h3⟩:=h
 refine ⟨us.set j u,by simp [h1],?_,fun i hi=>?_⟩
 ·rw [List.length_set]
  exact (h2.stored j u).1
 ·rw [List.length_set] at hi
  by_cases hij:j=i
  ·subst hij
   exact ⟨u,by rw [List.getElem?_set_self (by omega)],by rw [List.getElem_set_self];exact hu.setSlice hc u⟩
  ·obtain ⟨x,e1,e2⟩:=h3 i hi
   exact ⟨x,by rw [List.getElem?_set_ne hij];exact e1,by rw [List.getElem_set_ne hij];exact e2.setSlice hc u⟩
def IsAt (w:World) (v:Value) (zs:List Int):Prop:=SlAt w 1 v zs.length (zs.map (Value.int .i64))
theorem IsAt.below {w w':World} {v:Value} {zs:List Int} (h:IsAt w v zs) (hb:Below w.heap.size w w'):IsAt w' v zs:=SlAt.below h hb
theorem IsAt.at {w:World} {v:Value} {zs:List Int} (h:IsAt w v zs) (hp:0<zs.length) :
  ∃ b off cap,v=.slice (some ⟨b,off,none⟩) zs.length cap/\zs.length<=cap/\b<w.heap.size/\∀ j,(hj:j<zs.length)->w.cell? ⟨b,off+j,none⟩=some (.int .i64 zs[j]):=by
 obtain ⟨b,off,cap,rfl,h1,_,h2,h3⟩:=SlAt.pos h (by omega)
 exact ⟨b,off,cap,rfl,h1,h2,fun j hj=>by rw [h3 j (by omega)];simp [hj]⟩
def oddB (c:Int):Bool:=c==0||decide (c < -100000)||decide (100000<c)
set_option maxHeartbeats 400000
theorem odd_any (c:Int) (w:World):Calls Tryz.prog 101 #[.int .i64 c] w fun e w'=>e=.returned (.bool (oddB c))/\w=w':=by
 by_cases h0:c=0
 ·subst h0
  go_enter Tryz.func101,Tryz.ntmps101
  go_wp2
  go_ret
  exact ⟨rfl,rfl⟩
 ·have h1:(c==0)=false:=by simp [h0]
  have hS:Hid (oddB c=(decide (c < -100000)||decide (100000<c))):=by show _=_;simp [oddB,h1]
  by_cases h2:c < -100000
  ·go_enter Tryz.func101,Tryz.ntmps101
   go_wp2
   go_ret
   exact ⟨ret_bool (by rw [hS.out];simp [h2]),rfl⟩
  ·go_enter Tryz.func101,Tryz.ntmps101
   go_wp2
   go_ret
   exact ⟨ret_bool (by rw [hS.out];simp;omega),rfl⟩
def findI (p:Int->Bool) (zs:List Int):Int:=match zs.findIdx? p with | some i=>(i:Int) | none=>-1
theorem findI_nonneg (p:Int->Bool) (zs:List Int):decide (0<=findI p zs)=zs.any p:=by
 unfold findI
 cases h:zs.findIdx? p with
 | none=>rw [List.findIdx?_eq_none_iff] at h;simp;exact fun x hx=>by simpa using h x hx
 | some i =>
  have:zs.any p=true:=by
   obtain ⟨h1,h2,_⟩:=List.findIdx?_eq_some_iff_getElem.1 h
   rw [List.any_eq_true];exact ⟨zs[i],List.getElem_mem h1,h2⟩
  rw [this];simp
theorem findIdx_hit (p:Int->Bool) (zs:List Int) (k:Nat) (hk:k<zs.length) (h:(zs.take k).any p=false) (hp:p zs[k]=true):findI p zs=(k:Int):=by
 unfold findI
 have:zs.findIdx? p=some k:=by
  rw [List.findIdx?_eq_some_iff_getElem]
  refine ⟨hk,hp,fun j hj hc=>?_⟩
  have:(zs.take k).any p=true:=by
   rw [List.any_eq_true]
   exact ⟨zs[j],by rw [List.mem_take_iff_getElem];exact ⟨j,by omega,rfl⟩,hc⟩
  rw [h] at this;cases this
 rw [this]
theorem findIdx_none (p:Int->Bool) (zs:List Int) (h:zs.any p=false):findI p zs=-1:=by
 unfold findI
 have:zs.findIdx? p=none:=by
  rw [List.findIdx?_eq_none_iff]
  intro x hx
  rw [List.any_eq_false] at h
  simpa using h x hx
 rw [this]
theorem any_take_step (p:Int->Bool) (zs:List Int) (k:Nat) (hk:k<zs.length) (h:(zs.take k).any p=false) (hp:p zs[k]=false):(zs.take (k+1)).any p=false:=by
 rw [List.take_succ_eq_append_getElem hk,List.any_append,h];simp [hp]
theorem indexOdd_any (v:Value) (zs:List Int) (w:World) (h:IsAt w v zs) (hl:zs.length<=4096) :
  Calls Tryz.prog 61 #[v,.func (.func 101) #[] #[]] w fun e w'=>e=.returned (.int .i64 (findI oddB zs))/\w=w':=by
 obtain ⟨ao,cap,rfl,_⟩:=h.shape
 have H:=hD h
 clear h
 go_enter Tryz.func61,Tryz.ntmps61
 go_wp2
 go_loop [8] (fun i=>∃ k:Nat,k<=zs.length/\i=.int .i64 k/\(zs.take k).any oddB=false) (fun i=>zs.length - (intOf i).toNat)
 case atStart=>exact ⟨0,by omega,rfl,by simp⟩
 case round =>
  obtain ⟨k,hk,rfl,hnot⟩:=hrel
  have HN:=hD hnot
  clear hnot
  by_cases hlt:k<zs.length
  ·obtain ⟨b,off,cap',he,_,_,hc⟩:=IsAt.at H.out (by omega)
   simp only [Value.slice.injEq,true_and] at he
   obtain ⟨rfl,rfl⟩:=he
   have hcell:=hc k hlt
   clear hc
   obtain ⟨z,hz⟩:∃ z,z=zs[k]:=⟨_,rfl⟩
   rw [<- hz] at hcell
   cases ho:oddB z with
   | true =>
    have HF:=hD (findIdx_hit oddB zs k hlt HN.out (by rw [<- hz];exact ho))
    have CO:Hid (∀ w,Calls Tryz.prog 101 #[.int .i64 z] w fun e w'=>e=.returned (.bool true)/\w=w'):=fun w=>by rw [<- ho];exact odd_any z w
    clear hz ho
    go_wp2_with (first | (go_at_call 101;((with_reducible refine (CO.out _).mono ?_);rintro e w' ⟨rfl,rfl⟩)))
    go_ret
    exact ⟨ret_int HF.out.symm,rfl⟩
   | false =>
    have HF:=hD (any_take_step oddB zs k hlt HN.out (by rw [<- hz];exact ho))
    have CO:Hid (∀ w,Calls Tryz.prog 101 #[.int .i64 z] w fun e w'=>e=.returned (.bool false)/\w=w'):=fun w=>by rw [<- ho];exact odd_any z w
    clear hz ho
    go_wp2_with (first | (go_at_call 101;((with_reducible refine (CO.out _).mono ?_);rintro e w' ⟨rfl,rfl⟩)))
    go_round
    case rel=>exact ⟨k+1,by omega,by go_num,HF.out⟩
    case measure=>simp [intOf];omega
  ·have HF:Hid (findI oddB zs=-1):=findIdx_none oddB zs (by have:=HN.out;rwa [List.take_of_length_le (by omega)] at this)
   go_wp2
   go_ret
   exact ⟨ret_int HF.out.symm,rfl⟩
theorem containsOdd_any (v:Value) (zs:List Int) (w:World) (h:IsAt w v zs) (hl:zs.length<=4096) :
  Calls Tryz.prog 41 #[v,.func (.func 101) #[] #[]] w fun e w'=>e=.returned (.bool (zs.any oddB))/\w=w':=by
 have H:=hD h
 clear h
 go_enter Tryz.func41,Tryz.ntmps41
 go_wp2_with (first | (go_at_call 61;((with_reducible refine (indexOdd_any _ _ _ H.out hl).mono ?_);rintro e w' ⟨rfl,rfl⟩)))
 go_ret
 exact ⟨ret_bool (findI_nonneg _ _),rfl⟩
theorem index_any (v:Value) (zs:List Int) (x:Int) (w:World) (h:IsAt w v zs) (hl:zs.length<=4096) :
  Calls Tryz.prog 32 #[v,.int .i64 x] w fun e w'=>e=.returned (.int .i64 (findI (x==·) zs))/\w=w':=by
 obtain ⟨ao,cap,rfl,_⟩:=h.shape
 have H:=hD h
 clear h
 go_enter Tryz.func32,Tryz.ntmps32
 go_wp2
 go_loop [8] (fun i=>∃ k:Nat,k<=zs.length/\i=.int .i64 k/\(zs.take k).any (x==·)=false) (fun i=>zs.length - (intOf i).toNat)
 case atStart=>exact ⟨0,by omega,rfl,by simp⟩
 case round =>
  obtain ⟨k,hk,rfl,hnot⟩:=hrel
  have HN:=hD hnot
  clear hnot
  by_cases hlt:k<zs.length
  ·obtain ⟨b,off,cap',he,_,_,hc⟩:=IsAt.at H.out (by omega)
   simp only [Value.slice.injEq,true_and] at he
   obtain ⟨rfl,rfl⟩:=he
   have hcell:=hc k hlt
   clear hc
   obtain ⟨z,hz⟩:∃ z,z=zs[k]:=⟨_,rfl⟩
   rw [<- hz] at hcell
   cases ho:(x==z) with
   | true =>
    have HF:=hD (findIdx_hit (x==·) zs k hlt HN.out (by rw [<- hz];exact ho))
    clear hz
    go_wp2
    go_ret
    exact ⟨ret_int HF.out.symm,rfl⟩
   | false =>
    have HF:=hD (any_take_step (x==·) zs k hlt HN.out (by rw [<- hz];exact ho))
    clear hz
    go_wp2
    go_round
    case rel=>exact ⟨k+1,by omega,by go_num,HF.out⟩
    case measure=>simp [intOf];omega
  ·have HF:Hid (findI (x==·) zs=-1):=findIdx_none (x==·) zs (by have:=HN.out;rwa [List.take_of_length_le (by omega)] at this)
   go_wp2
   go_ret
   exact ⟨ret_int HF.out.symm,rfl⟩
theorem contains_any (v:Value) (zs:List Int) (x:Int) (w:World) (h:IsAt w v zs) (hl:zs.length<=4096) :
  Calls Tryz.prog 88 #[v,.int .i64 x] w fun e w'=>e=.returned (.bool (zs.any (x==·)))/\w=w':=by
 have H:=hD h
 clear h
 go_enter Tryz.func88,Tryz.ntmps88
 go_wp2_with (first | (go_at_call 32;((with_reducible refine (index_any _ _ _ _ H.out hl).mono ?_);rintro e w' ⟨rfl,rfl⟩)))
 go_ret
 exact ⟨ret_bool (findI_nonneg _ _),rfl⟩
def shapeB (coef vars:List Int) (rel c:Int):Bool:=coef.length != vars.length||decide (16<coef.length)||decide (rel<1)||decide (3<rel)||decide (c < -1099511627776)||decide (1099511627776<c)||coef.any oddB
def badV (vars:List Int) (n:Int) (k:Nat):Bool:=decide (vars.getD k 0<0)||decide (n<=vars.getD k 0)||(vars.take k).any (vars.getD k 0==·)
def linChk (coef vars:List Int) (rel c n:Int):Int:=if shapeB coef vars rel c=true then 150 else if (List.range vars.length).any (badV vars n)=true then 160 else 0
theorem range_any_step (p:Nat->Bool) (k:Nat) (h:(List.range k).any p=false) (hp:p k=false):(List.range (k+1)).any p=false:=by
 rw [List.range_succ,List.any_append,h];simp [hp]
theorem range_any_hit (p:Nat->Bool) (k n:Nat) (hk:k<n) (hp:p k=true):(List.range n).any p=true:=by
 rw [List.any_eq_true];exact ⟨k,by simpa using hk,hp⟩
set_option maxHeartbeats 1600000
theorem linCheck_any (v0 v1:Value) (rel c n:Int) (coef vars:List Int) (w:World) (h0:IsAt w v0 coef) (h1:IsAt w v1 vars) (hl0:coef.length<=4096) (hl1:vars.length<=4096) :
  Calls Tryz.prog 85 #[.agg #[v0,v1,.int .i64 rel,.int .i64 c],.int .i64 n] w fun e w'=>e=.returned (.int .i64 (linChk coef vars rel c n))/\Below w.heap.size w w':=by
 obtain ⟨a0,c0,rfl,_⟩:=h0.shape
 obtain ⟨a1,c1,rfl,_⟩:=h1.shape
 have hB:Below w.heap.size w (w.alloc (.cells #[.slice a0 coef.length c0,.slice a1 vars.length c1,.int .i64 rel,.int .i64 c] 65)):=bA _
 have H0:=hD (h0.below hB)
 have H1:=hD (h1.below hB)
 clear h0 h1
 have CO:Hid (Calls Tryz.prog 41 #[.slice a0 coef.length c0,.func (.func 101) #[] #[]] (w.alloc (.cells #[.slice a0 coef.length c0,.slice a1 vars.length c1,.int .i64 rel,.int .i64 c] 65)) fun e w'=>e=.returned (.bool (coef.any oddB))/\(w.alloc (.cells #[.slice a0 coef.length c0,.slice a1 vars.length c1,.int .i64 rel,.int .i64 c] 65))=w'):=containsOdd_any _ _ _ H0.out hl0
 by_cases e1:coef.length≠vars.length
 ·have e1':((coef.length:Int) != (vars.length:Int))=true:=by simp;omega
  have hS:Hid (linChk coef vars rel c n=150):=by show _=_;simp [linChk,shapeB,e1]
  go_enter Tryz.func85,Tryz.ntmps85
  go_wp2_with (first | (go_at_call 41;((with_reducible refine (CO.out).mono ?_);rintro e w' ⟨rfl,rfl⟩)))
  go_ret
  exact ⟨ret_int hS.out.symm,hB⟩
 have e1':((coef.length:Int) != (vars.length:Int))=false:=by simp;omega
 have e1'':(coef.length != vars.length)=false:=by simp;omega
 have E1:=hD e1''
 clear e1 e1''
 by_cases e2:16<coef.length
 ·have hS:Hid (linChk coef vars rel c n=150):=by show _=_;simp [linChk,shapeB,e2]
  go_enter Tryz.func85,Tryz.ntmps85
  go_wp2_with (first | (go_at_call 41;((with_reducible refine (CO.out).mono ?_);rintro e w' ⟨rfl,rfl⟩)))
  go_ret
  exact ⟨ret_int hS.out.symm,hB⟩
 by_cases e3:rel<1
 ·have hS:Hid (linChk coef vars rel c n=150):=by show _=_;simp [linChk,shapeB,e3]
  go_enter Tryz.func85,Tryz.ntmps85
  go_wp2_with (first | (go_at_call 41;((with_reducible refine (CO.out).mono ?_);rintro e w' ⟨rfl,rfl⟩)))
  go_ret
  exact ⟨ret_int hS.out.symm,hB⟩
 by_cases e4:3<rel
 ·have hS:Hid (linChk coef vars rel c n=150):=by show _=_;simp [linChk,shapeB,e4]
  go_enter Tryz.func85,Tryz.ntmps85
  go_wp2_with (first | (go_at_call 41;((with_reducible refine (CO.out).mono ?_);rintro e w' ⟨rfl,rfl⟩)))
  go_ret
  exact ⟨ret_int hS.out.symm,hB⟩
 by_cases e5:c < -1099511627776
 ·have hS:Hid (linChk coef vars rel c n=150):=by show _=_;simp [linChk,shapeB,e5]
  go_enter Tryz.func85,Tryz.ntmps85
  go_wp2_with (first | (go_at_call 41;((with_reducible refine (CO.out).mono ?_);rintro e w' ⟨rfl,rfl⟩)))
  go_ret
  exact ⟨ret_int hS.out.symm,hB⟩
 by_cases e6:1099511627776<c
 ·have hS:Hid (linChk coef vars rel c n=150):=by show _=_;simp [linChk,shapeB,e6]
  go_enter Tryz.func85,Tryz.ntmps85
  go_wp2_with (first | (go_at_call 41;((with_reducible refine (CO.out).mono ?_);rintro e w' ⟨rfl,rfl⟩)))
  go_ret
  exact ⟨ret_int hS.out.symm,hB⟩
 cases e7:coef.any oddB with
 | true =>
  rw [e7] at CO
  have hS:Hid (linChk coef vars rel c n=150):=by show _=_;simp [linChk,shapeB,e7]
  clear e7
  go_enter Tryz.func85,Tryz.ntmps85
  go_wp2_with (first | (go_at_call 41;((with_reducible refine (CO.out).mono ?_);rintro e w' ⟨rfl,rfl⟩)))
  go_ret
  exact ⟨ret_int hS.out.symm,hB⟩
 | false =>
  rw [e7] at CO
  have hS:Hid (linChk coef vars rel c n=if (List.range vars.length).any (badV vars n)=true then 160 else 0):=by
   show _=_
   have:=E1.out
   simp [linChk,shapeB,this,e2,e3,e4,e5,e6,e7]
  clear e7
  go_enter Tryz.func85,Tryz.ntmps85
  go_wp2_with (first | (go_at_call 41;((with_reducible refine (CO.out).mono ?_);rintro e w' ⟨rfl,rfl⟩)))
  go_loop [50] (fun i=>∃ k:Nat,k<=vars.length/\i=.int .i64 k/\(List.range k).any (badV vars n)=false) (fun i=>vars.length - (intOf i).toNat)
  case atStart=>exact ⟨0,by omega,rfl,rfl⟩
  case round =>
   obtain ⟨k,hk,rfl,hnot⟩:=hrel
   have HN:=hD hnot
   clear hnot
   by_cases hlt:k<vars.length
   ·obtain ⟨b,off,cap',he,hcap,_,hc⟩:=IsAt.at H1.out (by omega)
    simp only [Value.slice.injEq,true_and] at he
    obtain ⟨rfl,rfl⟩:=he
    have hcell:=hc k hlt
    clear hc
    obtain ⟨z,hz⟩:∃ z,z=vars[k]:=⟨_,rfl⟩
    have HZ:Hid (vars.getD k 0=z):=by show _=_;rw [hz];simp [hlt]
    rw [<- hz] at hcell
    clear hz
    have HT:Hid (IsAt (w.alloc (.cells #[.slice a0 coef.length c0,.slice (some ⟨b,off,none⟩) vars.length c1,.int .i64 rel,.int .i64 c] 65)) (.slice (some ⟨b,off,none⟩) k c1) (vars.take k)):=by
     have:=SlAt.take H1.out k c1 (by omega) (by omega) (rN _)
     unfold IsAt Hid
     rw [List.length_take,Nat.min_eq_left (by omega),List.map_take]
     simpa using this
    by_cases z1:z<0
    ·have hF:Hid ((List.range vars.length).any (badV vars n)=true):=range_any_hit _ k _ hlt (by rw [badV,HZ.out];simp [z1])
     go_wp2
     go_ret
     exact ⟨ret_int (by rw [hS.out,hF.out];rfl),hB⟩
    ·by_cases z2:n<=z
     ·have hF:Hid ((List.range vars.length).any (badV vars n)=true):=range_any_hit _ k _ hlt (by rw [badV,HZ.out];simp [z2])
      go_wp2
      go_ret
      exact ⟨ret_int (by rw [hS.out,hF.out];rfl),hB⟩
     ·cases z3:(vars.take k).any (z==·) with
      | true =>
       have hF:Hid ((List.range vars.length).any (badV vars n)=true):=range_any_hit _ k _ hlt (by rw [badV,HZ.out,z3];simp)
       have CC:Hid (∀ w' v,IsAt w' v (vars.take k)->Calls Tryz.prog 88 #[v,.int .i64 z] w' fun e w''=>e=.returned (.bool true)/\w'=w''):=fun w' v h=>by
        rw [<- z3];exact contains_any _ _ _ _ h (by rw [List.length_take];omega)
       clear z3
       go_wp2_with (first | (go_at_call 88;((with_reducible refine (CC.out _ _ HT.out).mono ?_);rintro e w' ⟨rfl,rfl⟩)))
       go_ret
       exact ⟨ret_int (by rw [hS.out,hF.out];rfl),hB⟩
      | false =>
       have hF:Hid ((List.range (k+1)).any (badV vars n)=false):=range_any_step _ k HN.out (by rw [badV,HZ.out,z3];simp;omega)
       have CC:Hid (∀ w' v,IsAt w' v (vars.take k)->Calls Tryz.prog 88 #[v,.int .i64 z] w' fun e w''=>e=.returned (.bool false)/\w'=w''):=fun w' v h=>by
        rw [<- z3];exact contains_any _ _ _ _ h (by rw [List.length_take];omega)
       clear z3
       go_wp2_with (first | (go_at_call 88;((with_reducible refine (CC.out _ _ HT.out).mono ?_);rintro e w' ⟨rfl,rfl⟩)))
       go_round
       case rel=>exact ⟨k+1,by omega,by go_num,hF.out⟩
       case measure=>simp [intOf];omega
   ·have hF:Hid ((List.range vars.length).any (badV vars n)=false):=by have:=HN.out;rwa [show k=vars.length by omega] at this
    go_wp2
    go_ret
    exact ⟨ret_int (by rw [hS.out,hF.out];rfl),hB⟩
end
section
open Go.RowKit Go.ChangeShapes Go.WideShapes Go.ChangeAt
theorem cellsRgsL:Tryz.prog.cellsOf 61=1:=by kernel_rfl
set_option maxRecDepth 100000
theorem rgs_of {H:Type} {enc:TypeId×Value->H} {w:World} {sp:Nat->Bool} {held:Bool} {fuel:Nat} {v:Value} {y:DataW H×List MemPlace}
  (h:DataW.trod enc Tryz.prog w 0 sp held fuel 61 [v]=some y):∃ rs:List Rg,RgAt w v rs:=by
 obtain ⟨d,ps⟩:=y
 obtain ⟨n,xs,hS,hE⟩:=open_sl (k:=2) Tryz.underlying61 cellsRg h
 have hl:=hS.len
 have hx:∀ i,i<n->∃ r:Rg,xs[i * 2]?=some (.int .i64 r.1)/\xs[i * 2+1]?=some (.int .i64 r.2):=fun i hi=>by
  obtain ⟨m,y,hy⟩:=hE i hi
  obtain ⟨x0,x1,e0,e1,e2⟩:=pair_cut hl hi
  rw [e2] at hy
  obtain ⟨y0,y1,q,_,_,t0,t1⟩:=trod_struct2 Tryz.underlying77 hy
  obtain ⟨z0,hz0,_,_⟩:=DataW.trod_int Tryz.underlying3 t0
  obtain ⟨z1,hz1,_,_⟩:=DataW.trod_int Tryz.underlying3 t1
  refine ⟨(z0,z1),?_,?_⟩
  ·rw [e0];simp [cellsInt] at hz0;rw [hz0]
  ·rw [e1];simp [cellsInt] at hz1;rw [hz1]
 obtain ⟨f,hf⟩:=Deep.choose_lt hx
 refine ⟨(List.range n).map f,?_⟩
 have e:xs=cellsR ((List.range n).map f):=by
  apply List.ext_getElem?
  intro t
  by_cases ht:t<n * 2
  ·have hd:t / 2<((List.range n).map f).length:=by simp;omega
   obtain ⟨a,b⟩:=cellsR_at ((List.range n).map f) (t / 2) hd
   obtain ⟨f0,f1⟩:=hf (t / 2) (by omega)
   have e3:((List.range n).map f)[t / 2]=f (t / 2):=by simp
   rw [e3] at a b
   rcases (show t % 2=0\/t % 2=1 by omega) with h | h
   ·rw [show xs[t]?=xs[t / 2 * 2]? by congr 1;omega,f0,show (cellsR ((List.range n).map f))[t]?=(cellsR ((List.range n).map f))[t / 2 * 2]? by congr 1;omega,a]
   ·rw [show xs[t]?=xs[t / 2 * 2+1]? by congr 1;omega,f1,show (cellsR ((List.range n).map f))[t]?=(cellsR ((List.range n).map f))[t / 2 * 2+1]? by congr 1;omega,b]
  ·rw [List.getElem?_eq_none (by omega),List.getElem?_eq_none (by rw [cellsR_length];simp;omega)]
 unfold RgAt
 rw [<- e]
 simpa using hS
theorem open_isL {H:Type} {enc:TypeId×Value->H} {w:World} {sp:Nat->Bool} {held:Bool} {fuel:Nat} {v:Value} {y:DataW H×List MemPlace}
  (h:DataW.trod enc Tryz.prog w 0 sp held fuel 26 [v]=some y):∃ zs:List Int,IsAt w v zs/\∀ z∈zs,-9223372036854775808<=z/\z<=9223372036854775807:=by
 obtain ⟨d,ps⟩:=y
 obtain ⟨n,xs,hS,hE⟩:=open_sl (k:=1) Tryz.underlying26 cellsInt h
 have hx:∀ i,i<n->∃ z:Int,xs[i]?=some (.int .i64 z)/\(Lit.int .i64 z).wf=true:=fun i hi=>by
  obtain ⟨m,y,hy⟩:=hE i hi
  obtain ⟨z,hz,_,hwf⟩:=DataW.trod_int Tryz.underlying3 hy
  refine ⟨z,?_,hwf⟩
  have:=congrArg (·[0]?) hz
  simpa [List.getElem?_take,List.getElem?_drop] using this
 obtain ⟨f,hf⟩:=Deep.choose_lt hx
 have hl:=hS.len
 have e:xs=((List.range n).map f).map (Value.int .i64):=by
  apply List.ext_getElem?
  intro i
  by_cases hi:i<n
  ·rw [(hf i hi).1];simp [hi]
  ·rw [List.getElem?_eq_none (by omega),List.getElem?_eq_none (by simp;omega)]
 refine ⟨(List.range n).map f,?_,fun z hz=>?_⟩
 ·unfold IsAt
  rw [<- e]
  simpa using hS
 ·obtain ⟨i,hi,rfl⟩:=List.mem_map.1 hz
  have:=(hf i (by simpa using hi)).2
  simpa [Lit.wf,IntKind.min,IntKind.max,IntKind.bits,IntKind.signed] using this
end
section
open Go.RowKit
theorem mul_bnd (x c B:Int) (hx:-200<=x/\x<=200) (hc:-B<=c/\c<=B):-(200 * B)<=c * x/\c * x<=200 * B:=by
 have h1:(c * x).natAbs<=B.toNat * 200:=by
  rw [Int.natAbs_mul];exact Nat.mul_le_mul (by omega) (by omega)
 omega
theorem wrap_small {x:Int} (h:-9223372036854775808<=x/\x<=9223372036854775807):IntKind.i64.wrap x=x:=by
 simp [IntKind.wrap,IntKind.bits,IntKind.signed];omega
theorem part_c (vd:Value) (c:Int) (d:List Rg) (w:World) (hd:RgAt w vd d) (hl:d.length<=4096) (hc:-100000<=c/\c<=100000) :
  Calls Tryz.prog 161 #[.int .i64 c,vd] w fun e w'=>e=.returned (.tuple #[.agg #[.int .i64 (loT c d),.int .i64 (hiT c d)],.bool (okT d)])/\Below w.heap.size w w':=by
 obtain ⟨ao,cap,rfl,_⟩:=hd.shape
 have CE:Hid (∀ W,Below w.heap.size w W->Calls Tryz.prog 45 #[.slice ao d.length cap] W fun e w'=>e=.returned (.tuple #[.int .i64 (endsL (norm d)).1,.int .i64 (endsL (norm d)).2.1,.bool (endsL (norm d)).2.2])/\Below W.heap.size W w'):=fun W h=>ends_c _ d W (hd.below h) hl
 obtain ⟨b1,b2,b3,b4⟩:=ends_bnd d
 unfold loT hiT okT
 clear hd
 generalize (endsL (norm d)).1=lo at *
 generalize (endsL (norm d)).2.1=hi at *
 generalize (endsL (norm d)).2.2=ok at *
 obtain ⟨m1,m2⟩:=mul_bnd lo c 100000 ⟨b1,b2⟩ hc
 obtain ⟨m3,m4⟩:=mul_bnd hi c 100000 ⟨b3,b4⟩ hc
 have w1:=wrap_small (x:=c * lo) (by omega)
 have w2:=wrap_small (x:=c * hi) (by omega)
 have CE2:Hid (Calls Tryz.prog 45 #[.slice ao d.length cap] (w.alloc (.cells #[.int .i64 0,.int .i64 0] 198)) fun e w'=>e=.returned (.tuple #[.int .i64 lo,.int .i64 hi,.bool ok]) /\
   Below w.heap.size w w'/\Box2 w' w.heap.size (.int .i64 0) (.int .i64 0)) :=
  (CE.out _ (bA _)).mono fun e w' ⟨he,hb⟩=>⟨he,(bA _).trans (hb.mono (by simp)),(Box2.mk' _ _ _ _).past hb⟩
 by_cases h0:c<0
 ·simp only [if_pos h0]
  go_enter Tryz.func161,Tryz.ntmps161
  go_wp2_with (go_at_call 45;(with_reducible refine CE2.out.mono ?_);rintro e W ⟨rfl,bb,qb⟩;have B1:=hD bb;have Q:=hD qb;obtain ⟨q1,q2,q3,q4⟩:=qb;clear bb)
  have s0:=(Q.out.set0 (.int .i64 (c * hi))).c0
  have s1:=((Q.out.set0 (.int .i64 (c * hi))).set1 (.int .i64 (c * lo))).c1
  refine bodyPost_ret (v:=.tuple #[.agg #[.int .i64 (c * hi),.int .i64 (c * lo)],.bool ok]) (by rw [results_cell_tmp rfl];go_simp) rfl ⟨rfl,(B1.out.setCell (p:=⟨w.heap.size,0,none⟩) (rN _) _).setCell (p:=⟨w.heap.size,1,none⟩) (rN _) _⟩
 ·simp only [if_neg h0]
  go_enter Tryz.func161,Tryz.ntmps161
  go_wp2_with (go_at_call 45;(with_reducible refine CE2.out.mono ?_);rintro e W ⟨rfl,bb,qb⟩;have B1:=hD bb;have Q:=hD qb;obtain ⟨q1,q2,q3,q4⟩:=qb;clear bb)
  have s0:=(Q.out.set0 (.int .i64 (c * lo))).c0
  have s1:=((Q.out.set0 (.int .i64 (c * lo))).set1 (.int .i64 (c * hi))).c1
  refine bodyPost_ret (v:=.tuple #[.agg #[.int .i64 (c * lo),.int .i64 (c * hi)],.bool ok]) (by rw [results_cell_tmp rfl];go_simp) rfl ⟨rfl,(B1.out.setCell (p:=⟨w.heap.size,0,none⟩) (rN _) _).setCell (p:=⟨w.heap.size,1,none⟩) (rN _) _⟩
end
end Go.Proofs.YtaekdgikgbdnnaaGreat
