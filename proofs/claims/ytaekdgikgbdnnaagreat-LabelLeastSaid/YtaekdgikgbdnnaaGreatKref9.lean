/-
  slices.Clone of a list of sets; label.with, walked.
  What the laws of layer 17 begin with: the bound, the check.
  fix.Fix, walked: it comes to the greatest sets at which no constraint says anything new.
  fix.Fix with what it comes to named ahead; Check of no constraint, and of one of no kind.
-/
import Derived.Test.YtaekdgikgbdnnaaGreatKref8
import Derived.Test.YtaekdgikgbdnnaaGreatKonce3
import Derived.Test.YtaekdgikgbdnnaaGreatKfix1
import Derived.Test.YtaekdgikgbdnnaaGreatKdom3
import Derived.Test.YtaekdgikgbdnnaaGreatKref4
import Derived.Deep.LoopGhost
import Derived.Deep.CutBlock
import Derived.Deep.DeepCutAuto
namespace Go.Proofs.YtaekdgikgbdnnaaGreat
section
open Go.RowKit
theorem wpList_appendTwo {P:Program} {ops:Array Oper} {rest:List Oper} {o:Oper} {a:Act} {w:World} {Q:Exit->Act->World->Prop} (hgd:o.guard=none) (s x:Operand) (t:TypeId)
  (ho:o.op=.call { callee:=.builtin .append,args:=#[s,x],argTypes:=#[t,t] })
  (base:Nat) (e:TypeId) (i:TypeInfo) (z:Value) (bytes:Nat) (ht:P.underlying t=some (.slice e)) (hi:P.info? e=some i) (hz:i.zero=some z)
  (hsize:i.size=1) (hby:i.bytes=bytes) (hzs:z.cells.size=1)
  (v:Value) (n:Nat) (xs:List Value) (hs:a.eval s=v) {e':TypeId} (u1 u2:Value) (hown:(w.alloc (.cells #[u1,u2] e')).ownsRow base e 1 v n xs)
  (hx:a.eval x=.slice (some ⟨w.heap.size,0,none⟩) 2 2) (h1:u1.oneCell'=true) (h2:u2.oneCell'=true)
  (hbytes:(n+2) * bytes<=140737488355328/\n+2<=140737488355328) (hbase:base<=w.heap.size)
  (h:∀ g cap w',w'.ownsRow base e 1 (.slice (some ⟨g,0,none⟩) (n+2) cap) (n+2) (xs++[u1,u2])->(w.alloc (.cells #[u1,u2] e')).grownBy w' v.ownBlock->(v.ownBlock=some g\/(w.alloc (.cells #[u1,u2] e')).heap.size<=g)->wpList P ops Q rest (a.put o.dst (.slice (some ⟨g,0,none⟩) (n+2) cap)) w') :
  wpList P ops Q (o::rest) a (w.alloc (.cells #[u1,u2] e')):=by
 refine wpList_append_lies _ hgd s x t ho base e i z 1 bytes ht hi hz hsize hby hzs (by decide) v n xs hs hown ⟨w.heap.size,0,none⟩ 2 2 [u1,u2] hx rfl ?_ ?_ (by decide) ?_ hbytes.1 (by simp;omega) _ rfl ?_
 ·intro j y hj
  match j,hj with
  | 0,hj=>simp at hj;subst hj;simp [Addr.add]
  | 1,hj=>simp at hj;subst hj;simp [Addr.add]
 ·intro y hy;simp at hy;rcases hy with rfl | rfl <;> assumption
 ·unfold maxLen;omega
 ·intro g cap w' r1 r2 r3 _
  exact h g cap w' r1 r2 (r3.imp id (fun e=>Nat.le_of_eq e.symm))
theorem rgs_one {us:List Value} {n:Nat} {P:Nat->Value->Prop} (h:us.length=n) (hu:∀ j,j<n->∃ u,us[j]?=some u/\P j u) (hp:∀ j u,P j u->u.oneCell'=true):∀ u∈us,u.oneCell'=true:=fun u hm=>by
 obtain ⟨j,hj,rfl⟩:=List.mem_iff_getElem.1 hm
 obtain ⟨x,e,hx⟩:=hu j (by omega)
 rw [List.getElem?_eq_getElem hj] at e
 injection e with e
 rw [e];exact hp j x hx
theorem rgAt_oneCell {W:World} {u:Value} {d:List Rg} (h:RgAt W u d):u.oneCell'=true:=by
 obtain ⟨ao,c,rfl,_⟩:=h.shape
 rfl
def DsIn (Q:Nat->Prop) (W:World) (B:Nat) (v:Value) (D:Ds) (us:List Value):Prop :=
 us.length=D.length/\W.ownsRow B 61 1 v D.length us/\∀ j,(hj:j<D.length)->∃ u,us[j]?=some u/\RgQ Q W u D[j]
theorem DsIn.q {Q:Nat->Prop} {W:World} {B:Nat} {v:Value} {D:Ds} {us:List Value} (h:DsIn Q W B v D us) (hq:∀ b,B<=b->Q b):DsQ Q W v D :=
 ⟨us,h.1,SlAt.of_own h.2.1,fun _ b e=>hq b ((own_lt h.2.1 e).2),h.2.2⟩
def RetD (Q:Nat->Prop) (D:Ds) (w:World) (e:Ending) (w':World):Prop:=∃ g cap us,e=.returned (.slice (some ⟨g,0,none⟩) D.length cap)/\DsIn Q w' w.heap.size (.slice (some ⟨g,0,none⟩) D.length cap) D us/\Below w.heap.size w w'
set_option maxRecDepth 100000
theorem cloneDs_c (Q:Nat->Prop) (vd:Value) (D:Ds) (w:World) (hd:DsQ Q w vd D) (hl:D.length<=4096) (hne:0<D.length) :
  Calls Tryz.prog 53 #[vd] w (RetD Q D w):=by
 obtain ⟨i0,hi,hz0,hz1,hz2⟩:=info_parts Tryz.infoRgs
 obtain ⟨us,hus,hsl,hq,hel⟩:=hd
 have hone:=rgs_one hus (fun j hj=>by obtain ⟨u,a,b⟩:=hel j hj;exact ⟨u,a,rgAt_oneCell b.1⟩) (P:=fun _ u=>u.oneCell'=true) (fun _ _ h=>h)
 obtain ⟨b,off,cap,rfl,_⟩:=SlAt.pos hsl (by omega)
 have q22:∀ (w:World) (a:Option Addr) (n c n' c':Nat),(binOp .eql 22 (.slice a n c) (.slice none n' c')).run Tryz.prog w=.ok (.bool a.isNone) w:=fun w a n c n' c'=>Lib.run_eql_slice_nil w _ _ a n c n' c' Tryz.underlying22
 have H:=hD hsl
 have HO:=hD hone
 have HE:=hD hel
 have HU:=hD hus
 clear hsl hone hel hus hq
 have HM:Hid ((w.alloc (.cells #[] 61)).ownsRow w.heap.size 61 1 (.slice (some ⟨w.heap.size,0,none⟩) 0 0) 0 []):=World.ownsRow_made w #[] 0 (rN _) (by decide) rfl
 have HB:Hid (Below w.heap.size w (w.alloc (.cells #[] 61))):=bA _
 go_enter Tryz.func53,Tryz.ntmps53
 go_wp2_with (at_builtin;refine wpList_append_sl rfl (.tmp 5) (.tmp 6) 22 rfl w.heap.size 61 i0 (.slice none 0 0) 1 24 Tryz.underlying22 hi hz0 hz1 hz2 rfl (by decide) _ 0 [] rfl HM.out _ D.length us rfl (SlAt.below H.out HB.out) HO.out (by omega) (by simp) ?_;intro v1 w1 o1 b1 _)
 rw [Nat.zero_add,List.nil_append] at o1
 have o2:=o1
 rcases o2.2 with ⟨_,h0⟩ | ⟨g,c,cur,rfl,_⟩
 ·omega
 go_ret
 have hb:=HB.out.trans b1
 exact ⟨g,c,us,rfl,⟨HU.out,o1,fun j hj=>by
  obtain ⟨u,a,b⟩:=HE.out j hj
  exact ⟨u,a,b.on hb.size (fun k hk _=>hb.block k hk)⟩⟩,hb⟩
theorem RgQ.below {Q:Nat->Prop} {W W':World} {u:Value} {d:List Rg} (h:RgQ Q W u d) (hb:Below W.heap.size W W'):RgQ Q W' u d:=h.on hb.size (fun b hb' _=>hb.block b hb')
theorem DsIn.set {Q:Nat->Prop} {W:World} {B g cap:Nat} {D:Ds} {us:List Value} (h:DsIn Q W B (.slice (some ⟨g,0,none⟩) D.length cap) D us) {v:Nat} (hv:v<D.length) {u:Value} {d:List Rg} (hu:RgQ Q W u d) :
  DsIn Q (W.setCell ⟨g,v,none⟩ u) B (.slice (some ⟨g,0,none⟩) D.length cap) (D.set v d) (us.set v u):=by
 obtain ⟨h1,h2,h3⟩:=h
 have hc:∃ ao n c,W.cell? ⟨g,v,none⟩=some (.slice ao n c):=by
  obtain ⟨x,e,r⟩:=h3 v hv
  obtain ⟨ao,c,rfl,_⟩:=r.1.shape
  exact ⟨ao,_,c,by rw [h2.cellAt v (by omega),e]⟩
 obtain ⟨ao,n,c,hc⟩:=hc
 refine ⟨by simp [h1],by rw [List.length_set];exact (h2.stored v u).1,fun i hi=>?_⟩
 rw [List.length_set] at hi
 by_cases hij:v=i
 ·subst hij
  exact ⟨u,by rw [List.getElem?_set_self (by omega)],by rw [List.getElem_set_self];exact ⟨hu.1.setSlice hc u,hu.2⟩⟩
 ·obtain ⟨x,e1,e2⟩:=h3 i hi
  exact ⟨x,by rw [List.getElem?_set_ne hij];exact e1,by rw [List.getElem_set_ne hij];exact ⟨e2.1.setSlice hc u,e2.2⟩⟩
theorem with_c (Q:Nat->Prop) (vd:Value) (v:Nat) (vu:Value) (D:Ds) (d:List Rg) (w:World) (hd:DsQ Q w vd D) (hu:RgQ Q w vu d) (hv:v<D.length) (hl:D.length<=4096) :
  Calls Tryz.prog 33 #[vd,.int .i64 v,vu] w (RetD Q (D.set v d) w):=by
 have CC:=hD (cloneDs_c Q vd D w hd hl (by omega))
 have HU:=hD hu
 obtain ⟨ao,cap,rfl,_⟩:=hd.at.shape
 obtain ⟨ao2,cap2,rfl,_⟩:=hu.1.shape
 clear hd hu
 have j1:(v:Int)<D.length:=by omega
 go_enter Tryz.func33,Tryz.ntmps33
 go_wp2_with (go_at_call 53;(with_reducible refine CC.out.mono ?_);rintro e W1 ⟨g,c,us,rfl,i1,b1⟩;have I1:=hD i1;have B1:=hD b1;obtain ⟨z,hz⟩:∃ z,W1.cell? ⟨g,v,none⟩=some z:=(by obtain ⟨x,e,_⟩:=i1.2.2 v hv;exact ⟨x,by rw [i1.2.1.cellAt v (by omega),e]⟩);have hg:=hD (own_lt i1.2.1 (b:=g) rfl).2;have hfz:=i1.2.1.frozenAt v;clear i1 b1)
 go_ret
 refine ⟨g,c,us.set v (.slice ao2 d.length cap2),by rw [List.length_set];rfl,?_,B1.out.setCell (p:=⟨g,v,none⟩) hg.out _⟩
 have:=DsIn.set I1.out hv (HU.out.below B1.out)
 rw [List.length_set]
 exact this
def RetDn (Q:Nat->Prop) (n:Nat) (D:Ds) (w:World) (e:Ending) (w':World):Prop:=∃ g cap us,e=.returned (.slice (some ⟨g,0,none⟩) n cap)/\DsIn Q w' w.heap.size (.slice (some ⟨g,0,none⟩) n cap) D us/\Below w.heap.size w w'
theorem with_n (Q:Nat->Prop) (vd:Value) (v:Nat) (vu:Value) (D:Ds) (d:List Rg) (w:World) (hd:DsQ Q w vd D) (hu:RgQ Q w vu d) (hv:v<D.length) (hl:D.length<=4096) :
  Calls Tryz.prog 33 #[vd,.int .i64 v,vu] w (RetDn Q D.length (D.set v d) w) :=
 (with_c Q vd v vu D d w hd hu hv hl).mono fun e w' h=>by unfold RetD at h;rw [List.length_set] at h;exact h
def bigD (d:List Rg):Bool:=decide (4<d.length)||decide (60<sizeL (norm d))
def bigP (p:PL):Bool:=decide (5<p.vars.length)||decide (5<p.coef.length)||decide (6<p.vs.length)
def many17 (ds:Ds) (ps:List PL):Bool:=decide (5<ds.length)||decide (6<ps.length)||ds.any bigD||ps.any bigP
theorem many17_ok {ds:Ds} {ps:List PL} (h:many17 ds ps=false):ds.length<=5/\ps.length<=6/\(∀ d∈ds,d.length<=4)/\∀ p∈ps,p.coef.length<=5/\p.vars.length<=5/\p.vs.length<=6:=by
 simp only [many17,bigD,bigP,Bool.or_eq_false_iff,decide_eq_false_iff_not,List.any_eq_false,decide_eq_true_eq,Bool.or_eq_true,not_or] at h
 obtain ⟨⟨⟨h1,h2⟩,h3⟩,h4⟩:=h
 exact ⟨by omega,by omega,fun d hd=>by have:=(h3 d hd).1;omega,fun p hp=>by have:=h4 p hp;omega⟩
theorem any_snoc {α:Type} {l:List α} {f:α->Bool} {k:Nat} (hk:k<l.length) (h:(l.take k).any f=false) (h2:f l[k]=false):(l.take (k+1)).any f=false:=by
 rw [List.take_succ_eq_append_getElem hk,List.any_append,h];simp [h2]
theorem any_hit {α:Type} {l:List α} {f:α->Bool} {k:Nat} (hk:k<l.length) (h:f l[k]=true):l.any f=true:=by
 rw [List.any_eq_true];exact ⟨l[k],List.getElem_mem hk,h⟩
def right17 (ds:Ds) (ps:List PL):Bool:=!many17 ds ps&&decide (fixChk ds.length ps=0)
theorem right17_in {ds:Ds} {ps:List PL} (h:right17 ds ps=true):FixIn ds ps:=by
 unfold right17 at h
 rw [Bool.and_eq_true,Bool.not_eq_true',decide_eq_true_eq] at h
 obtain ⟨h1,h2⟩:=h
 obtain ⟨m1,m2,m3,m4⟩:=many17_ok h1
 have hdm:∀ d∈ds,d.length<=4096:=fun d hd=>by have:=m3 d hd;omega
 have hc:∀ p∈ps,p.chk ds.length=0:=fun p hp=>by
  obtain ⟨j,hj,rfl⟩:=List.mem_iff_getElem.1 hp
  apply Classical.byContradiction
  intro hne
  have hex:∃ k,∃ hk:k<ps.length,ps[k].chk ds.length≠0/\∀ i,(hi:i<ps.length)->i<k->ps[i].chk ds.length=0:=by
   have:∀ m,m<=ps.length->(∀ i,(hi:i<ps.length)->i<m->ps[i].chk ds.length=0)\/∃ k,∃ hk:k<ps.length,ps[k].chk ds.length≠0/\∀ i,(hi:i<ps.length)->i<k->ps[i].chk ds.length=0:=by
    intro m
    induction m with
    | zero=>exact fun _=>.inl fun i _ hi=>absurd hi (Nat.not_lt_zero _)
    | succ m ih =>
     intro hm
     rcases ih (by omega) with h | h
     ·by_cases e:ps[m].chk ds.length=0
      ·exact .inl fun i hi him=>by
        rcases Nat.lt_or_ge i m with g | g
        ·exact h i hi g
        ·obtain rfl:i=m:=by omega
         exact e
      ·exact .inr ⟨m,by omega,e,h⟩
     ·exact .inr h
   rcases this ps.length (rN _) with h | h
   ·exact absurd (h j hj hj) hne
   ·exact h
  obtain ⟨k,hk,h3,h4⟩:=hex
  have:=fix_hit (m:=ds.length) (ps:=ps) (by omega) (by omega) hk h4 h3
  rw [h2] at this
  exact h3 this.symm
 exact ⟨fun p hp=>chk_fine p ds (hc p hp) hdm,fun p hp=>by have:=m4 p hp;exact ⟨by omega,by omega,by omega⟩,by omega,hdm,by omega⟩
set_option maxRecDepth 1000000
set_option maxHeartbeats 6400000
theorem fix_c (ds:Ds) (ps:List PL) (vds vps:Value) (w:World) (hd:DsAt w vds ds) (hp:PsAt w vps ps) (hin:FixIn ds ps) :
  Calls Tryz.prog 43 #[vds,vps] w fun e w'=>∃ R,FixOf ps ds R/\RetF R w e w':=by
 obtain ⟨t0,ht,hz0,hz1,hz2⟩:=info_parts Tryz.infoInt
 have hmm:=@run_makeMap Tryz.prog
 obtain ⟨ad,cd,rfl,_⟩:=hd.shape
 obtain ⟨ap,cp,rfl,_⟩:=hp.shape
 have CN:Hid (∀ d,d∈ds->∀ vd W,RgAt W vd d->Calls Tryz.prog 54 #[vd] W (RetN (norm d) W)):=fun d hm vd W hr=>norm_n vd d W hr (hin.dm d hm)
 have HD:=hD hd
 have HP:=hD hp
 have HIN:=hD hin
 have HST:=hD (normTo_step ds)
 have HNL:=hD (normTo_len ds)
 have HTA:=hD (normTo_all ds)
 have hn100:=hin.n
 have hp300:=hin.P
 have hmk:=mk_rows ds.length (by omega)
 have hmk2:=mk_irows ds.length (by omega)
 have EN:Hid (∀ k,(hk:k<ds.length)->norm ds[k]=[]->FixOf ps ds none):=fun k hk h=>onWay_none hk (by rw [List.getD_eq_getElem?_getD,List.getElem?_eq_getElem hk];exact h)
 clear hd hp hin
 obtain ⟨BO,hBO⟩:∃ BO,BO=w.heap.size:=⟨_,rfl⟩
 have HSZ:=hD hBO.symm
 go_enter Tryz.func43,Tryz.ntmps43
 go_wp2
 rw [<- hBO]
 clear hBO
 go_loopw [27] (fun s wr=>∃ k:Nat,k<=ds.length/\s=.int .i64 k/\Hid (∀ j,(hj:j<ds.length)->j<k->norm ds[j]≠[])/\DsOwn wr BO (.slice (some ⟨BO,0,none⟩) ds.length ds.length) (normTo ds k)/\Hid (Below w.heap.size w wr)/\Hid (NewEl BO wr BO ds.length)) (fun s _=>ds.length - (intOf s).toNat)
 case atStart=>exact ⟨0,by omega,rfl,fun j _ h=>by omega,by rw [normTo_zero];have h:=DsOwn.made w ds.length (by unfold maxLen;omega) _ rfl;rw [HSZ.out] at h;exact h,hD (bA _),by have h:=NewEl.made w ds.length (by omega) w.heap.size 61;rw [HSZ.out] at h;exact h⟩
 case round =>
  obtain ⟨k,hk,rfl,HN,hown,HB,HNE⟩:=hrel
  have hle:=HB.out.size
  by_cases hlt:k<ds.length
  ·obtain ⟨b,off,ao,cap,rfl,q1,q2,_,hc,hrg⟩:=(HD.out).get k hlt
   have j1:(k:Int)<ds.length:=by omega
   rw [<- HB.out.cell (p:=⟨b,off+k,none⟩) q2] at hc
   have CN1:=hD (CN.out ds[k] (List.getElem_mem hlt) _ wr (hrg.below HB.out))
   have hst:=hD (HST.out k hlt)
   have hnl:=HNL.out k hk
   have HE1:=hD (EN.out k hlt)
   have HN1:Hid (norm ds[k]≠[]->∀ j,(hj:j<ds.length)->j<k+1->norm ds[j]≠[]):=fun h j hj hjk=>by
    rcases Nat.lt_or_ge j k with g | g
    ·exact HN.out j hj g
    ·obtain rfl:j=k:=by omega
     exact h
   clear hrg
   generalize ds[k]=d at *
   by_cases hnil:norm d=[]
   ·have HE2:=hD (HE1.out hnil)
    have CN2:Hid (Calls Tryz.prog 54 #[.slice ao d.length cap] wr fun e W3=>∃ a3 c3,e=.returned (.slice a3 0 c3)/\Below wr.heap.size wr W3):=CN1.out.mono fun e W3 ⟨a3,c3,he,_,hb,_⟩=>⟨a3,c3,by rw [he,hnil];rfl,hb⟩
    clear CN1 hnil hst HE1 HN1
    go_wp2_with (go_at_call 54;(with_reducible refine CN2.out.mono ?_);rintro e W3 ⟨a3,c3,rfl,b3⟩;have HO:=hD (hown.below b3);have B3:=hD (HB.out.trans (b3.mono hle));obtain ⟨u3,z2,z3⟩:=HO.out.cellAt k (Nat.lt_of_lt_of_eq hlt hnl.symm);have z4:=World.cell?_setCell_same W3 ⟨BO,k,none⟩ (.slice a3 0 c3) z2;clear b3)
    go_ret2
    exact ⟨none,HE2.out,B3.out.setCell (p:=⟨BO,k,none⟩) (Nat.le_of_eq HSZ.out) _,.inr ⟨rfl,rfl⟩⟩
   ·have HN2:=hD (HN1.out hnil)
    have hgl:Hid (BO<wr.heap.size):=by
     obtain ⟨us,_,ho,_⟩:=hown
     exact (own_lt ho (b:=BO) rfl).1
    have hm0:(((norm d).length:Int)==0)=false:=by
     have:=List.length_pos_iff.2 hnil
     simp;omega
    clear HN1 hnil HE1
    go_wp2_with (go_at_call 54;(with_reducible refine CN1.out.mono ?_);rintro e W3 ⟨a3,c3,rfl,r3,b3,n3⟩;have HN3:=hD (NewEl.below HNE.out b3 hgl.out);have HU3:Hid (∀ b,(Value.slice a3 (norm d).length c3).ownBlock=some b->BO<=b):=(fun b h=>by have:=n3 b h;have:=HSZ.out;omega);have HO:=hD (hown.below b3);have B3:=hD (HB.out.trans (b3.mono hle));have R3:=hD r3;obtain ⟨u3,z2,z3⟩:=HO.out.cellAt k (Nat.lt_of_lt_of_eq hlt hnl.symm);have HN4:=hD (HN3.out.set z2 HU3.out);have z4:=World.cell?_setCell_same W3 ⟨BO,k,none⟩ (.slice a3 (norm d).length c3) z2;clear b3 r3 n3)
    refine ⟨⟨k+1,by omega,by go_num,HN2,?_,hD (B3.out.setCell (p:=⟨BO,k,none⟩) (Nat.le_of_eq HSZ.out) _),HN4⟩,by simp [intOf];omega⟩
    rw [hst.out]
    have:=HO.out
    rw [<- hnl] at this |-
    exact DsOwn.set this k (by omega) R3.out
  ·obtain rfl:k=ds.length:=by omega
   rw [HTA.out] at hown
   clear CN HST HNL HTA hlt hk EN
   obtain ⟨W2,hW2⟩:∃ W2:World,W2=wr:=⟨_,rfl⟩
   subst hW2
   have OW:Hid (OnWay ps ds (ds.map norm)):=onWay_start (allE_of fun j hj=>HN.out j hj hj)
   have DW:Hid (DsFrom BO W2 (.slice (some ⟨BO,0,none⟩) ds.length ds.length) (ds.map norm)):=DsOwn.from hown (rN _) (by rw [List.length_map];exact HNE.out) (by rw [List.length_map])
   have PW:Hid (PsAt W2 (.slice ap ps.length cp) ps):=HP.out.below HB.out
   obtain ⟨H,hH⟩:∃ H,H=W2.heap.size:=⟨_,rfl⟩
   have HHS:=hD hH.symm
   clear hown HN hH
   go_wp2
   rw [HHS.out]
   try rw [show H+1+1=H+2 from rfl]
   go_loopw [53] (fun s wr=>∃ (i:Nat) (pl:Value) (L:List Int) (vals:Nat->Value) (us:Nat->List Int),i<=ps.length/\s=.int .i64 i/\Hid (QU W2 H ds.length (.slice ap ps.length cp) ps wr pl L 0 vals us)/\Hid (UsP ps i 0 [] us)/\Hid (∀ k,k<i->(k:Int)∈L)) (fun s _=>ps.length - (intOf s).toNat)
   case atStart=>exact ⟨0,_,_,_,_,by omega,rfl,hD (QU.start HHS.out hn100 _ ps _ _),UsP.start ps [],fun k h=>by omega⟩
   case round =>
    clear hmk hmk2 hmm
    obtain ⟨i,pl,L,vals,us,hil,rfl,HQ,HU,HL⟩:=hrel
    have hBw:=HQ.out.B
    by_cases hlt:i<ps.length
    ·obtain ⟨b1,o1,va,vb,vv,rfl,q1,cc,i0,i1,i2⟩:=PW.out.get i hlt
     have j1:(i:Int)<ps.length:=by omega
     have hbw:=HQ.out.b0
     obtain ⟨x0,x1,x2,x3,x4,x5,x6,x7,x8⟩:=cc.below q1 hbw
     have hok:=HIN.out.ok _ (List.getElem_mem hlt)
     have CW:Hid (∀ W,QU W2 H ds.length (.slice (some ⟨b1,o1,none⟩) ps.length cp) ps W pl L 0 vals us->Calls Tryz.prog 62 #[.pointer (some ⟨H+1,0,none⟩),.int .i64 i] W fun e W'=>(∃ u,e=.returned u)/\∃ pl' L',QU W2 H ds.length (.slice (some ⟨b1,o1,none⟩) ps.length cp) ps W' pl' L' 0 vals us/\(∀ k,k∈L'↔k∈L\/k=(i:Int))/\QSm (H+1) H W pl W' pl'):=fun W hq=>qu_wait hq PW.out HIN.out.ok hp300 (by omega) ⟨by omega,by omega⟩
     obtain ⟨vs,hvs⟩:∃ vs,vs=uniqL ps[i].all:=⟨_,rfl⟩
     have CV0:∀ W,Below W2.heap.size W2 W->Calls Tryz.prog 63 #[propV ps[i].kind va vb ps[i].rel ps[i].c ps[i].x ps[i].y ps[i].z vv] W fun e w'=>∃ ao cap,e=.returned (.slice ao vs.length cap)/\IsAt w' (.slice ao vs.length cap) vs/\Below W.heap.size W w'/\∀ b,(Value.slice ao vs.length cap).ownBlock=some b->W.heap.size<=b:=fun W h=>by
      rw [hvs]
      exact vars_n ps[i].kind va vb vv ps[i].rel ps[i].c ps[i].x ps[i].y ps[i].z ps[i].coef ps[i].vars ps[i].vs W (i0.below h) (i1.below h) (i2.below h) hok.2.1 hok.2.2
     have HVR:Hid (∀ v∈vs,0<=v/\v.toNat<ds.length):=fun v hv=>(HIN.out.fine _ (List.getElem_mem hlt)).vars v (mem_uniqL.1 (by rw [<- hvs];exact hv))
     have hvl:vs.length<=4096:=by rw [hvs];exact all_len hok
     have HUN:Hid (∀ us',UsP ps i vs.length vs us'->UsP ps (i+1) 0 [] us'):=fun us' h=>by subst hvs;exact UsP.next hlt h (by have:=all_len hok;omega) []
     have HU1:Hid (UsP ps i 0 vs us):=HU.out.start' vs
     obtain ⟨b3,n3,rfl,_⟩:=SlAt.shape i0
     obtain ⟨b4,n4,rfl,_⟩:=SlAt.shape i1
     obtain ⟨b5,n5,rfl,_⟩:=SlAt.shape i2
     unfold propV at CV0
     have CV:=hD CV0
     clear hvs CV0 hok i0 i1 i2 cc HU
     generalize ps[i]=p at *
     have HW:Hid (∀ o,Below wr.heap.size wr (wr.alloc o)):=fun o=>(Below.refl _ _).alloc (rN _) o
     have HB0:Hid (BoxL (wr.alloc (.cells #[.int .i64 p.kind,.slice b3 p.coef.length n3,.slice b4 p.vars.length n4,.int .i64 p.rel,.int .i64 p.c,.int .i64 p.x,.int .i64 p.y,.int .i64 p.z,.slice b5 p.vs.length n5] 67)) wr.heap.size [.int .i64 p.kind,.slice b3 p.coef.length n3,.slice b4 p.vars.length n4,.int .i64 p.rel,.int .i64 p.c,.int .i64 p.x,.int .i64 p.y,.int .i64 p.z,.slice b5 p.vs.length n5]):=BoxL.mk' _ #[.int .i64 p.kind,.slice b3 p.coef.length n3,.slice b4 p.vars.length n4,.int .i64 p.rel,.int .i64 p.c,.int .i64 p.x,.int .i64 p.y,.int .i64 p.z,.slice b5 p.vs.length n5] _
     have HBK:Hid (∀ o W' pl',QSm (H+1) H (wr.alloc o) pl W' pl'->W'.heap[wr.heap.size]?=(wr.alloc o).heap[wr.heap.size]?):=fun o W' pl' hs=>hs.blk _ (by simp) (by omega) (by omega) (fun e=>by have:=(own_lt HQ.out.q.q.own e).1;omega)
     go_wp2_with (first
      | (go_at_call 62;(with_reducible refine (CW.out _ (HQ.out.below (HW.out _))).mono ?_);rintro e W4 ⟨⟨z4,rfl⟩,pl1,L1,q4,m4,s4⟩;have Q4:=hD q4;have M4:=hD m4;have L4:=hD (HB0.out.block (HBK.out _ _ _ s4));obtain ⟨l0,_⟩:=L4.out.get 0 rfl;obtain ⟨l1,_⟩:=L4.out.get 1 rfl;obtain ⟨l2,_⟩:=L4.out.get 2 rfl;obtain ⟨l3,_⟩:=L4.out.get 3 rfl;obtain ⟨l4,_⟩:=L4.out.get 4 rfl;obtain ⟨l5,_⟩:=L4.out.get 5 rfl;obtain ⟨l6,_⟩:=L4.out.get 6 rfl;obtain ⟨l7,_⟩:=L4.out.get 7 rfl;obtain ⟨l8,_⟩:=L4.out.get 8 rfl;clear q4 m4 s4)
      | (go_at_call 63;(with_reducible refine (CV.out _ Q4.out.b0).mono ?_);rintro e W5 ⟨a5,c5,rfl,i5,b5',n5'⟩;have Q5:=hD (Q4.out.below b5');have V5:=hD (VsAt.mk' Q4.out i5 n5');clear i5 b5' n5'))
     clear l0 l1 l2 l3 l4 l5 l6 l7 l8 x0 x1 x2 x3 x4 x5 x6 x7 x8 CW CV HW HB0 HBK HQ L4 Q4
     obtain ⟨W3,hW3⟩:∃ W3:World,W3=wr:=⟨_,rfl⟩
     subst hW3
     go_loopw [64] (fun s wr=>∃ (t:Nat) (vals1:Nat->Value) (us1:Nat->List Int),t<=vs.length/\s=.int .i64 t/\Hid (QU W2 H ds.length (.slice (some ⟨b1,o1,none⟩) ps.length cp) ps wr pl1 L1 0 vals1 us1)/\Hid (UsP ps i t vs us1)/\Hid (VsAt wr H ds.length (.slice a5 vs.length c5) vs vals1)) (fun s _=>vs.length - (intOf s).toNat)
     case atStart=>exact ⟨0,vals,us,by omega,rfl,Q5,HU1,V5⟩
     case round =>
      obtain ⟨t,vals1,us1,htl,rfl,HQ6,HU6,HV6⟩:=hrel
      by_cases hlt2:t<vs.length
      ·obtain ⟨b6,o6,rfl,q5,q6,x6⟩:=HV6.out.at'.getR t hlt2
       have hvt:=HVR.out _ (List.getElem_mem hlt2)
       obtain ⟨nv,hnv⟩:=Int.eq_ofNat_of_zero_le hvt.1
       have hnl:nv<ds.length:=by have:=hvt.2;omega
       have HVT:Hid (vs[t]?=some (nv:Int)):=by show _=_;rw [List.getElem?_eq_getElem hlt2,hnv]
       rw [hnv] at x6
       have hcell:=HQ6.out.u.cell nv hnl
       have hfz:=HQ6.out.u.fz nv hnl
       have OWN:=hD (HQ6.out.u.own nv hnl)
       have j3:(t:Int)<vs.length:=by omega
       have j4:(nv:Int)<ds.length:=by omega
       have hul:=HU6.out.len nv
       have hB6:=HQ6.out.B
       have HXB:Hid (∀ b,(Value.slice (some ⟨b6,o6,none⟩) vs.length c5).ownBlock=some b->b<wr.heap.size):=fun b hb=>by simp [Value.ownBlock] at hb;omega
       clear hvt hnv
       go_wp2_with (at_builtin;refine wpList_append1I rfl (.tmp 73) (.tmp 75) 26 rfl (H+3) 3 t0 (.int .i64 0) 8 Tryz.underlying26 ht hz0 hz1 hz2 rfl _ _ _ rfl OWN.out _ rfl rfl (by omega) hB6 ?_;intro g1 cap1 w1 ow1 bw1 kw1 aw1;have mm:=(bw1.cell (p:=⟨H+2,nv,none⟩) (Nat.lt_succ_self _)).trans hcell;have mf:=(bw1.frozen (p:=⟨H+2,nv,none⟩) (Nat.lt_succ_self _)).trans hfz)
       refine ⟨⟨t+1,_,_,by omega,by go_num,hD (QU.push HQ6.out hnl rfl ?_ bw1 kw1 aw1),hD (HU6.out.push hlt HVT.out),hD (HV6.out.push hnl HXB.out bw1.size kw1 aw1)⟩,by simp [intOf];omega⟩
       rw [List.map_append];exact ow1
      ·obtain rfl:t=vs.length:=by omega
       go_wp2
       exact ⟨⟨i+1,pl1,L1,vals1,us1,by omega,by go_num,HQ6,HUN.out _ HU6.out,fun k hk=>(M4.out k).2 (by
        by_cases e:k=i
        ·exact .inr (by rw [e])
        ·exact .inl (HL.out k (by omega)))⟩,by simp [intOf];omega⟩
    ·obtain rfl:i=ps.length:=by omega
     have HUO:Hid (UsOk ps ps.length us):=HU.out.done
     have HR0:Hid (Rest ps (ds.map norm) L):=rest_start (fun k hk=>HL.out k hk)
     have HM0:Hid (tot (ds.map norm) * (ps.length+1)+L.length<=tot (ds.map norm) * (ps.length+1)+L.length/\0+(tot (ds.map norm) * (ps.length+1)+L.length)<=20000000):=by
      have h1:=tot_le (ds.map norm)
      rw [List.length_map] at h1
      have h2:=HQ.out.len
      have h3:tot (ds.map norm) * (ps.length+1)<=40100 * 301:=Nat.mul_le_mul (by omega) (by omega)
      exact ⟨rN _,by omega⟩
     have HUL:Hid (∀ v,(us v).length<=3000000):=fun v=>by have:=HU.out.len v;omega
     have HK0:Hid (KeptM (H+1) H wr pl (fun W'=>DsFrom BO W' (.slice (some ⟨BO,0,none⟩) ds.length ds.length) (ds.map norm))):=HQ.out.kept fun W' hb=>DW.out.below hb
     clear HU HL hlt hil
     go_wp2
     go_loopg [6] (tot (ds.map norm) * (ps.length+1)+L.length) (fun k s wr=>∃ (g:Nat) (now:Ds) (pl:Value) (L:List Int) (c:Nat),s=.slice (some ⟨g,0,none⟩) ds.length ds.length/\Hid (OnWay ps ds now)/\Hid (Rest ps now L)/\Hid (QU W2 H ds.length (.slice ap ps.length cp) ps wr pl L c vals us)/\Hid (KeptM (H+1) H wr pl (fun W'=>DsFrom BO W' (.slice (some ⟨g,0,none⟩) ds.length ds.length) now))/\Hid (tot now * (ps.length+1)+L.length<=k/\c+k<=20000000))
     case atStart=>exact ⟨BO,ds.map norm,pl,L,0,rfl,OW,HR0,HQ,HK0,HM0⟩
     case round =>
      clear HQ HK0 HM0 HR0 OW DW HD hBw
      obtain ⟨g,now,pl4,L4,c4,rfl,HOW,HRE,HQ4,HK4,HM4⟩:=hrel
      obtain ⟨ap4,cp4,hpl,_⟩:=(SlAt.of_own HQ4.out.q.q.own).shape
      subst hpl
      have hc0:=HQ4.out.q.q.c0
      have hdl:=HOW.out.len
      have HBw:Hid (Below w.heap.size w wr):=HB.out.trans (HQ4.out.b0.mono hle)
      by_cases hne:L4=[]
      ·have HFX:Hid (FixOf ps ds (some now)):=rest_end HOW.out (by have:=HRE.out;rwa [hne] at this)
       have HDN:=hD HK4.out.here
       have h0:L4.length=0:=by rw [hne];rfl
       rw [h0] at hc0
       have CL2:Hid (Calls Tryz.prog 64 #[.slice ap4 0 cp4] wr fun e w'=>e=.returned (.int .i64 0)/\wr=w'):=qlen_c ap4 0 cp4 wr
       clear h0 hne HK4 HRE HQ4 HOW HM4
       go_wp2_with (go_at_call 64;(with_reducible refine CL2.out.mono ?_);rintro e w' ⟨rfl,rfl⟩)
       go_ret2
       exact ⟨some now,HFX.out,HBw.out,.inl ⟨now,some ⟨g,0,none⟩,ds.length,rfl,by rw [hdl];rfl,by rw [hdl,HSZ.out];exact HDN.out⟩⟩
      ·have hpos:0<L4.length:=List.length_pos_iff.2 hne
       have j0:(0:Int)<L4.length:=by omega
       have CL:=hD (qlen_c ap4 L4.length cp4 wr)
       have CN:=hD (qu_next HQ4.out PW.out HIN.out.ok hp300 hne)
       go_upto_region 23 with (first
        | (go_at_call 64;(with_reducible refine CL.out.mono ?_);rintro e w' ⟨rfl,rfl⟩)
        | (go_at_call 65;(with_reducible refine CN.out.mono ?_);rintro e W5 ⟨x,rfl,hx,pl5,L5,hperm,q5,s5⟩;have Q5:=hD q5;have S5:=hD s5;have PM:=hD hperm;clear q5 s5 hperm))
       have K5:=hD (HK4.out.on S5.out)
       have B5:Hid (Below w.heap.size w W5):=HB.out.trans (Q5.out.b0.mono hle)
       obtain ⟨b1,o1,va,vb,vv,rfl,q1,cc,i0,i1,i2⟩:=PW.out.get x hx
       have j1:(x:Int)<ps.length:=by omega
       have hbw5:=Q5.out.b0
       have HCC:Hid (∀ W,Below W2.heap.size W2 W->CellsP W b1 (o1+x * 9) ps[x] va vb vv):=fun W h=>cc.below q1 h
       obtain ⟨x0,x1,x2,x3,x4,x5,x6,x7,x8⟩:=HCC.out W5 hbw5
       have hok:=HIN.out.ok _ (List.getElem_mem hx)
       have hfine:=(HIN.out.fine _ (List.getElem_mem hx)).now hdl HOW.out.nor
       have hgd:∀ p∈ps,p.Good ds.length:=fun p hp=>(HIN.out.fine p hp).good
       have CO0:=once_allW ps[x] va vb vv (.slice (some ⟨g,0,none⟩) ds.length ds.length) now W5 (i0.below hbw5) (i1.below hbw5) (i2.below hbw5) K5.out.here.here hfine (by omega) (allN_short' HOW.out.nor)
       obtain ⟨vs,hvs⟩:∃ vs,vs=uniqL ps[x].all:=⟨_,rfl⟩
       have CV0:∀ W,Below W2.heap.size W2 W->Calls Tryz.prog 63 #[propV ps[x].kind va vb ps[x].rel ps[x].c ps[x].x ps[x].y ps[x].z vv] W fun e w'=>∃ ao cap,e=.returned (.slice ao vs.length cap)/\IsAt w' (.slice ao vs.length cap) vs/\Below W.heap.size W w'/\∀ b,(Value.slice ao vs.length cap).ownBlock=some b->W.heap.size<=b:=fun W h=>by
        rw [hvs]
        exact vars_n ps[x].kind va vb vv ps[x].rel ps[x].c ps[x].x ps[x].y ps[x].z ps[x].coef ps[x].vars ps[x].vs W (i0.below h) (i1.below h) (i2.below h) hok.2.1 hok.2.2
       have HVR:Hid (∀ v∈vs,0<=v/\v.toNat<ds.length):=fun v hv=>(HIN.out.fine _ (List.getElem_mem hx)).vars v (mem_uniqL.1 (by rw [<- hvs];exact hv))
       have hvl:vs.length<=4096:=by rw [hvs];exact all_len hok
       obtain ⟨b3,n3,rfl,_⟩:=SlAt.shape i0
       obtain ⟨b4,n4,rfl,_⟩:=SlAt.shape i1
       obtain ⟨b5,n5,rfl,_⟩:=SlAt.shape i2
       clear CL CN hc0 S5 HK4 i0 i1 i2 cc hok hfine hbw5 j0
       cases ho:onceP ps[x] now with
       | none =>
        rw [ho] at CO0
        have HFX:Hid (FixOf ps ds none):=onWay_gone (List.getElem_mem hx) (hgd _ (List.getElem_mem hx)) HOW.out ho
        have CO1:Calls Tryz.prog 66 #[propV ps[x].kind (.slice b3 ps[x].coef.length n3) (.slice b4 ps[x].vars.length n4) ps[x].rel ps[x].c ps[x].x ps[x].y ps[x].z (.slice b5 ps[x].vs.length n5),.slice (some ⟨g,0,none⟩) ds.length ds.length] W5 fun e W'=>e=.returned (.tuple #[.slice none 0 0,.bool false])/\Below W5.heap.size W5 W':=CO0.mono fun e W' ⟨hb,hh⟩=>by
         rcases hh with ⟨_,_,_,_,h1,_⟩ | ⟨_,h1⟩
         ·cases h1
         ·exact ⟨h1,hb⟩
        unfold propV at CO1
        have CO:=hD CO1
        clear CO0 CO1 CV0 hgd hvs HVR ho
        generalize ps[x]=p at *
        go_wp2_with (go_at_call 66;(with_reducible refine CO.out.mono ?_);rintro e W6 ⟨rfl,b6⟩;have B6:=hD (bT B5.out b6);clear b6)
        go_ret2
        exact ⟨none,HFX.out,B6.out,.inr ⟨rfl,rfl⟩⟩
       | some d =>
        rw [ho] at CO0
        have HW5:Hid (OnWay ps ds d):=onWay_step (List.getElem_mem hx) (hgd _ (List.getElem_mem hx)) HOW.out ho
        have hdl2:d.length=ds.length:=HW5.out.len
        have HWK:Hid (Woken ps now d vs L5 L5 0):=Woken.start Q5.out.lp Q5.out.q.nd
        have HEND:Hid (∀ L7,Woken ps now d vs L5 L7 vs.length->Rest ps d L7/\tot d * (ps.length+1)+L7.length<tot now * (ps.length+1)+L4.length):=fun L7 h=>by
         subst hvs
         exact woken_end (by rw [hdl];exact hgd) HOW.out.nor hx ho PM.out HRE.out h
        have CO1:Calls Tryz.prog 66 #[propV ps[x].kind (.slice b3 ps[x].coef.length n3) (.slice b4 ps[x].vars.length n4) ps[x].rel ps[x].c ps[x].x ps[x].y ps[x].z (.slice b5 ps[x].vs.length n5),.slice (some ⟨g,0,none⟩) ds.length ds.length] W5 fun e W'=>∃ g6,e=.returned (.tuple #[.slice (some ⟨g6,0,none⟩) ds.length ds.length,.bool true])/\KeptM (H+1) H W' pl5 (fun W''=>DsFrom BO W'' (.slice (some ⟨g6,0,none⟩) ds.length ds.length) d)/\Below W5.heap.size W5 W':=CO0.mono fun e W' ⟨hb,hh⟩=>by
         rcases hh with ⟨d',B,bo,g6,h1,h2,h3,h4⟩ | ⟨h1,_⟩
         ·have h1:=Option.some.inj h1
          subst h1
          have hk:=kept_from (B:=BO) h4.from (by have:=B5.out.size;have:=HSZ.out;omega) (Q5.out.q.old.mono h3)
          rw [hdl2] at h2 hk
          exact ⟨g6,h2,hk,hb⟩
         ·cases h1
        unfold propV at CO1 CV0
        have CO:=hD CO1
        have CV:=hD CV0
        have hcb:c4+1<=20000000:=by have:=HM4.out;omega
        clear CO0 CO1 CV0 hgd hvs ho HRE PM HQ4
        generalize ps[x]=p at *
        go_wp2_with (first
         | (go_at_call 66;(with_reducible refine CO.out.mono ?_);rintro e W6 ⟨g6,rfl,k6,b6⟩;have K6:=hD k6;have Q6:=hD (Q5.out.below b6);have KN6:=hD (K5.out.on (qsm_below b6));obtain ⟨y0,y1,y2,y3,y4,y5,y6,y7,y8⟩:=HCC.out W6 Q6.out.b0;clear k6 b6)
         | (go_at_call 63;(with_reducible refine (CV.out _ Q6.out.b0).mono ?_);rintro e W7 ⟨a7,c7,rfl,i7,b7,n7⟩;have Q7:=hD (Q6.out.below b7);have K7:Hid (KeptM (H+1) H W7 pl5 (fun W'=>DsFrom BO W' (.slice (some ⟨g,0,none⟩) ds.length ds.length) now/\DsFrom BO W' (.slice (some ⟨g6,0,none⟩) ds.length ds.length) d/\IsAt W' (.slice a7 vs.length c7) vs)):=(fun W' pl' hs=>⟨KN6.out.on (qsm_below b7) W' pl' hs,K6.out.on (qsm_below b7) W' pl' hs,(kept_ints i7 n7 Q6.out.q.old).on (QSm.refl _ _ _ _) W' pl' hs⟩);clear i7 b7 n7))
        clear x0 x1 x2 x3 x4 x5 x6 x7 x8 y0 y1 y2 y3 y4 y5 y6 y7 y8 CO CV HCC K5 K6 KN6 Q5 Q6
        go_loopw [105] (fun s wr=>∃ (t:Nat) (pl7:Value) (L7:List Int),t<=vs.length/\s=.int .i64 t/\Hid (QU W2 H ds.length (.slice (some ⟨b1,o1,none⟩) ps.length cp) ps wr pl7 L7 (c4+1) vals us)/\Hid (Woken ps now d vs L5 L7 t)/\Hid (KeptM (H+1) H wr pl7 (fun W'=>DsFrom BO W' (.slice (some ⟨g,0,none⟩) ds.length ds.length) now/\DsFrom BO W' (.slice (some ⟨g6,0,none⟩) ds.length ds.length) d/\IsAt W' (.slice a7 vs.length c7) vs))) (fun s _=>vs.length - (intOf s).toNat)
        case atStart=>exact ⟨0,pl5,L5,by omega,rfl,Q7,HWK,K7⟩
        case round =>
         clear Q7 HWK K7
         obtain ⟨t,pl7,L7,htl,rfl,HQ7,HWo,HK7⟩:=hrel
         by_cases hlt2:t<vs.length
         ·obtain ⟨dn',dd',iv⟩:=HK7.out.here
          have dn:=dn'.here
          have dd:=dd'.here
          obtain ⟨b6,o6,rfl,q5,q6,x6⟩:=iv.getR t hlt2
          have hvt:=HVR.out _ (List.getElem_mem hlt2)
          obtain ⟨nv,hnv⟩:=Int.eq_ofNat_of_zero_le hvt.1
          have hnl:nv<ds.length:=by have:=hvt.2;omega
          have HVT:Hid (vs[t]?=some (nv:Int)):=by show _=_;rw [List.getElem?_eq_getElem hlt2,hnv]
          rw [hnv] at x6
          have hn1:nv<now.length:=by omega
          have hd1:nv<d.length:=by omega
          obtain ⟨bn,on,an,cn,hen,_,qn,hq1,cellN,rgN⟩:=dn.get nv hn1
          obtain ⟨bd,od,ad',cd',hed,_,qd,hq2,cellD,rgD⟩:=dd.get nv hd1
          clear hq1 hq2
          simp only [Option.some.injEq,Addr.mk.injEq,and_true] at hen hed
          obtain ⟨rfl,rfl⟩:=hen
          obtain ⟨rfl,rfl⟩:=hed
          rw [Nat.zero_add] at cellN cellD
          have hdlx:=allN_short' HW5.out.nor _ (List.getElem_mem hd1)
          have CE0:∀ q:QG wr,Calls Tryz.prog 67 #[.slice ad' d[nv].length cd',.slice an now[nv].length cn] q.1 fun e w'=>e=.returned (.bool (decide (d[nv]=now[nv])))/\Below q.1.heap.size q.1 w':=fun q=>eqRg_c _ _ _ _ q.1 (rgD.below q.2) (rgN.below q.2) hdlx
          have HSK:Hid (d[nv]=now[nv]->Woken ps now d vs L5 L7 (t+1)):=fun h=>HWo.out.skip HVT.out (by rw [domOf_nat hd1,domOf_nat hn1,h])
          have HMO:Hid (d[nv]≠now[nv]->∀ L3,InPs L3 ps->L3.Nodup->(∀ k∈L7,k∈L3)->(∀ k∈us nv,k∈L3)->Woken ps now d vs L5 L3 (t+1)):=fun h L3 h1 h2 h3 h4=>HWo.out.more HVT.out (fun e=>h (by rw [domOf_nat hd1,domOf_nat hn1] at e;exact e)) HUO.out h1 h2 h3 (by rw [Int.toNat_natCast];exact h4)
          have hcell:=HQ7.out.u.cell nv hnl
          obtain ⟨av,cv,hval,_⟩:=(SlAt.of_own (HQ7.out.u.own nv hnl)).shape
          rw [hval] at hcell
          have HVL:=hD hval
          have j3:(t:Int)<vs.length:=by omega
          have j4:(nv:Int)<ds.length:=by omega
          have y0:=qb_cell cellN
          have y1:=qb_cell cellD
          have hBq:=HQ7.out.B
          clear hvt hnv cellN cellD rgN rgD hdlx dn dd dn' dd' iv hval qn qd
          generalize d[nv]=dx at *
          generalize now[nv]=nx at *
          clear hn1 hd1
          have HBQ:=hD hBq
          have HVL2:=hD hvl
          have HCB:=hD hcb
          clear hBq hvl hcb hpos hne hdl hdl2
          by_cases hxe:dx=nx
          ·have hdec:decide (dx=nx)=true:=decide_eq_true hxe
           rw [hdec] at CE0
           have CE:=hD CE0
           have HS2:=hD (HSK.out hxe)
           clear CE0 HSK HMO hxe hdec
           go_upto_region 29 with fail
           refine wp_region_below (by kernel_rfl) (by kernel_rfl) ?_
           repeat (go_big_quiet_step ((go_at_call 67;with_reducible exact qb_call _ (CE.out _))))
           refine wpQuiet_nil ?_
           intro w1' hw1'
           clear y0 y1
           have hvl:=HVL2.out
           go_wp2
           exact ⟨⟨t+1,pl7,L7,by omega,by go_num,hD (HQ7.out.below hw1'.below),HS2,hD (HK7.out.on (qsm_below hw1'.below))⟩,by simp [intOf];omega⟩
          ·have hdec:decide (dx=nx)=false:=decide_eq_false hxe
           rw [hdec] at CE0
           have CE:=hD CE0
           have HS2:=hD (HMO.out hxe)
           clear CE0 HSK HMO hxe hdec
           go_upto_region 29 with fail
           refine wp_region_below (by kernel_rfl) (by kernel_rfl) ?_
           repeat (go_big_quiet_step ((go_at_call 67;with_reducible exact qb_call _ (CE.out _))))
           refine wpQuiet_nil ?_
           intro w1' hw1'
           clear y0 y1
           have hvl:=HVL2.out
           have hBq:=HBQ.out
           have HQ8:=hD (HQ7.out.below hw1'.below)
           have HK8:=hD (HK7.out.on (qsm_below hw1'.below))
           have hcell8:=(hw1'.below.cell (p:=⟨H+2,nv,none⟩) (by dsimp only;omega)).trans hcell
           clear hcell hBq
           go_wp2
           go_loopw [123] (fun s wr=>∃ (r:Nat) (pl8:Value) (L8:List Int),r<=(us nv).length/\s=.int .i64 r/\Hid (QU W2 H ds.length (.slice (some ⟨b1,o1,none⟩) ps.length cp) ps wr pl8 L8 (c4+1) vals us)/\Hid (KeptM (H+1) H wr pl8 (fun W'=>DsFrom BO W' (.slice (some ⟨g,0,none⟩) ds.length ds.length) now/\DsFrom BO W' (.slice (some ⟨g6,0,none⟩) ds.length ds.length) d/\IsAt W' (.slice (some ⟨b6,o6,none⟩) vs.length c7) vs))/\Hid ((∀ k∈L7,k∈L8)/\∀ k∈(us nv).take r,k∈L8)) (fun s _=>(us nv).length - (intOf s).toNat)
           case atStart=>exact ⟨0,pl7,L7,by omega,rfl,HQ8,HK8,⟨fun _ h=>h,fun k h=>by simp at h⟩⟩
           case round =>
            clear HQ8 HK8 hcell8
            have hul:=HUL.out nv
            obtain ⟨r,pl8,L8,hrl,rfl,HQ9,HK9,HS9⟩:=hrel
            by_cases hlt3:r<(us nv).length
            ·have hrow:IsAt wr (.slice av (us nv).length cv) (us nv):=by rw [<- HVL.out];exact SlAt.of_own (HQ9.out.u.own nv hnl)
             obtain ⟨b9,o9,rfl,q8,q9,x9⟩:=hrow.getR r hlt3
             have hki:=HUO.out.ins nv _ (List.getElem_mem hlt3)
             have CW:=hD (qu_wait HQ9.out PW.out HIN.out.ok hp300 HCB.out hki)
             have HTK:Hid (∀ L9:List Int,(∀ k,k∈L9↔k∈L8\/k=(us nv)[r])->(∀ k∈L7,k∈L9)/\∀ k∈(us nv).take (r+1),k∈L9):=fun L9 h=>⟨fun k hk=>(h k).2 (.inl (HS9.out.1 k hk)),fun k hk=>by
              rw [List.take_succ_eq_append_getElem hlt3] at hk
              rcases List.mem_append.1 hk with h1 | h1
              ·exact (h k).2 (.inl (HS9.out.2 k h1))
              ·exact (h k).2 (.inr (List.mem_singleton.1 h1))⟩
             have j5:(r:Int)<(us nv).length:=by omega
             clear hki hrow
             generalize (us nv)[r]=kk at *
             go_wp2_with (go_at_call 62;(with_reducible refine CW.out.mono ?_);rintro e W9 ⟨⟨z9,rfl⟩,pl9,L9,q9',m9,s9⟩)
             exact ⟨⟨r+1,pl9,L9,by omega,by go_num,q9',HK9.out.on s9,HTK.out L9 m9⟩,by simp [intOf];omega⟩
            ·obtain rfl:r=(us nv).length:=by omega
             have HS10:=hD (HS2.out L8 HQ9.out.lp HQ9.out.q.nd HS9.out.1 (by have:=HS9.out.2;rwa [List.take_length] at this))
             go_wp2
             exact ⟨⟨t+1,pl8,L8,by omega,by go_num,HQ9,HS10,HK9⟩,by simp [intOf];omega⟩
         ·obtain rfl:t=vs.length:=by omega
          obtain ⟨HE1,hE2⟩:=HEND.out L7 HWo.out
          have HE3:=hD HE1
          have HE4:=hD hE2
          clear HE1 hE2 HEND
          go_wp2
          go_roundg (tot d * (ps.length+1)+L7.length)
          case measure=>have:=HE4.out;have:=HM4.out;omega
          case rel=>exact ⟨g6,d,pl7,L7,c4+1,rfl,HW5,HE3,HQ7,(fun W' pl' hs=>(HK7.out W' pl' hs).2.1),⟨rN _,by have:=HE4.out;have:=HM4.out;omega⟩⟩
theorem fixOf_exists {ps:List PL} {D:Ds} (hg:∀ p∈ps,p.Good D.length):∃ R,FixOf ps D R:=by
 have go:∀ (n:Nat) (now:Ds),tot now<=n->OnWay ps D now->∃ R,FixOf ps D R:=by
  intro n
  induction n with
  | zero =>
   intro now hn h
   by_cases hs:∀ p∈ps,onceP p now=some now
   ·exact ⟨_,onWay_end h hs⟩
   ·simp only [Classical.not_forall] at hs
    obtain ⟨p,hp,hne⟩:=hs
    cases ho:onceP p now with
    | none=>exact ⟨_,onWay_gone hp (hg p hp) h ho⟩
    | some d =>
     have:=(once_tot h.nor ho).2 (fun e=>hne (by rw [ho,e]))
     omega
  | succ n ih =>
   intro now hn h
   by_cases hs:∀ p∈ps,onceP p now=some now
   ·exact ⟨_,onWay_end h hs⟩
   ·simp only [Classical.not_forall] at hs
    obtain ⟨p,hp,hne⟩:=hs
    cases ho:onceP p now with
    | none=>exact ⟨_,onWay_gone hp (hg p hp) h ho⟩
    | some d =>
     have:=(once_tot h.nor ho).2 (fun e=>hne (by rw [ho,e]))
     exact ih d (by omega) (onWay_step hp (hg p hp) h ho)
 by_cases he:∀ j,(hj:j<D.length)->norm D[j]≠[]
 ·exact go _ _ (rN _) (onWay_start (allE_of he))
 ·simp only [Classical.not_forall] at he
  obtain ⟨j,hj,hn⟩:=he
  exact ⟨none,onWay_none hj (by rw [List.getD_eq_getElem?_getD,List.getElem?_eq_getElem hj];exact Classical.not_not.1 hn)⟩
theorem fix_f {ds:Ds} {ps:List PL} {vds vps:Value} {w:World} (hd:DsAt w vds ds) (hp:PsAt w vps ps) (hin:FixIn ds ps) {R:Option Ds} (hR:FixOf ps ds R):Calls Tryz.prog 43 #[vds,vps] w (RetF R w) :=
 (fix_c ds ps vds vps w hd hp hin).mono fun _ _ ⟨_,h1,h2⟩=>by rw [fixOf_unique hR h1];exact h2
theorem FixIn.res {ds r:Ds} {ps:List PL} (h:FixIn ds ps) (hr:FixOf ps ds (some r)):FixIn r ps :=
 ⟨fun p hp=>(h.fine p hp).now hr.1.len hr.1.nor,h.ok,by rw [hr.1.len];exact h.n,allN_short' hr.1.nor,h.P⟩
def p0:PL:=⟨0,0,0,0,0,0,[],[],[]⟩
end
end Go.Proofs.YtaekdgikgbdnnaaGreat
