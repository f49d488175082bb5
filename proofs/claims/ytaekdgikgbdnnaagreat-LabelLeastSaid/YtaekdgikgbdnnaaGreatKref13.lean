/-
  THE STATE of the document's search in memory: its struct, the answers that have come.
  The reference's with, walked.
  The reference's Split, walked: both parts lie in new memory.
  The document's search, walked node by node.
-/
import Derived.Test.YtaekdgikgbdnnaaGreatKref10
import Derived.Test.YtaekdgikgbdnnaaGreatKsol2
import Derived.Test.YtaekdgikgbdnnaaGreatKref12
import Derived.Test.YtaekdgikgbdnnaaGreatKref9
import Derived.Test.YtaekdgikgbdnnaaGreatKsol1
import Derived.Deep.RegionHeld3
namespace Go.Proofs.YtaekdgikgbdnnaaGreat
section
open Go.RowKit
def LsN (B:Nat) (W:World) (v:Value) (X:List (List Int)):Prop :=
 ∃ us:List Value,us.length=X.length/\W.ownsRow B 26 1 v X.length us/\∀ j,(hj:j<X.length)->∃ u,us[j]?=some u/\IsAt W u X[j]/\∀ b,u.ownBlock=some b->B<=b/\b<W.heap.size/\v.ownBlock≠some b
theorem LsN.on {B:Nat} {W W':World} {v:Value} {X:List (List Int)} (h:LsN B W v X) (hs:W.heap.size<=W'.heap.size) (hb:∀ b,B<=b->b<W.heap.size->W'.heap[b]?=W.heap[b]?):LsN B W' v X:=by
 obtain ⟨us,h1,h2,h3⟩:=h
 exact ⟨us,h1,own_block h2 (fun b e=>hb b (own_lt h2 e).2 (own_lt h2 e).1),fun j hj=>by
  obtain ⟨u,a,b,c⟩:=h3 j hj
  exact ⟨u,a,SlAt.ownN b hs (fun x hx e=>hb x (c x e).1 hx),fun x e=>⟨(c x e).1,Nat.lt_of_lt_of_le (c x e).2.1 hs,(c x e).2.2⟩⟩⟩
theorem LsN.from {B:Nat} {W:World} {v:Value} {X:List (List Int)} (h:LsN B W v X):LsFrom B W v X:=by
 obtain ⟨us,h1,h2,h3⟩:=h
 exact ⟨us,h1,SlAt.of_own h2,fun b e=>(own_lt h2 e).2,fun j hj=>by obtain ⟨u,a,b,c⟩:=h3 j hj;exact ⟨u,a,b,fun x e=>(c x e).1⟩⟩
theorem LsN.nil (B:Nat) (W:World):LsN B W (.slice none 0 0) []:=⟨[],rfl,World.ownsRow_nil _ _ _ _,fun j hj=>by simp at hj⟩
theorem LsN.shape {B:Nat} {W:World} {v:Value} {X:List (List Int)} (h:LsN B W v X):∃ ao cap,v=.slice ao X.length cap/\X.length<=cap/\cap<=maxLen:=by
 obtain ⟨us,_,h2,_⟩:=h
 exact (SlAt.of_own h2).shape
theorem LsN.push {B:Nat} {W w1:World} {v:Value} {X:List (List Int)} {us:List Value} (h1:us.length=X.length) (_h2:W.ownsRow B 26 1 v X.length us)
  (h3:∀ j,(hj:j<X.length)->∃ u,us[j]?=some u/\IsAt W u X[j]/\∀ b,u.ownBlock=some b->B<=b/\b<W.heap.size/\v.ownBlock≠some b)
  {u:Value} {x:List Int} (hx:IsAt W u x) (hu:∀ b,u.ownBlock=some b->B<=b/\b<W.heap.size/\v.ownBlock≠some b) {g cap:Nat}
  (ho:w1.ownsRow B 26 1 (.slice (some ⟨g,0,none⟩) (X.length+1) cap) (X.length+1) (us++[u])) (hk:KeepsBut W w1 v) (hs:W.heap.size<=w1.heap.size) (hg:v.ownBlock=some g\/W.heap.size<=g) :
  LsN B w1 (.slice (some ⟨g,0,none⟩) (X.length+1) cap) (X++[x]):=by
 have keep:∀ {y:Value} {r:List Int},IsAt W y r->(∀ b,y.ownBlock=some b->B<=b/\b<W.heap.size/\v.ownBlock≠some b)->IsAt w1 y r/\∀ b,y.ownBlock=some b->B<=b/\b<w1.heap.size/\(Value.slice (some ⟨g,0,none⟩) (X.length+1) cap).ownBlock≠some b:=fun {y r} hy hn =>
  ⟨SlAt.ownN hy hs (fun b hb e=>hk b hb (hn b e).2.2),fun b e=>⟨(hn b e).1,Nat.lt_of_lt_of_le (hn b e).2.1 hs,fun e'=>by
   have e2:some g=some b:=e'
   injection e2 with e2
   subst e2
   rcases hg with e3 | e3
   ·exact (hn _ e).2.2 e3
   ·have:=(hn _ e).2.1;omega⟩⟩
 refine ⟨us++[u],by simp [h1],by rw [List.length_append];exact ho,fun j hj=>?_⟩
 rw [List.length_append,List.length_singleton] at hj
 by_cases hjl:j<X.length
 ·obtain ⟨y,a,b,c⟩:=h3 j hjl
  refine ⟨y,by rw [List.getElem?_append_left (by rw [h1];exact hjl)];exact a,?_⟩
  rw [List.getElem_append_left hjl];exact keep b c
 ·obtain rfl:j=X.length:=by omega
  refine ⟨u,by rw [List.getElem?_append_right (by rw [h1];exact rN _),h1];simp,?_⟩
  rw [List.getElem_append_right (rN _)];simp only [Nat.sub_self,List.getElem_cons_zero];exact keep hx hu
structure NdW (sb:Nat) (vps vv:Value) (o:SOpt) (vw:Value) (most:Nat) (W:World) (k:Nat) (ov:Bool) (vo:Value) (X:List (List Int)):Prop where
 c0:W.cell? ⟨sb,0,none⟩=some vps
 c1:W.cell? ⟨sb,1,none⟩=some vv
 c2:W.cell? ⟨sb,2,none⟩=some (.int .i64 o.sel)
 c3:W.cell? ⟨sb,3,none⟩=some (.int .i64 o.ord)
 c4:W.cell? ⟨sb,4,none⟩=some (.int .i64 o.br)
 c5:W.cell? ⟨sb,5,none⟩=some vw
 c6:W.cell? ⟨sb,6,none⟩=some (.int .i64 most)
 c7:W.cell? ⟨sb,7,none⟩=some (.int .i64 k)
 c8:W.cell? ⟨sb,8,none⟩=some vo
 c9:W.cell? ⟨sb,9,none⟩=some (.bool ov)
 f7:W.frozen? ⟨sb,7,none⟩=false
 f8:W.frozen? ⟨sb,8,none⟩=false
 f9:W.frozen? ⟨sb,9,none⟩=false
 out:LsN (sb+1) W vo X
variable {sb most k:Nat} {vps vv vw vo:Value} {o:SOpt} {W W':World} {ov:Bool} {X:List (List Int)}
theorem NdW.lt (h:NdW sb vps vv o vw most W k ov vo X):sb<W.heap.size:=World.block_lt_of_cell? W ⟨sb,0,none⟩ h.c0
theorem NdW.on (h:NdW sb vps vv o vw most W k ov vo X) (hs:W.heap.size<=W'.heap.size) (hb:∀ b,sb<=b->b<W.heap.size->W'.heap[b]?=W.heap[b]?):NdW sb vps vv o vw most W' k ov vo X:=by
 have e:=hb sb (rN _) h.lt
 have c:∀ (o:Nat) v,W.cell? ⟨sb,o,none⟩=some v->W'.cell? ⟨sb,o,none⟩=some v:=fun o v h=>(World.cell?_of_block (a:=⟨sb,o,none⟩) e).trans h
 have f:∀ (o:Nat),W.frozen? ⟨sb,o,none⟩=false->W'.frozen? ⟨sb,o,none⟩=false:=fun o h=>(World.frozen?_of_block (a:=⟨sb,o,none⟩) e).trans h
 exact ⟨c _ _ h.c0,c _ _ h.c1,c _ _ h.c2,c _ _ h.c3,c _ _ h.c4,c _ _ h.c5,c _ _ h.c6,c _ _ h.c7,c _ _ h.c8,c _ _ h.c9,f _ h.f7,f _ h.f8,f _ h.f9,h.out.on hs (fun b hb'=>hb b (by omega))⟩
theorem NdW.below (h:NdW sb vps vv o vw most W k ov vo X) (hb:Below W.heap.size W W'):NdW sb vps vv o vw most W' k ov vo X:=h.on hb.size (fun b _ h=>hb.block b h)
theorem LsN.far {B:Nat} {W:World} {v:Value} {X:List (List Int)} (h:LsN B W v X) {a:Addr} (ha:a.block<B) (u:Value):LsN B (W.setCell a u) v X :=
 h.on (Nat.le_of_eq (setCell_blk W a u).1.symm) (fun b hb _=>(setCell_blk W a u).2 b (by omega))
theorem NdW.left (h:NdW sb vps vv o vw most W k ov vo X) (z:Nat):NdW sb vps vv o vw most (W.setCell ⟨sb,7,none⟩ (.int .i64 z)) z ov vo X :=
 ⟨cell_set_ne h.c0 (by decide),cell_set_ne h.c1 (by decide),cell_set_ne h.c2 (by decide),cell_set_ne h.c3 (by decide),cell_set_ne h.c4 (by decide),cell_set_ne h.c5 (by decide),cell_set_ne h.c6 (by decide),World.cell?_setCell_same _ _ _ h.c7,cell_set_ne h.c8 (by decide),cell_set_ne h.c9 (by decide),
  by rw [World.frozen?_setCell];exact h.f7,by rw [World.frozen?_setCell];exact h.f8,by rw [World.frozen?_setCell];exact h.f9,h.out.far (Nat.lt_succ_self _) _⟩
theorem NdW.over (h:NdW sb vps vv o vw most W k ov vo X) (z:Bool):NdW sb vps vv o vw most (W.setCell ⟨sb,9,none⟩ (.bool z)) k z vo X :=
 ⟨cell_set_ne h.c0 (by decide),cell_set_ne h.c1 (by decide),cell_set_ne h.c2 (by decide),cell_set_ne h.c3 (by decide),cell_set_ne h.c4 (by decide),cell_set_ne h.c5 (by decide),cell_set_ne h.c6 (by decide),cell_set_ne h.c7 (by decide),cell_set_ne h.c8 (by decide),World.cell?_setCell_same _ _ _ h.c9,
  by rw [World.frozen?_setCell];exact h.f7,by rw [World.frozen?_setCell];exact h.f8,by rw [World.frozen?_setCell];exact h.f9,h.out.far (Nat.lt_succ_self _) _⟩
theorem NdW.pushed (h:NdW sb vps vv o vw most W k ov vo X) {w1:World} (hb:Below (sb+1) W w1) {v2:Value} {X2:List (List Int)} (hx:LsN (sb+1) w1 v2 X2):NdW sb vps vv o vw most (w1.setCell ⟨sb,8,none⟩ v2) k ov v2 X2:=by
 have c:∀ (o:Nat) v,W.cell? ⟨sb,o,none⟩=some v->w1.cell? ⟨sb,o,none⟩=some v:=fun o v h=>(hb.cell (p:=⟨sb,o,none⟩) (Nat.lt_succ_self _)).trans h
 have f:∀ (o:Nat),W.frozen? ⟨sb,o,none⟩=false->w1.frozen? ⟨sb,o,none⟩=false:=fun o h=>(hb.frozen (p:=⟨sb,o,none⟩) (Nat.lt_succ_self _)).trans h
 exact ⟨cell_set_ne (c _ _ h.c0) (by decide),cell_set_ne (c _ _ h.c1) (by decide),cell_set_ne (c _ _ h.c2) (by decide),cell_set_ne (c _ _ h.c3) (by decide),cell_set_ne (c _ _ h.c4) (by decide),cell_set_ne (c _ _ h.c5) (by decide),cell_set_ne (c _ _ h.c6) (by decide),cell_set_ne (c _ _ h.c7) (by decide),World.cell?_setCell_same _ _ _ (c _ _ h.c8),cell_set_ne (c _ _ h.c9) (by decide),
  by rw [World.frozen?_setCell];exact f _ h.f7,by rw [World.frozen?_setCell];exact f _ h.f8,by rw [World.frozen?_setCell];exact f _ h.f9,hx.far (Nat.lt_succ_self _) _⟩
theorem NdW.made (W:World) (vps vv:Value) (o:SOpt) (vw:Value) (most k:Nat) (T:TypeId) :
  NdW W.heap.size vps vv o vw most (W.alloc (.cells #[vps,vv,.int .i64 o.sel,.int .i64 o.ord,.int .i64 o.br,vw,.int .i64 most,.int .i64 k,.slice none 0 0,.bool false] T)) k false (.slice none 0 0) []:=by
 have h:=BoxL.mk' W #[vps,vv,.int .i64 o.sel,.int .i64 o.ord,.int .i64 o.br,vw,.int .i64 most,.int .i64 k,.slice none 0 0,.bool false] T
 exact ⟨(h.get 0 rfl).1,(h.get 1 rfl).1,(h.get 2 rfl).1,(h.get 3 rfl).1,(h.get 4 rfl).1,(h.get 5 rfl).1,(h.get 6 rfl).1,(h.get 7 rfl).1,(h.get 8 rfl).1,(h.get 9 rfl).1,(h.get 7 rfl).2,(h.get 8 rfl).2,(h.get 9 rfl).2,LsN.nil _ _⟩
def NdC (ps:List PL) (vars:List Int) (sb:Nat) (vps vv:Value) (o:SOpt) (vw:Value) (most:Nat) (W:World) (k:Nat) (vo:Value) (X:List (List Int)) (D:Ds) (e:Ending) (W':World):Prop :=
 (∃ v,e=.returned v)/\∃ (L:List (List Int)) (n:Nat) (ov:Bool) (vo':Value),findR ps vars o (most - X.length) k [D]=(L,n,ov)/\NdW sb vps vv o vw most W' n ov vo' (X++L)/\Agr (fun b=>b=sb\/vo.ownBlock=some b) W W'/\∀ b,vo'.ownBlock=some b->vo.ownBlock=some b\/W.heap.size<=b
structure NdIn (w0:World) (sb:Nat) (vps vv vw:Value) (ps:List PL) (vars:List Int) (o:SOpt) (most n0:Nat):Prop where
 p:PsAt w0 vps ps
 v:IsAt w0 vv vars
 w:IsAt w0 vw o.ws
 sb:w0.heap.size<=sb
 sel:o.sel=0\/o.sel=1\/o.sel=2\/o.sel=3\/o.sel=4
 ord:o.ord=0\/o.ord=1
 br:o.br=0\/o.br=1
 vl:vars.length<=64
 vin:∀ v∈vars,0<=v/\v.toNat<n0
 most:most<=1000
theorem findR_le (ps:List PL) (vars:List Int) (o:SOpt):∀ (k m:Nat) (st:List Ds),(findR ps vars o m k st).1.length<=m
 | k,0,st=>by cases k <;> cases st <;> simp [findR]
 | k,m+1,[]=>by cases k <;> simp [findR]
 | 0,m+1,D::st=>by simp [findR]
 | k+1,m+1,D::st=>by
  rw [findR]
  cases theFix ps D with
  | none=>exact findR_le ps vars o k (m+1) st
  | some now =>
   dsimp only
   cases chooseL now vars o.sel o.ws vars.length with
   | none =>
    have:=findR_le ps vars o k m st
    dsimp only
    rw [List.length_cons];omega
   | some i=>exact findR_le ps vars o k (m+1) _
end
section
open Go.RowKit
theorem rwith_facts {Q:Nat->Prop} {w W:World} {v:Value} {D:Ds} {us:List Value} {n:Nat} {T:TypeId} (hus:us.length=D.length) (he:∀ j,(hj:j<D.length)->∃ u,us[j]?=some u/\RgQ Q w u D[j])
  (ow:W.ownsRow w.heap.size 61 1 v (0+D.length) ([]++us)) (bw:Below w.heap.size (w.alloc (.cells #[] T)) W) (hn:n<D.length) :
  (∃ g cap,v=.slice (some ⟨g,0,none⟩) D.length cap/\D.length<=cap/\w.heap.size<=g/\W.frozen? ⟨g,n,none⟩=false/\∃ u,W.cell? ⟨g,n,none⟩=some u)/\DsIn Q W w.heap.size v D us/\Below w.heap.size w W:=by
 rw [Nat.zero_add,List.nil_append] at ow
 have hb:Below w.heap.size w W:=(bA _).trans bw
 have hi:DsIn Q W w.heap.size v D us:=⟨hus,ow,fun j hj=>by obtain ⟨u,a,b⟩:=he j hj;exact ⟨u,a,b.below hb⟩⟩
 rcases ow.2 with ⟨_,h0⟩ | ⟨g,c,cur,rfl,hg,hgg,hc,_⟩
 ·omega
 obtain ⟨u,e,_⟩:=he n hn
 exact ⟨⟨g,c,rfl,hc,hg,ow.frozenAt n,u,by rw [ow.cellAt n (by omega),e]⟩,hi,hb⟩
set_option maxRecDepth 100000
theorem refWith_c (Q:Nat->Prop) (vd:Value) (v:Nat) (vu:Value) (D:Ds) (d:List Rg) (w:World) (hd:DsQ Q w vd D) (hu:RgQ Q w vu d) (hv:v<D.length) (hl:D.length<=4096) :
  Calls Tryz.prog 35 #[vd,.int .i64 v,vu] w (RetDn Q D.length (D.set v d) w):=by
 obtain ⟨i0,hi,hz0,hz1,hz2⟩:=info_parts Tryz.infoRgs
 obtain ⟨us,hus,hsl,hq,hel⟩:=hd
 have hone:=rgs_one hus (fun j hj=>by obtain ⟨u,a,b⟩:=hel j hj;exact ⟨u,a,rgAt_oneCell b.1⟩) (P:=fun _ u=>u.oneCell'=true) (fun _ _ h=>h)
 obtain ⟨b,off,cap,rfl,_⟩:=SlAt.pos hsl (by omega)
 obtain ⟨ao2,cap2,rfl,_⟩:=hu.1.shape
 have H:=hD hsl
 have HO:=hD hone
 have HE:=hD hel
 have HU:=hD hus
 have HR:=hD hu
 clear hsl hone hel hus hq hu
 have HM:Hid ((w.alloc (.cells #[] 61)).ownsRow w.heap.size 61 1 (.slice (some ⟨w.heap.size,0,none⟩) 0 0) 0 []):=World.ownsRow_made w #[] 0 (rN _) (by decide) rfl
 have HB:Hid (Below w.heap.size w (w.alloc (.cells #[] 61))):=bA _
 have j1:(v:Int)<D.length:=by omega
 go_enter Tryz.func35,Tryz.ntmps35
 go_wp2_with (at_builtin;refine wpList_append_sl rfl (.tmp 9) (.tmp 10) 22 rfl w.heap.size 61 i0 (.slice none 0 0) 1 24 Tryz.underlying22 hi hz0 hz1 hz2 rfl (by decide) _ 0 [] rfl HM.out _ D.length us rfl (SlAt.below H.out HB.out) HO.out (by omega) (by simp) ?_;intro v1 w1 o1 b1 _;have HF:=hD (rwith_facts HU.out HE.out o1 b1 hv);obtain ⟨g,c,rfl,hcp,hg,hfz,⟨z,hz⟩⟩:=HF.out.1;have HG:=hD hg;have HI:=hD HF.out.2;clear HF o1 b1 hg)
 go_ret
 refine ⟨g,c,us.set v (.slice ao2 d.length cap2),rfl,?_,HI.out.2.setCell (p:=⟨g,v,none⟩) HG.out _⟩
 have:=DsIn.set HI.out.1 hv (HR.out.below HI.out.2)
 exact this
set_option maxHeartbeats 6400000
theorem refSplit_c (vd vw:Value) (sel ord br:Int) (d:List Rg) (w:World) (hd:RgAt w vd d) (hl:d.length<=4096) (ho:ord=0\/ord=1) (hb:br=0\/br=1) (aw:Option Addr) (nw cw:Nat) (hvw:vw=.slice aw nw cw) :
  Calls Tryz.prog 52 #[vd,.agg #[.int .i64 sel,.int .i64 ord,.int .i64 br,vw]] w (RetSN (splitL d ord br).1 (splitL d ord br).2 w):=by
 subst hvw
 obtain ⟨ao,cap,rfl,_⟩:=hd.shape
 have HZ:=hD (boxZ w (.int .i64 sel) (.int .i64 ord) (.int .i64 br) (.slice aw nw cw) 28)
 have HB:=hD (BoxL.mk' w #[.int .i64 sel,.int .i64 ord,.int .i64 br,.slice aw nw cw] 28)
 have CE:=hD (refEnds_c _ d _ (hd.below HZ.out) hl)
 have CS:Hid (∀ W,Below w.heap.size w W->Calls Tryz.prog 28 #[.slice ao d.length cap] W fun e w'=>e=.returned (.int .i64 (sizeL (norm d)))/\Below W.heap.size W w'):=fun W h=>refSize_c _ d W (hd.below h) hl
 obtain ⟨b1,b2,b3,b4⟩:=ends_bnd d
 by_cases h2:sizeL (norm d)<2
 ·have hs:splitL d ord br=([],[]):=by unfold splitL;rw [if_pos h2]
  rw [hs]
  clear hs hd
  unfold endV at CE
  generalize (endsL (norm d)).2.2=ok at *
  generalize (endsL (norm d)).1=lo at *
  generalize (endsL (norm d)).2.1=hi at *
  generalize sizeL (norm d)=sz at *
  go_enter Tryz.func52,Tryz.ntmps52
  go_wp2_with (first
   | (go_at_call 51;(with_reducible refine CE.out.mono ?_);rintro e W1 ⟨rfl,bb⟩;have B1:=hD (bT HZ.out bb);clear bb)
   | (go_at_call 28;(with_reducible refine (CS.out _ B1.out).mono ?_);rintro e W2 ⟨rfl,bb⟩;have B2:=hD (bT B1.out bb);clear bb))
  go_ret2
  exact ⟨none,0,none,0,rfl,RgAt.nil,RgAt.nil,B2.out,fun b h=>(by cases h),fun b h=>(by cases h)⟩
 ·have hle:=two_ends d h2
  rw [split_ref d ord br h2 ho hb]
  dsimp only
  have CM:Hid (∀ x y vb W,Below w.heap.size w W->RgAt W vb [(x,y)]->Calls Tryz.prog 36 #[.slice ao d.length cap,vb] W (RetN (meetL d [(x,y)]) W)):=fun x y vb W h hb=>refMeet_n _ vb d _ W (hd.below h) hb hl (by simp)
  have CN:Hid (∀ vb A W,Below w.heap.size w W->RgAt W vb A->A.length<=4096->Calls Tryz.prog 79 #[.slice ao d.length cap,vb] W (RetN (minusL d A) W)):=fun vb A W h hb ha=>refMinus_n _ vb d _ W (hd.below h) hb hl ha
  unfold firstR
  unfold endV at CE
  have hm1:∀ x y,(meetL d [(x,y)]).length<=4096:=fun x y=>Nat.le_trans (canon_len _) (by omega)
  have HM1:=hD hm1
  clear hd hm1
  generalize (endsL (norm d)).2.2=ok at *
  generalize (endsL (norm d)).1=lo at *
  generalize (endsL (norm d)).2.1=hi at *
  generalize sizeL (norm d)=sz at *
  rcases hb with rfl | rfl
  ·rcases ho with rfl | rfl
   all_goals
    simp only [show ((0:Int)=1)=False by simp,if_true,if_false]
    go_enter Tryz.func52,Tryz.ntmps52
    go_wp2_with (first
     | (go_at_call 51;(with_reducible refine CE.out.mono ?_);rintro e W1 ⟨rfl,bb⟩;have B1:=hD (bT HZ.out bb);have Q1:=hD bb;clear bb)
     | (go_at_call 28;(with_reducible refine (CS.out _ B1.out).mono ?_);rintro e W2 ⟨rfl,bb⟩;have B2:=hD (bT B1.out bb);have Q2:=hD (bT Q1.out bb);obtain ⟨m1,_⟩:=(HB.out.below Q2.out (by simp)).get 1 rfl;obtain ⟨m2,_⟩:=(HB.out.below Q2.out (by simp)).get 2 rfl;have n1:=cell_al2 m1;have n2:=cell_al2 m2;have hlt2:=World.block_lt_of_cell? W2 _ m1;clear bb)
     | (go_at_call 79;(with_reducible refine (CN.out _ _ _ (bL B2.out _) (rgAt_one W2 _ _ _) (by simp)).mono ?_);rintro e W4 ⟨a4,c4,rfl,r4,bb,nn⟩;have N4:=hD (fun b h=>Nat.le_trans ((bL B2.out _)).size (nn b h));clear nn;have B4:=hD ((bL B2.out _).trans (bb.mono (bL B2.out _).size));have R4:=hD r4;have K4:=hD ((rgAt_one W2 _ _ _).below bb);clear bb r4)
     | (go_at_call 79;(with_reducible refine (CN.out _ _ _ ((bL B2.out _).alloc (bL B2.out _).size _) (rgAt_two W2 _ _ _ _) (by simp)).mono ?_);rintro e W4 ⟨a4,c4,rfl,r4,bb,nn⟩;have N4:=hD (fun b h=>Nat.le_trans (((bL B2.out _).alloc (bL B2.out _).size _)).size (nn b h));clear nn;have B4:=hD (((bL B2.out _).alloc (bL B2.out _).size _).trans (bb.mono ((bL B2.out _).alloc (bL B2.out _).size _).size));have R4:=hD r4;have K4:=hD ((rgAt_two W2 _ _ _ _).below bb);clear bb r4))
    go_ret2
    exact ⟨_,_,_,_,rfl,K4.out,R4.out,B4.out,fun b h=>(by first | exact N5.out b h | exact N3.out b h | (simp [Value.ownBlock] at h;have:=B2.out.size;omega)),N4.out⟩
  ·rcases ho with rfl | rfl
   ·simp only [show ((0:Int)=1)=False by simp,if_true,if_false]
    go_enter Tryz.func52,Tryz.ntmps52
    go_wp2_with (first
     | (go_at_call 51;(with_reducible refine CE.out.mono ?_);rintro e W1 ⟨rfl,bb⟩;have B1:=hD (bT HZ.out bb);have Q1:=hD bb;clear bb)
     | (go_at_call 28;(with_reducible refine (CS.out _ B1.out).mono ?_);rintro e W2 ⟨rfl,bb⟩;have B2:=hD (bT B1.out bb);have Q2:=hD (bT Q1.out bb);obtain ⟨m1,_⟩:=(HB.out.below Q2.out (by simp)).get 1 rfl;obtain ⟨m2,_⟩:=(HB.out.below Q2.out (by simp)).get 2 rfl;have n1:=cell_al2 m1;have n2:=cell_al2 m2;have n3:=fun o=>cell_al2 (n1 o);have n4:=fun o=>cell_al2 (n2 o);have hlt2:=World.block_lt_of_cell? W2 _ m1;clear bb))
    have BA:=hD (B2.out.alloc B2.out.size (.cells #[.int .i64 lo,.int .i64 lo] 77))
    have QA:=hD (Q2.out.alloc Q2.out.size (.cells #[.int .i64 lo,.int .i64 lo] 77))
    clear m1 m2 n1 n2 n3 n4 hlt2 B1 B2 Q1 Q2
    generalize W2.alloc (.cells #[.int .i64 lo,.int .i64 lo] 77)=WA at *
    obtain ⟨p1,_⟩:=(HB.out.below QA.out (by simp)).get 1 rfl
    have p2:=cell_al2 p1
    go_loop [10] (fun s=>∃ m:Int,lo<=m/\m<=(lo+hi) / 2/\s=.int .i64 m) (fun s=>((lo+hi) / 2 - intOf s).toNat)
    case atStart=>exact ⟨lo,by omega,by omega,rfl⟩
    case round =>
     obtain ⟨m,hm1,hm2,rfl⟩:=hrel
     have hm3:m+1<=hi:=by omega
     by_cases hm:2 * (m+1)<=lo+hi
     ·go_wp2
      exact ⟨⟨m+1,by omega,by omega,rfl⟩,by simp [intOf];omega⟩
     ·obtain rfl:m=(lo+hi) / 2:=by omega
      have hmb1:-200<=(lo+hi) / 2:=by omega
      have hmb2:(lo+hi) / 2<=200:=by omega
      generalize (lo+hi) / 2=m at *
      go_wp2_with (first
       | (go_at_call 36;(with_reducible refine (CM.out _ _ _ _ (bL BA.out _) (rgAt_one WA _ _ _)).mono ?_);rintro e W3 ⟨a3,c3,rfl,r3,bb,nn⟩;have N3:=hD (fun b h=>Nat.le_trans ((bL BA.out _)).size (nn b h));clear nn;have B3:=hD ((bL BA.out _).trans (bb.mono (bL BA.out _).size));have Q3:=hD ((bL QA.out _).trans (bb.mono (bL QA.out _).size));obtain ⟨s1,_⟩:=(HB.out.below Q3.out (by simp)).get 1 rfl;have R3:=hD r3;clear bb r3)
       | (go_at_call 79;(with_reducible refine (CN.out _ _ _ B3.out R3.out (HM1.out _ _)).mono ?_);rintro e W4 ⟨a4,c4,rfl,r4,bb,nn⟩;have N4:=hD (fun b h=>Nat.le_trans (B3.out).size (nn b h));clear nn;have B4:=hD (bT B3.out bb);have R4:=hD r4;have K4:=hD (R3.out.below bb);clear bb r4))
      go_ret2
      exact ⟨_,_,_,_,rfl,K4.out,R4.out,B4.out,fun b h=>(by first | exact N5.out b h | exact N3.out b h | (simp [Value.ownBlock] at h;have:=B2.out.size;omega)),N4.out⟩
   ·simp only [if_true]
    go_enter Tryz.func52,Tryz.ntmps52
    go_wp2_with (first
     | (go_at_call 51;(with_reducible refine CE.out.mono ?_);rintro e W1 ⟨rfl,bb⟩;have B1:=hD (bT HZ.out bb);have Q1:=hD bb;clear bb)
     | (go_at_call 28;(with_reducible refine (CS.out _ B1.out).mono ?_);rintro e W2 ⟨rfl,bb⟩;have B2:=hD (bT B1.out bb);have Q2:=hD (bT Q1.out bb);obtain ⟨m1,_⟩:=(HB.out.below Q2.out (by simp)).get 1 rfl;obtain ⟨m2,_⟩:=(HB.out.below Q2.out (by simp)).get 2 rfl;have n1:=cell_al2 m1;have n2:=cell_al2 m2;have n3:=fun o=>cell_al2 (n1 o);have n4:=fun o=>cell_al2 (n2 o);have hlt2:=World.block_lt_of_cell? W2 _ m1;clear bb))
    have BA:=hD ((B2.out.alloc B2.out.size (.cells #[.int .i64 lo,.int .i64 lo] 77)).alloc (B2.out.alloc B2.out.size (.cells #[.int .i64 lo,.int .i64 lo] 77)).size (.cells #[.int .i64 hi,.int .i64 hi] 77))
    have QA:=hD ((Q2.out.alloc Q2.out.size (.cells #[.int .i64 lo,.int .i64 lo] 77)).alloc (Q2.out.alloc Q2.out.size (.cells #[.int .i64 lo,.int .i64 lo] 77)).size (.cells #[.int .i64 hi,.int .i64 hi] 77))
    clear m1 m2 n1 n2 n3 n4 hlt2 B1 B2 Q1 Q2
    generalize (W2.alloc (.cells #[.int .i64 lo,.int .i64 lo] 77)).alloc (.cells #[.int .i64 hi,.int .i64 hi] 77)=WA at *
    obtain ⟨p1,_⟩:=(HB.out.below QA.out (by simp)).get 1 rfl
    have p2:=cell_al2 p1
    go_loop [10] (fun s=>∃ m:Int,lo<=m/\m<=(lo+hi) / 2/\s=.int .i64 m) (fun s=>((lo+hi) / 2 - intOf s).toNat)
    case atStart=>exact ⟨lo,by omega,by omega,rfl⟩
    case round =>
     obtain ⟨m,hm1,hm2,rfl⟩:=hrel
     have hm3:m+1<=hi:=by omega
     by_cases hm:2 * (m+1)<=lo+hi
     ·go_wp2
      exact ⟨⟨m+1,by omega,by omega,rfl⟩,by simp [intOf];omega⟩
     ·obtain rfl:m=(lo+hi) / 2:=by omega
      have hmb1:-200<=(lo+hi) / 2:=by omega
      have hmb2:(lo+hi) / 2<=200:=by omega
      generalize (lo+hi) / 2=m at *
      go_wp2_with (first
       | (go_at_call 36;(with_reducible refine (CM.out _ _ _ _ (bL BA.out _) (rgAt_one WA _ _ _)).mono ?_);rintro e W3 ⟨a3,c3,rfl,r3,bb,nn⟩;have N3:=hD (fun b h=>Nat.le_trans ((bL BA.out _)).size (nn b h));clear nn;have B3:=hD ((bL BA.out _).trans (bb.mono (bL BA.out _).size));have Q3:=hD ((bL QA.out _).trans (bb.mono (bL QA.out _).size));obtain ⟨s1,_⟩:=(HB.out.below Q3.out (by simp)).get 1 rfl;have R3:=hD r3;clear bb r3)
       | (go_at_call 36;(with_reducible refine (CM.out _ _ _ _ (bL B3.out _) (rgAt_one W3 _ _ _)).mono ?_);rintro e W5 ⟨a5,c5,rfl,r5,bb,nn⟩;have N5:=hD (fun b h=>Nat.le_trans ((bL B3.out _)).size (nn b h));clear nn;have B5:=hD ((bL B3.out _).trans (bb.mono (bL B3.out _).size));have R5:=hD r5;clear bb r5)
       | (go_at_call 79;(with_reducible refine (CN.out _ _ _ B5.out R5.out (HM1.out _ _)).mono ?_);rintro e W4 ⟨a4,c4,rfl,r4,bb,nn⟩;have N4:=hD (fun b h=>Nat.le_trans (B5.out).size (nn b h));clear nn;have B4:=hD (bT B5.out bb);have R4:=hD r4;have K4:=hD (R5.out.below bb);clear bb r4))
      go_ret2
      exact ⟨_,_,_,_,rfl,K4.out,R4.out,B4.out,fun b h=>(by first | exact N5.out b h | exact N3.out b h | (simp [Value.ownBlock] at h;have:=B2.out.size;omega)),N4.out⟩
theorem agr_set {M:Nat->Prop} (W:World) (a:Addr) (u:Value) (h:M a.block):Agr M W (W.setCell a u) :=
 ⟨(Below.refl 0 W).setCell (p:=a) (Nat.zero_le _) _,fun b _ hn=>(setCell_blk W a u).2 b (fun e=>hn (e ▸ h))⟩
theorem findR_zero (ps:List PL) (vars:List Int) (o:SOpt) (k:Nat) (st:List Ds):findR ps vars o 0 k st=([],k,false):=by cases k <;> cases st <;> simp [findR]
theorem findR_nil (ps:List PL) (vars:List Int) (o:SOpt) (m k:Nat):findR ps vars o m k []=([],k,false):=by cases m <;> cases k <;> simp [findR]
theorem node_over (sb most k:Nat) (vps vv vw vo:Value) (o:SOpt) (X:List (List Int)) (W:World) (ao:Option Addr) (n cap:Nat) (h:NdW sb vps vv o vw most W k true vo X) :
  Calls Tryz.prog 31 #[.pointer (some ⟨sb,0,none⟩),.slice ao n cap] W fun e W'=>(∃ v,e=.returned v)/\Below W.heap.size W W':=by
 obtain ⟨ao',cap',rfl,_⟩:=h.out.shape
 have x9:=h.c9
 have x8:=h.c8
 have x6:=h.c6
 clear h
 go_enter Tryz.func31,Tryz.ntmps31
 go_wp2
 go_quiet (fail)
 go_wp2
 refine bodyPost_ret (results_none rfl _ _ _) rfl ?_
 exact ⟨⟨_,rfl⟩,below_drewN (Below.refl _ _) _⟩
theorem node_stop (_w0:World) (sb most k:Nat) (vps vv vw vo:Value) (o:SOpt) (ps:List PL) (vars:List Int) (X:List (List Int)) (D:Ds) (W:World) (ao:Option Addr) (n cap:Nat) (h:NdW sb vps vv o vw most W k false vo X) (hs:most<=X.length\/k=0) (_hX:X.length<=most) :
  Calls Tryz.prog 31 #[.pointer (some ⟨sb,0,none⟩),.slice ao n cap] W (NdC ps vars sb vps vv o vw most W k vo X D):=by
 obtain ⟨ao',cap',rfl,_⟩:=h.out.shape
 have x9:=h.c9
 have x8:=h.c8
 have x7:=h.c7
 have x6:=h.c6
 have HW:=hD h
 clear h
 by_cases hm:most<=X.length
 ·have hdec:decide (most<=X.length)=true:=decide_eq_true hm
  have HM:Hid (findR ps vars o (most - X.length) k [D]=([],k,false)):=by
   show _=_
   rw [Nat.sub_eq_zero_of_le hm,findR_zero]
  clear hs x7
  go_enter Tryz.func31,Tryz.ntmps31
  go_wp2
  go_quiet (fail)
  go_wp2
  refine bodyPost_ret (results_none rfl _ _ _) rfl ?_
  have hb:Below W.heap.size W (W.drewN nq):=below_drewN (Below.refl _ _) _
  exact ⟨⟨_,rfl⟩,[],k,false,_,HM.out,by rw [List.append_nil];exact HW.out.below hb,Agr.of_below hb,fun b e=>.inl e⟩
 ·obtain rfl:k=0:=by omega
  have hdec:decide (most<=X.length)=false:=decide_eq_false hm
  have HM:Hid (findR ps vars o (most - X.length) 0 [D]=([],0,true)):=by
   show _=_
   obtain ⟨m,hm2⟩:∃ m,most - X.length=m+1:=⟨most - X.length - 1,by omega⟩
   rw [hm2,findR]
  have f9:=HW.out.f9
  clear hs
  go_enter Tryz.func31,Tryz.ntmps31
  go_wp2
  go_quiet (fail)
  have hb:Hid (Below W.heap.size W (W.drewN nq)):=below_drewN (Below.refl _ _) _
  have y9:(W.drewN nq).cell? ⟨sb,9,none⟩=some (.bool false):=x9
  have y7:(W.drewN nq).cell? ⟨sb,7,none⟩=some (.int .i64 ((0:Nat):Int)):=x7
  have g9:(W.drewN nq).frozen? ⟨sb,9,none⟩=false:=f9
  go_wp2
  refine bodyPost_ret (results_none rfl _ _ _) rfl ?_
  exact ⟨⟨_,rfl⟩,[],0,true,_,HM.out,by rw [List.append_nil];exact (HW.out.below hb.out).over true,(Agr.of_below (M:=fun b=>b=sb\/_) hb.out).trans (agr_set (M:=fun b=>b=sb\/_) _ _ _ (.inl rfl)) (fun _ _ h=>h) (fun _ _ h=>h),fun b e=>.inl e⟩
end
end Go.Proofs.YtaekdgikgbdnnaaGreat
