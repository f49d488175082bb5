/-
  PLAIN LAWS of the search (layer 19): its nodes, its answers, what a part keeps; no program.
  PLAIN LAWS of the search, step by step: what is found so far, how many nodes are left; no program.
  label's iterator over the answers of a problem, walked: its contract.
-/
import Derived.Test.YtaekdgikgbdnnaaGreatKlabel1
import Derived.Test.YtaekdgikgbdnnaaGreatKref9
import Derived.Test.YtaekdgikgbdnnaaGreatKsol1
import Derived.Test.YtaekdgikgbdnnaaGreatKdom3
import Derived.Deep.LoopGhost
import Derived.Deep.CutBlock
import Derived.OwnWalkIn
import Derived.BigQuiet
namespace Go.Proofs.YtaekdgikgbdnnaaGreat
section
noncomputable def theFix (ps:List PL) (D:Ds):Option Ds:=@dite _ (∃ R,FixOf ps D R) (Classical.propDecidable _) (fun h=>Classical.choose h) (fun _=>none)
theorem theFix_eq {ps:List PL} {D:Ds} {R:Option Ds} (h:FixOf ps D R):theFix ps D=R:=by
 have hx:∃ R,FixOf ps D R:=⟨R,h⟩
 unfold theFix
 rw [dif_pos hx]
 exact fixOf_unique (Classical.choose_spec hx) h
structure SOpt where
 sel:Int
 ord:Int
 br:Int
 ws:List Int
def partAt (now:Ds) (v:Nat) (o:SOpt):Ds×Ds:=(now.set v (splitL (now.getD v []) o.ord o.br).1,now.set v (splitL (now.getD v []) o.ord o.br).2)
theorem split_mem {d:List Rg} {ord br:Int} (h:¬ sizeL (norm d)<2) (ho:ord=0\/ord=1) (hb:br=0\/br=1) (z:Int) :
  (memL (norm d) z=true↔memL (norm (splitL d ord br).1) z=true\/memL (norm (splitL d ord br).2) z=true)/\¬ (memL (norm (splitL d ord br).1) z=true/\memL (norm (splitL d ord br).2) z=true):=by
 obtain ⟨_,_,h3,h4⟩:=split_parts d ord br h ho hb
 generalize (splitL d ord br).1=A at *
 generalize (splitL d ord br).2=B at *
 have hJ:memL (joinL A B) z=(inD z&&(memL A z||memL B z)):=canon_mem _ _
 have hM:memL (meetL A B) z=(inD z&&(memL A z&&memL B z)):=canon_mem _ _
 rw [h4] at hJ
 rw [h3,memL_nil] at hM
 rw [hJ,memL_norm,memL_norm]
 clear hJ h3 h4
 revert hM
 cases inD z <;> cases memL A z <;> cases memL B z <;> simp
theorem split_normal (d:List Rg) (ord br:Int):Normal (splitL d ord br).1/\Normal (splitL d ord br).2:=by
 unfold splitL
 split
 ·exact ⟨trivial,trivial⟩
 ·dsimp only
  split
  ·dsimp only;exact ⟨canon_normal _,canon_normal _⟩
  ·dsimp only;exact ⟨canon_normal _,canon_normal _⟩
theorem choose_some {ds:Ds} {vars:List Int} {sel:Int} {ws:List Int}:∀ {k b:Nat},chooseL ds vars sel ws k=some b->¬ sizeL (norm (domAt ds (vars.getD b 0)))<2
 | 0,b,h=>by simp [chooseL] at h
 | k+1,b,h=>by
  unfold chooseL at h
  split at h
  ·exact choose_some h
  ·rename_i hs
   split at h
   ·cases h;exact hs
   ·rename_i b' hb
    split at h
    ·cases h;exact hs
    ·cases h;exact choose_some hb
theorem domAt_nat (ds:Ds) (j:Nat):domAt ds (j:Int)=ds.getD j []:=by
 unfold domAt;rw [if_neg (by omega),Int.toNat_natCast]
end
section
noncomputable def findR (ps:List PL) (vars:List Int) (o:SOpt):Nat->Nat->List Ds->List (List Int)×Nat×Bool
 | 0,n,_=>([],n,false)
 | _+1,n,[]=>([],n,false)
 | _+1,0,_::_=>([],0,true)
 | m+1,n+1,D::st=>match theFix ps D with
  | none=>findR ps vars o (m+1) n st
  | some now=>match chooseL now vars o.sel o.ws vars.length with
   | none=>(vars.map (fun v=>(endsL (norm (domOf now v))).1)::(findR ps vars o m n st).1,(findR ps vars o m n st).2)
   | some k=>findR ps vars o (m+1) n ((partAt now (vars.getD k 0).toNat o).1::(partAt now (vars.getD k 0).toNat o).2::st)
def Stands (ps:List PL) (vars:List Int) (o:SOpt) (n0:Nat) (D0:Ds) (pre:List (List Int)) (k:Nat) (st:List Ds):Prop :=
 ∀ m,findR ps vars o (pre.length+(m+1)) n0 [D0]=(pre++(findR ps vars o (m+1) k st).1,(findR ps vars o (m+1) k st).2)
theorem Stands.start (ps:List PL) (vars:List Int) (o:SOpt) (n0:Nat) (D0:Ds):Stands ps vars o n0 D0 [] n0 [D0]:=fun m=>by
 rw [List.length_nil,Nat.zero_add,List.nil_append]
variable {ps:List PL} {vars:List Int} {o:SOpt} {n0 k:Nat} {D0 D now:Ds} {pre:List (List Int)} {st:List Ds}
theorem Stands.gone (h:Stands ps vars o n0 D0 pre (k+1) (D::st)) (hf:theFix ps D=none):Stands ps vars o n0 D0 pre k st:=fun m=>by
 rw [h m];conv=>lhs;rw [findR,hf]
theorem Stands.part {i:Nat} (h:Stands ps vars o n0 D0 pre (k+1) (D::st)) (hf:theFix ps D=some now) (hc:chooseL now vars o.sel o.ws vars.length=some i) :
  Stands ps vars o n0 D0 pre k ((partAt now (vars.getD i 0).toNat o).1::(partAt now (vars.getD i 0).toNat o).2::st):=fun m=>by
 rw [h m];conv=>lhs;rw [findR,hf];dsimp only;rw [hc]
theorem Stands.leaf (h:Stands ps vars o n0 D0 pre (k+1) (D::st)) (hf:theFix ps D=some now) (hc:chooseL now vars o.sel o.ws vars.length=none) :
  findR ps vars o (pre++[vars.map (fun v=>(endsL (norm (domOf now v))).1)]).length n0 [D0]=(pre++[vars.map (fun v=>(endsL (norm (domOf now v))).1)],k,false) /\
  Stands ps vars o n0 D0 (pre++[vars.map (fun v=>(endsL (norm (domOf now v))).1)]) k st:=by
 have e:∀ m,findR ps vars o (m+1) (k+1) (D::st)=(vars.map (fun v=>(endsL (norm (domOf now v))).1)::(findR ps vars o m k st).1,(findR ps vars o m k st).2):=fun m=>by
  conv=>lhs;rw [findR,hf];dsimp only;rw [hc]
 constructor
 ·have:=h 0
  rw [e 0] at this
  rw [List.length_append,List.length_singleton]
  cases k <;> exact this
 ·intro m
  have:=h (m+1)
  rw [e (m+1)] at this
  rw [List.length_append,List.length_singleton,show pre.length+1+(m+1)=pre.length+(m+1+1) by omega,this,List.append_assoc]
  rfl
theorem Stands.done (h:Stands ps vars o n0 D0 pre k []) (m:Nat):findR ps vars o (pre.length+(m+1)) n0 [D0]=(pre,k,false):=by
 rw [h m];cases k <;> simp [findR]
theorem Stands.over (h:Stands ps vars o n0 D0 pre 0 (D::st)) (m:Nat):findR ps vars o (pre.length+(m+1)) n0 [D0]=(pre,0,true):=by
 rw [h m];simp [findR]
end
section
open Go.RowKit
theorem Tryz.infoRgss:(Tryz.prog.info? 22).map (fun i=>(i.zero,i.size,i.bytes))=some (some (.slice none 0 0),1,24):=by kernel_rfl
theorem mk_ints (n:Nat) (hn:n<=4096) (W:World):(Instr.makeSlice 26 (.int .i64 n) (.int .i64 n)).run Tryz.prog W=.ok (.slice (some ⟨W.heap.size,0,none⟩) n n) (W.alloc (.cells (madeCells #[.int .i64 0] n) 3)):=by
 obtain ⟨i0,hi,hz0,hz1,hz2⟩:=info_parts Tryz.infoIntR
 have h:=run_make (P:=Tryz.prog) W 26 3 i0 (.int .i64 0) Tryz.underlying26 hi hz0 .i64 .i64 n n (by omega) (Int.le_refl _) (by rw [hz2];omega) (by omega)
 rw [h,hz1]
 simp [Value.cells]
structure Srch (W:World) (sb:Nat) (vps vv:Value) (sel ord br:Int) (vw:Value) (k:Int) (ov:Bool):Prop where
 c0:W.cell? ⟨sb,0,none⟩=some vps
 c1:W.cell? ⟨sb,1,none⟩=some vv
 c2:W.cell? ⟨sb,2,none⟩=some (.int .i64 sel)
 c3:W.cell? ⟨sb,3,none⟩=some (.int .i64 ord)
 c4:W.cell? ⟨sb,4,none⟩=some (.int .i64 br)
 c5:W.cell? ⟨sb,5,none⟩=some vw
 c6:W.cell? ⟨sb,6,none⟩=some (.int .i64 k)
 c7:W.cell? ⟨sb,7,none⟩=some (.bool ov)
 f6:W.frozen? ⟨sb,6,none⟩=false
 f7:W.frozen? ⟨sb,7,none⟩=false
theorem Srch.on {W W':World} {sb:Nat} {vps vv vw:Value} {sel ord br k:Int} {ov:Bool} (h:Srch W sb vps vv sel ord br vw k ov) (hb:W'.heap[sb]?=W.heap[sb]?):Srch W' sb vps vv sel ord br vw k ov:=by
 have c:∀ (o:Nat) v,W.cell? ⟨sb,o,none⟩=some v->W'.cell? ⟨sb,o,none⟩=some v:=fun o v h=>(World.cell?_of_block (a:=⟨sb,o,none⟩) hb).trans h
 have f:∀ (o:Nat),W.frozen? ⟨sb,o,none⟩=false->W'.frozen? ⟨sb,o,none⟩=false:=fun o h=>(World.frozen?_of_block (a:=⟨sb,o,none⟩) hb).trans h
 exact ⟨c _ _ h.c0,c _ _ h.c1,c _ _ h.c2,c _ _ h.c3,c _ _ h.c4,c _ _ h.c5,c _ _ h.c6,c _ _ h.c7,f _ h.f6,f _ h.f7⟩
theorem Srch.lt {W:World} {sb:Nat} {vps vv vw:Value} {sel ord br k:Int} {ov:Bool} (h:Srch W sb vps vv sel ord br vw k ov):sb<W.heap.size:=World.block_lt_of_cell? W ⟨sb,0,none⟩ h.c0
theorem cell_set_ne {W:World} {b o o':Nat} {u v:Value} (h:W.cell? ⟨b,o',none⟩=some v) (hne:o≠o'):(W.setCell ⟨b,o,none⟩ u).cell? ⟨b,o',none⟩=some v:=by
 rw [World.cell?_setCell_other _ _ _ _ (fun h=>by cases h;exact hne rfl)];exact h
theorem Srch.left {W:World} {sb:Nat} {vps vv vw:Value} {sel ord br k:Int} {ov:Bool} (h:Srch W sb vps vv sel ord br vw k ov) (z:Int):Srch (W.setCell ⟨sb,6,none⟩ (.int .i64 z)) sb vps vv sel ord br vw z ov :=
 ⟨cell_set_ne h.c0 (by decide),cell_set_ne h.c1 (by decide),cell_set_ne h.c2 (by decide),cell_set_ne h.c3 (by decide),cell_set_ne h.c4 (by decide),cell_set_ne h.c5 (by decide),World.cell?_setCell_same _ _ _ h.c6,cell_set_ne h.c7 (by decide),by rw [World.frozen?_setCell];exact h.f6,by rw [World.frozen?_setCell];exact h.f7⟩
theorem Srch.over {W:World} {sb:Nat} {vps vv vw:Value} {sel ord br k:Int} {ov:Bool} (h:Srch W sb vps vv sel ord br vw k ov) (z:Bool):Srch (W.setCell ⟨sb,7,none⟩ (.bool z)) sb vps vv sel ord br vw k z :=
 ⟨cell_set_ne h.c0 (by decide),cell_set_ne h.c1 (by decide),cell_set_ne h.c2 (by decide),cell_set_ne h.c3 (by decide),cell_set_ne h.c4 (by decide),cell_set_ne h.c5 (by decide),cell_set_ne h.c6 (by decide),World.cell?_setCell_same _ _ _ h.c7,by rw [World.frozen?_setCell];exact h.f6,by rw [World.frozen?_setCell];exact h.f7⟩
theorem setCell_blk (W:World) (a:Addr) (u:Value):(W.setCell a u).heap.size=W.heap.size/\∀ b,b≠a.block->(W.setCell a u).heap[b]?=W.heap[b]? :=
 ⟨by simp [World.setCell],fun b hb=>Below.heap_setCell _ _ _ _ hb⟩
def fillL (f:Int->Int) (vars:List Int) (k:Nat):List Value:=(List.range vars.length).map (fun j=>Value.int .i64 (if j<k then f (vars.getD j 0) else 0))
theorem fill_zero (f:Int->Int) (vars:List Int):fillL f vars 0=List.replicate vars.length (.int .i64 0):=by
 apply List.ext_getElem (by simp [fillL])
 intro j h1 h2
 simp [fillL]
theorem fill_step (f:Int->Int) (vars:List Int) (k:Nat) (hk:k<vars.length):(fillL f vars k).set k (.int .i64 (f vars[k]))=fillL f vars (k+1):=by
 apply List.ext_getElem (by simp [fillL])
 intro j h1 h2
 rw [List.getElem_set]
 by_cases e:k=j
 ·subst e
  simp [fillL,hk]
 ·rw [if_neg e]
  simp only [fillL,List.getElem_map,List.getElem_range]
  congr 1
  by_cases h:j<k
  ·rw [if_pos h,if_pos (by omega)]
  ·rw [if_neg h,if_neg (by omega)]
theorem fill_all (f:Int->Int) (vars:List Int):fillL f vars vars.length=(vars.map f).map (Value.int .i64):=by
 apply List.ext_getElem (by simp [fillL])
 intro j h1 h2
 simp [fillL] at h1
 simp [fillL,h1]
theorem FixIn.set {now:Ds} {ps:List PL} (h:FixIn now ps) (hn:AllN now) {d:List Rg} (hd:Normal d) (v:Nat):FixIn (now.set v d) ps:=by
 have hn':AllN (now.set v d):=fun j=>by
  rw [getD_set]
  split
  ·exact hd
  ·exact hn j
 exact ⟨fun p hp=>(h.fine p hp).now (by rw [List.length_set]) hn',h.ok,by rw [List.length_set];exact h.n,allN_short' hn',h.P⟩
structure AnsIn (w0 W:World) (bd bs sb:Nat) (vd vps vv vw:Value) (D0:Ds) (ps:List PL) (vars ws:List Int) (sel ord br:Int) (k0:Nat) (M0:Nat->Prop):Prop where
 p:PsAt w0 vps ps
 v:IsAt w0 vv vars
 w:IsAt w0 vw ws
 b:Below w0.heap.size w0 W
 s:Srch W sb vps vv sel ord br vw k0 false
 bx:W.cell? ⟨bs,0,none⟩=some (.pointer (some ⟨sb,0,none⟩))
 bxd:W.cell? ⟨bd,0,none⟩=some vd
 d:DsQ (fun b=>¬ M0 b/\b≠sb) W vd D0
 sl:w0.heap.size<=sb
 ns:bs≠sb
 ms:¬ M0 sb
 mb:¬ M0 bs
 ml:∀ b,M0 b->w0.heap.size<=b
 fin:FixIn D0 ps
 vin:∀ v∈vars,0<=v/\v.toNat<D0.length
 vl:vars.length<=64
 k:k0<=10000
 sel:sel=0\/sel=1\/sel=2\/sel=3\/sel=4
 ord:ord=0\/ord=1
 br:br=0\/br=1
def GotI (n0 sb len:Nat) (x:Value×List Int) (W:World):Prop:=IsAt W x.1 x.2/\(∀ b,x.1.ownBlock=some b->n0<=b/\b≠sb)/\x.2.length=len/\∀ z∈x.2,-200<=z/\z<=200
def ownI (x:Value×List Int) (b:Nat):Prop:=x.1.ownBlock=some b
def AnsDone (ps:List PL) (vars:List Int) (o:SOpt) (k0:Nat) (D0:Ds) (sb:Nat) (vps vv vw:Value) (xs:List (Value×List Int)) (W:World):Prop :=
 ∃ (k:Int) (n:Nat) (ov:Bool),Srch W sb vps vv o.sel o.ord o.br vw k ov/\(ov=false->k=n)/\∀ m,findR ps vars o (xs.length+(m+1)) k0 [D0]=(xs.map Prod.snd,n,ov)
def AnsStop (ps:List PL) (vars:List Int) (o:SOpt) (k0:Nat) (D0:Ds) (sb:Nat) (vps vv vw:Value) (xs:List (Value×List Int)) (W:World):Prop :=
 ∃ n:Nat,Srch W sb vps vv o.sel o.ord o.br vw n false/\findR ps vars o xs.length k0 [D0]=(xs.map Prod.snd,n,false)
structure AnsW (J:List (Value×List Int)->(Nat->Prop)->World->Prop) (n0:Nat) (W0:World) (bs sb:Nat) (vps vv vw:Value) (D0:Ds) (ps:List PL) (o:SOpt)
  (wr:World) (pre:List (Value×List Int)) (M:Nat->Prop) (g cap:Nat) (st:List Ds) (us:List Value) (k:Nat):Prop where
 j:J pre M wr
 ml:∀ b,M b->n0<=b
 nl:n0<=W0.heap.size
 b:Below n0 W0 wr
 s:Srch wr sb vps vv o.sel o.ord o.br vw k false
 bx:wr.cell? ⟨bs,0,none⟩=some (.pointer (some ⟨sb,0,none⟩))
 ms:¬ M sb
 mb:¬ M bs
 ns:bs≠sb
 sl:n0<=sb
 gb:g≠bs
 stk:StAt (fun b=>¬ M b/\b≠sb) wr n0 g cap st us
 fin:∀ D∈st,FixIn D ps/\D.length=D0.length
variable {J:List (Value×List Int)->(Nat->Prop)->World->Prop} {w0 W0 wr:World} {n0 bs sb g cap k:Nat} {vps vv vw:Value} {D0 D:Ds} {ps:List PL} {vars:List Int} {o:SOpt} {k0:Nat}
 {pre:List (Value×List Int)} {M:Nat->Prop} {st:List Ds} {us:List Value}
theorem AnsW.below (h:AnsW J n0 W0 bs sb vps vv vw D0 ps o wr pre M g cap st us k) (hJ:Rests J) (hl:Lies J) {W':World} (hb:Below wr.heap.size wr W'):AnsW J n0 W0 bs sb vps vv vw D0 ps o W' pre M g cap st us k :=
 { h with
  j:=hJ _ _ _ _ h.j hb.size (fun b hm=>hb.block b (hl _ _ _ h.j b hm))
  b:=h.b.trans (hb.mono (Nat.le_trans h.nl h.b.size))
  s:=h.s.on (hb.block _ h.s.lt)
  bx:=(hb.cell (p:=⟨bs,0,none⟩) (World.block_lt_of_cell? wr _ h.bx)).trans h.bx
  stk:=h.stk.below hb }
theorem AnsW.dec (h:AnsW J n0 W0 bs sb vps vv vw D0 ps o wr pre M g cap (D::st) us (k+1)) (hJ:Rests J):AnsW J n0 W0 bs sb vps vv vw D0 ps o (wr.setCell ⟨sb,6,none⟩ (.int .i64 k)) pre M g cap st (us.take st.length) k:=by
 obtain ⟨hs,hb⟩:=setCell_blk wr ⟨sb,6,none⟩ (.int .i64 k)
 exact { h with
  j:=hJ _ _ _ _ h.j (Nat.le_of_eq hs.symm) (fun b hm=>hb b (fun e=>h.ms (by dsimp only at e;rw [<- e];exact hm)))
  b:=h.b.setCell (p:=⟨sb,6,none⟩) h.sl _
  s:=h.s.left _
  bx:=(World.cell?_of_block (a:=⟨bs,0,none⟩) (hb bs h.ns)).trans h.bx
  stk:=h.stk.pop.on (Nat.le_of_eq hs.symm) (fun b _ hq=>hb b hq.2)
  fin:=fun E hE=>h.fin E (List.mem_cons_of_mem _ hE) }
theorem AnsW.glt (h:AnsW J n0 W0 bs sb vps vv vw D0 ps o wr pre M g cap st us k):g<wr.heap.size:=h.stk.lt.2
theorem AnsW.new (h:AnsW J n0 W0 bs sb vps vv vw D0 ps o wr pre M g cap st us k) (hl:Lies J):∀ b,wr.heap.size<=b->(¬ M b/\b≠sb)/\b≠g:=fun b hb =>
 ⟨⟨fun hm=>by have:=hl _ _ _ h.j b hm;omega,by have:=h.s.lt;omega⟩,by have:=h.glt;omega⟩
theorem AnsW.push (h:AnsW J n0 W0 bs sb vps vv vw D0 ps o wr pre M g cap st us k) (hJ:Rests J) (hl:Lies J) {W W':World} {g' cap':Nat} {a b:Ds} {ua ub:Value} (hb:Below wr.heap.size wr W)
  (ha:DsQ (fun b=>(¬ M b/\b≠sb)/\b≠g) W ua a) (hub:DsQ (fun b=>(¬ M b/\b≠sb)/\b≠g) W ub b) (fa:FixIn a ps/\a.length=D0.length) (fb:FixIn b ps/\b.length=D0.length)
  (ho:W'.ownsRow n0 22 1 (.slice (some ⟨g',0,none⟩) (st.length+2) cap') (st.length+2) (us++[ub,ua])) (hgr:W.grownBy W' (some g)) (hg:g'=g\/W.heap.size<=g') (hlow:n0<=g) :
  AnsW J n0 W0 bs sb vps vv vw D0 ps o W' pre M g' cap' (a::b::st) (us++[ub,ua]) k:=by
 have h1:=h.below hJ hl hb
 have hk:∀ k,k<W.heap.size->k≠g->W'.heap[k]?=W.heap[k]?:=fun k hk hne=>hgr.block k hk (fun e=>hne (Option.some.inj e))
 have hMg:∀ b,M b->b≠g:=fun b hm e=>h1.stk.good.1 (e ▸ hm)
 exact { h1 with
  j:=hJ _ _ _ _ h1.j hgr.size (fun b hm=>hk b (hl _ _ _ h1.j b hm) (hMg b hm))
  b:=h1.b.grown hgr (Nat.le_trans h1.nl h1.b.size) (fun x e=>by cases e;exact hlow)
  s:=h1.s.on (hk sb h1.s.lt (fun e=>h1.stk.good.2 e.symm))
  bx:=(World.cell?_of_block (a:=⟨bs,0,none⟩) (hk bs (World.block_lt_of_cell? W _ h1.bx) (fun e=>h.gb e.symm))).trans h1.bx
  gb:=by
   rcases hg with e | e
   ·rw [e];exact h.gb
   ·have:=World.block_lt_of_cell? W _ h1.bx
    dsimp only at this
    omega
  stk:=h1.stk.push ha hub ho hgr.size hk (hg.imp id (fun e=>⟨e,fun hm=>by have:=hl _ _ _ h1.j _ hm;omega,by have:=h1.s.lt;omega⟩))
  fin:=fun E hE=>by
   rcases List.mem_cons.1 hE with rfl | hE
   ·exact fa
   ·rcases List.mem_cons.1 hE with rfl | hE
    ·exact fb
    ·exact h.fin E hE }
theorem AnsW.round {J2:List (Value×List Int)->(Nat->Prop)->World->Prop} (h:AnsW J n0 W0 bs sb vps vv vw D0 ps o wr pre M g cap st us k) {W':World} {x:Value×List Int} {pre':List (Value×List Int)} {M':Nat->Prop} (hx:∀ b,ownI x b->n0<=b/\b≠sb/\b≠bs)
  (hM:∀ b,M' b->(M b\/ownI x b)\/wr.heap.size<=b) (hA:Agr (fun b=>M b\/ownI x b) wr W') (hj:J2 pre' M' W')
  (hst:StAt (fun b=>(¬ M b/\b≠sb)/\¬ ownI x b) wr n0 g cap st us):AnsW J2 n0 W0 bs sb vps vv vw D0 ps o W' pre' M' g cap st us k:=by
 have hsz:=Nat.le_trans h.nl h.b.size
 have hsb:=h.s.lt
 have hbs:=World.block_lt_of_cell? wr _ h.bx
 dsimp only at hbs
 have hnot:∀ b,b<wr.heap.size->¬ M b->¬ ownI x b->¬ M' b:=fun b hb h1 h2 hm=>by
  rcases hM b hm with (e | e) | e
  ·exact h1 e
  ·exact h2 e
  ·omega
 have hms:¬ ownI x sb:=fun e=>(hx _ e).2.1 rfl
 have hmb:¬ ownI x bs:=fun e=>(hx _ e).2.2 rfl
 exact { h with
  j:=hj
  ml:=fun b hm=>by
   rcases hM b hm with (e | e) | e
   ·exact h.ml b e
   ·exact (hx b e).1
   ·omega
  b:=h.b.trans (hA.below hsz (fun b e=>by
   rcases e with e | e
   ·exact h.ml b e
   ·exact (hx b e).1))
  s:=h.s.on (hA.same _ hsb (fun e=>e.elim h.ms hms))
  bx:=(World.cell?_of_block (a:=⟨bs,0,none⟩) (hA.same _ hbs (fun e=>e.elim h.mb hmb))).trans h.bx
  ms:=hnot _ hsb h.ms hms
  mb:=hnot _ hbs h.mb hmb
  stk:=((hst.weaken (Q':=fun b=>(¬ M' b/\b≠sb)/\((¬ M b/\b≠sb)/\¬ ownI x b)) (fun b hb hq=>⟨⟨hnot b hb hq.1.1 hq.2,hq.1.2⟩,hq⟩)).on hA.low.size (fun b hb hq=>hA.same b hb (fun e=>e.elim hq.2.1.1 hq.2.2))).weaken (fun b _ hq=>hq.1) }
theorem AnsW.start {W:World} {bd:Nat} {vd:Value} {ws:List Int} (h:AnsIn w0 W bd bs sb vd vps vv vw D0 ps vars ws o.sel o.ord o.br k0 M) (hJ:Rests J) (hl:Lies J) (hj:J [] M W) :
  AnsW J w0.heap.size W bs sb vps vv vw D0 ps o (W.alloc (.cells #[vd] 22)) [] M W.heap.size 1 [D0] [vd] k0:=by
 have hb:Below W.heap.size W (W.alloc (.cells #[vd] 22)):=bA _
 have hbs:=World.block_lt_of_cell? W _ h.bx
 dsimp only at hbs
 exact {
  j:=hJ _ _ _ _ hj hb.size (fun b hm=>hb.block b (hl _ _ _ hj b hm))
  ml:=h.ml
  nl:=h.b.size
  b:=hb.mono h.b.size
  s:=h.s.on (hb.block _ h.s.lt)
  bx:=(hb.cell (p:=⟨bs,0,none⟩) hbs).trans h.bx
  ms:=h.ms
  mb:=h.mb
  ns:=h.ns
  sl:=h.sl
  gb:=by omega
  stk:=StAt.one h.d ⟨fun hm=>by have:=hl _ _ _ hj _ hm;omega,by have:=h.s.lt;omega⟩ h.b.size
  fin:=fun E hE=>by rw [List.mem_singleton.1 hE];exact ⟨h.fin,rfl⟩ }
theorem StAt.room {Q:Nat->Prop} {W:World} {B g cap:Nat} {st:List Ds} {us:List Value} (h:StAt Q W B g cap st us):st.length<=cap/\cap<=maxLen:=by
 rcases h.own.2 with ⟨e,_⟩ | ⟨g',cap',cur,he,_,_,a3,a4,_⟩
 ·cases e
 ·simp only [Value.slice.injEq,Option.some.injEq,Addr.mk.injEq,and_true,true_and] at he
  obtain ⟨_,rfl⟩:=he
  exact ⟨a3,a4⟩
theorem AnsW.jset (h:AnsW J n0 W0 bs sb vps vv vw D0 ps o wr pre M g cap st us k) (hJ:Rests J) {W':World} (hs:wr.heap.size<=W'.heap.size) (hb:∀ b,b≠sb->W'.heap[b]?=wr.heap[b]?):J pre M W' :=
 hJ _ _ _ _ h.j hs (fun b hm=>hb b (fun e=>h.ms (e ▸ hm)))
theorem theFix_some {ps:List PL} {D:Ds} (h:FixIn D ps):FixOf ps D (theFix ps D):=by
 obtain ⟨R,hR⟩:=fixOf_exists (ps:=ps) (D:=D) (fun p hp=>(h.fine p hp).good)
 rw [theFix_eq hR];exact hR
end
end Go.Proofs.YtaekdgikgbdnnaaGreat
