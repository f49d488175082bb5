/-
  PROBLEMS THAT COME IN: domains and constraints in one struct.
  A RANGE OVER A FUNCTION whose iterator, too, writes memory between two rounds: each side names the blocks that are its own.
  label.Split and the reference's, walked.
-/
import Derived.Test.YtaekdgikgbdnnaaGreatKfix1
import Derived.Test.YtaekdgikgbdnnaaGreatKlabel1
import Derived.RangeFuncNested
import Derived.RangeFuncBound
import Derived.RangeFuncCalls
import Derived.RangeFuncLeaves
import Derived.Test.YtaekdgikgbdnnaaGreatKlib1
import Derived.Test.YtaekdgikgbdnnaaGreatKlabel2
import Derived.Test.YtaekdgikgbdnnaaGreatKdom2
namespace Go.Proofs.YtaekdgikgbdnnaaGreat
section
open Go.RowKit Go.ChangeShapes Go.WideShapes Go.ChangeAt
set_option maxRecDepth 100000
theorem open_dssL {H:Type} {enc:TypeId×Value->H} {w:World} {sp:Nat->Bool} {held:Bool} {fuel:Nat} {v:Value} {y:DataW H×List MemPlace}
  (h:DataW.trod enc Tryz.prog w 0 sp held fuel 22 [v]=some y):∃ ds:Ds,DsAt w v ds:=by
 obtain ⟨d,ps⟩:=y
 obtain ⟨n,us,hS,hE⟩:=open_sl (k:=1) Tryz.underlying22 cellsRgsL h
 have hl:=hS.len
 have hx:∀ i,i<n->∃ r:List Rg,∃ u,us[i]?=some u/\RgAt w u r:=fun i hi=>by
  obtain ⟨m,y,hy⟩:=hE i hi
  have hi':i<us.length:=by omega
  have e:(us.drop (i * 1)).take 1=[us[i]]:=by rw [Nat.mul_one,List.drop_eq_getElem_cons hi'];rfl
  rw [e] at hy
  obtain ⟨rs,hr⟩:=rgs_of hy
  exact ⟨rs,us[i],List.getElem?_eq_getElem hi',hr⟩
 obtain ⟨f,hf⟩:=Deep.choose_lt hx
 refine ⟨(List.range n).map f,us,by simp;omega,by simpa using hS,fun j hj=>?_⟩
 have hj':j<n:=by simpa using hj
 obtain ⟨u,e1,e2⟩:=hf j hj'
 exact ⟨u,e1,by simpa using e2⟩
theorem open_propsL {H:Type} {enc:TypeId×Value->H} {w:World} {sp:Nat->Bool} {held:Bool} {fuel:Nat} {v:Value} {y:DataW H×List MemPlace}
  (h:DataW.trod enc Tryz.prog w 0 sp held fuel 23 [v]=some y):∃ l:List PL,PsAt w v l:=by
 obtain ⟨d,pp⟩:=y
 obtain ⟨n,us,hS,hE⟩:=open_sl (k:=9) Tryz.underlying23 cellsProp h
 have hl:=hS.len
 have hx:∀ i,i<n->∃ p:PL,∃ va vb vv,us[i * 9]?=some (.int .i64 p.kind)/\us[i * 9+1]?=some va/\us[i * 9+2]?=some vb/\us[i * 9+3]?=some (.int .i64 p.rel)/\us[i * 9+4]?=some (.int .i64 p.c) /\
   us[i * 9+5]?=some (.int .i64 p.x)/\us[i * 9+6]?=some (.int .i64 p.y)/\us[i * 9+7]?=some (.int .i64 p.z)/\us[i * 9+8]?=some vv/\IsAt w va p.coef/\IsAt w vb p.vars/\IsAt w vv p.vs:=fun i hi=>by
  obtain ⟨m,y,hy⟩:=hE i hi
  have g:∀ k,k<9->i * 9+k<us.length:=fun k hk=>by omega
  have e:(us.drop (i * 9)).take 9=[us[i * 9]'(by omega),us[i * 9+1]'(by omega),us[i * 9+2]'(by omega),us[i * 9+3]'(by omega),us[i * 9+4]'(by omega),us[i * 9+5]'(by omega),us[i * 9+6]'(by omega),us[i * 9+7]'(by omega),us[i * 9+8]'(by omega)]:=by
   apply List.ext_getElem
   ·simp;omega
   ·intro j h1 h2
    have hj:j<9:=by simpa using h2
    rw [List.getElem_take,List.getElem_drop]
    match j,hj with
    | 0,_=>rfl | 1,_=>rfl | 2,_=>rfl | 3,_=>rfl | 4,_=>rfl | 5,_=>rfl | 6,_=>rfl | 7,_=>rfl | 8,_=>rfl
  rw [e] at hy
  obtain ⟨kind,rel,c,x,yy,z,coef,vars,vs,e0,e3,e4,e5,e6,e7,i1,i2,i8⟩:=open_propL hy
  refine ⟨⟨kind,rel,c,x,yy,z,coef,vars,vs⟩,_,_,_,?_,List.getElem?_eq_getElem (by omega),List.getElem?_eq_getElem (by omega),?_,?_,?_,?_,?_,List.getElem?_eq_getElem (by omega),i1,i2,i8⟩
  ·rw [List.getElem?_eq_getElem (by omega),e0]
  ·rw [List.getElem?_eq_getElem (by omega),e3]
  ·rw [List.getElem?_eq_getElem (by omega),e4]
  ·rw [List.getElem?_eq_getElem (by omega),e5]
  ·rw [List.getElem?_eq_getElem (by omega),e6]
  ·rw [List.getElem?_eq_getElem (by omega),e7]
 haveI:Inhabited PL:=⟨⟨0,0,0,0,0,0,[],[],[]⟩⟩
 obtain ⟨f,hf⟩:=Deep.choose_lt hx
 obtain ⟨h1,ao,cap,he,h2,h3,h5,h4⟩:=hS
 refine ⟨(List.range n).map f,ao,cap,by rw [he];simp,by simpa using h2,h3,fun hp=>?_⟩
 have hn:0<n:=by simpa using hp
 obtain ⟨b,off,rfl,hlt,hc⟩:=h4 (by omega)
 refine ⟨b,off,rfl,hlt,fun j hj=>?_⟩
 have hj':j<n:=by simpa using hj
 obtain ⟨va,vb,vv,g0,g1,g2,g3,g4,g5,g6,g7,g8,i1,i2,i8⟩:=hf j hj'
 rw [show ((List.range n).map f)[j]=f j by simp]
 refine ⟨va,vb,vv,⟨?_,?_,?_,?_,?_,?_,?_,?_,?_⟩,i1,i2,i8⟩
 ·rw [hc (j * 9) (by omega),g0]
 ·rw [Nat.add_assoc,hc (j * 9+1) (by omega),g1]
 ·rw [Nat.add_assoc,hc (j * 9+2) (by omega),g2]
 ·rw [Nat.add_assoc,hc (j * 9+3) (by omega),g3]
 ·rw [Nat.add_assoc,hc (j * 9+4) (by omega),g4]
 ·rw [Nat.add_assoc,hc (j * 9+5) (by omega),g5]
 ·rw [Nat.add_assoc,hc (j * 9+6) (by omega),g6]
 ·rw [Nat.add_assoc,hc (j * 9+7) (by omega),g7]
 ·rw [Nat.add_assoc,hc (j * 9+8) (by omega),g8]
theorem cellsCase:Tryz.prog.cellsOf 25=2:=by kernel_rfl
theorem cellsDssC:Tryz.prog.cellsOf 22=1:=by kernel_rfl
theorem cellsPropsC:Tryz.prog.cellsOf 23=1:=by kernel_rfl
theorem open_case {H:Type} {enc:TypeId×Value->H} {w:World} {base:Nat} {sp:Nat->Bool} {held:Bool} {v:Value} {d:DataW H} {ps:List MemPlace}
  (hval:Value.okWide Tryz.prog w .any base 25 v) (h:DataW.Trod enc Tryz.prog w 0 sp held 25 v d ps) :
  ∃ vd vp,∃ (ds:Ds) (l:List PL),v=.agg #[vd,vp]/\DsAt w vd ds/\PsAt w vp l:=by
 obtain ⟨cs,rfl,hsz⟩:=okWide_struct Tryz.underlying25 hval
 obtain ⟨c0,c1,rfl⟩:∃ c0 c1,cs=#[c0,c1]:=by
  have h2:=hsz.trans cellsCase
  obtain ⟨l⟩:=cs
  match l,h2 with
  | [c0,c1],_=>exact ⟨c0,c1,rfl⟩
 obtain ⟨fuel,hf⟩:=h
 obtain ⟨xs,n,_,_,_,hlen,hF⟩:=DataW.trod_struct Tryz.underlying25 hf
 match xs,hlen with
 | [y0,y1],_ =>
  have g0:=hF 0 _ rfl
  have g1:=hF 1 _ rfl
  simp [cellsDssC,cellsPropsC] at g0 g1
  obtain ⟨ds,hd⟩:=open_dssL g0
  obtain ⟨l,hl⟩:=open_propsL g1
  exact ⟨c0,c1,ds,l,rfl,hd,hl⟩
end
section
open Go.RowKit
structure Agr (M:Nat->Prop) (W W':World):Prop where
 low:Below 0 W W'
 same:∀ b,b<W.heap.size->¬ M b->W'.heap[b]?=W.heap[b]?
theorem Agr.refl (M:Nat->Prop) (W:World):Agr M W W:=⟨Below.refl _ _,fun _ _ _=>rfl⟩
theorem Agr.trans {M M' M'':Nat->Prop} {A B C:World} (h:Agr M A B) (k:Agr M' B C) (h1:∀ b,b<A.heap.size->M b->M'' b) (h2:∀ b,b<A.heap.size->M' b->M'' b):Agr M'' A C :=
 ⟨h.low.trans k.low,fun b hb hn=>(k.same b (Nat.lt_of_lt_of_le hb h.low.size) (fun e=>hn (h2 b hb e))).trans (h.same b hb (fun e=>hn (h1 b hb e)))⟩
theorem Agr.of_below {M:Nat->Prop} {W W':World} (h:Below W.heap.size W W'):Agr M W W':=⟨h.mono (Nat.zero_le _),fun b hb _=>h.block b hb⟩
theorem Agr.mono {M M':Nat->Prop} {A B:World} (h:Agr M A B) (h1:∀ b,b<A.heap.size->M b->M' b):Agr M' A B:=⟨h.low,fun b hb hn=>h.same b hb (fun e=>hn (h1 b hb e))⟩
theorem Agr.below {M:Nat->Prop} {B:Nat} {W W':World} (h:Agr M W W') (hB:B<=W.heap.size) (hM:∀ b,M b->B<=b):Below B W W' :=
 ⟨h.low.os,h.low.tape,h.low.output,h.low.size,fun b hb=>h.same b (Nat.lt_of_lt_of_le hb hB) (fun e=>by have:=hM b e;omega)⟩
theorem Agr.putObj (M:Nat->Prop) (W:World) (b:Nat) (o:Obj) (h:M b):Agr M W (W.putObj b o) :=
 ⟨(Below.refl 0 W).grown (grownBy_putObj' W b o) (Nat.zero_le _) (fun _ _=>Nat.zero_le _),fun _ _ hn=>World.putObj_heap_other (fun e=>hn (e ▸ h))⟩
def Rests {α:Type} (J:List α->(Nat->Prop)->World->Prop):Prop:=∀ pre M W W',J pre M W->W.heap.size<=W'.heap.size->(∀ b,M b->W'.heap[b]?=W.heap[b]?)->J pre M W'
def Lies {α:Type} (J:List α->(Nat->Prop)->World->Prop):Prop:=∀ pre M W,J pre M W->∀ b,M b->b<W.heap.size
def ownPostM {α:Type} (M1:Nat->Prop) (I:List α->(Nat->Prop)->World->Prop) (Ix:Code->List α->(Nat->Prop)->World->Prop) (xs:List α) (W:World):Exit->Act->World->Prop
 | .normal,_,W'=>∃ M',(∀ b,M' b->M1 b\/W.heap.size<=b)/\Agr M1 W W'/\I xs M' W'
 | .ret,_,W'=>∃ M',(∀ b,M' b->M1 b\/W.heap.size<=b)/\Agr M1 W W'/\Ix .ret xs M' W'
 | .exit id,_,W'=>∃ M',(∀ b,M' b->M1 b\/W.heap.size<=b)/\Agr M1 W W'/\Ix (.exit id) xs M' W'
 | .goto t,_,W'=>∃ M',(∀ b,M' b->M1 b\/W.heap.size<=b)/\Agr M1 W W'/\Ix (.goto t) xs M' W'
 | .panic _,_,_=>False
 | .outgrown,_,_=>False
def RoundM {α:Type} (K:World->Prop) (F:Fence) (n:Nat) (P:Program) (l:Nat) (encs:α->Array Value) (Got:α->World->Prop) (own:α->Nat->Prop) (J Jx:List α->(Nat->Prop)->World->Prop):Prop :=
 ∀ pre M x W1,K W1->J pre M W1->Got x W1->(∀ b,own x b->b<W1.heap.size/\¬ M b)->YieldAt F n P l (encs x) W1 fun e W' =>
  ∃ M',(∀ b,M' b->(M b\/own x b)\/W1.heap.size<=b)/\Agr (fun b=>M b\/own x b) W1 W'/\((e=.returned (.bool true)/\J (pre++[x]) M' W')\/(e=.returned (.bool false)/\Jx (pre++[x]) M' W'))
def SeqM {α:Type} (F:Fence) (n:Nat) (P:Program) (g:Nat) (lb:Array Value) (encs:α->Array Value) (Got:α->World->Prop) (own:α->Nat->Prop) (n0:Nat) (Done Stop:List α->World->Prop) (M0:Nat->Prop) (W:World):Prop :=
 ∀ (l:Nat) (J Jx:List α->(Nat->Prop)->World->Prop),Rests J->Rests Jx->Lies J->Lies Jx->RoundM (Below n0 W) F (n - 1) P l encs Got own J Jx->J [] M0 W ->
  CallsIn F n P g (#[.func (.yield l) #[] #[]]++lb) W fun e W'=>(∃ v,e=.returned v)/\Below n0 W W'/\∃ M',((∃ xs,Done xs W'/\J xs M' W')\/(∃ pre,Stop pre W'/\Jx pre M' W'))
variable {F:Fence} {n:Nat} {P:Program}
theorem wpIn_rangeFunc_M {α:Type} {g:Operand} {ps:Array Tmp} {assign body:Code} {Q:Exit->Act->World->Prop} {a:Act} {w:World}
  (hro:F.round=none) (h1:1<=n) {gf:Nat} {lb:Array Value} (hg:a.eval g=.func (.func gf) #[] lb) (hFg:F.fn gf) (eg:∀ args w,(callFunc gf args).run P w=.ok (.enter gf args) w)
  {encs:α->Array Value} {Got:α->World->Prop} {own:α->Nat->Prop} {Done Stop:List α->World->Prop} {n0:Nat} {M0:Nat->Prop}
  (hseq:∀ W1,Below w.heap.size w W1->W1.heap.size=w.heap.size+2->SeqM F (n - 1) P gf lb encs Got own n0 Done Stop (fun b=>M0 b\/b=w.heap.size\/b=w.heap.size+1) W1)
  (hn0:n0<=w.heap.size) (hps:∀ x,(encs x).size=ps.size)
  (hGot:∀ x W W',Got x W->W.heap.size<=W'.heap.size->(∀ b,own x b->W'.heap[b]?=W.heap[b]?)->Got x W')
  (hDone:∀ xs W o,Done xs W->Done xs (W.putObj (w.heap.size+1) o)) (hStop:∀ xs W o,Stop xs W->Stop xs (W.putObj (w.heap.size+1) o))
  (I:List α->(Nat->Prop)->World->Prop) (Ix:Code->List α->(Nat->Prop)->World->Prop) (hI:Rests I) (hIx:∀ c,Rests (Ix c)) (hIl:Lies I) (hIxl:∀ c,Lies (Ix c)) (h0:I [] M0 w) (a₁:α->Act)
  (hassign:∀ (l:Nat) (x:α) (W:World) (K:Act->World->Prop),K (a₁ x) W ->
   assign.wpIn (F.inRound l) (n - 1 - 1) P (Exit.then K (fun _ _ _=>False)) { tmps:=(ps.zip (encs x)).foldl (fun t (p,v)=>t.setIfInBounds p v) a.tmps,defers:=[] } W)
  (hbody:∀ (l:Nat) (pre:List α) (M:Nat->Prop) (x:α) (W:World),I pre M W->Got x W->(∀ b,own x b->b<W.heap.size/\¬ M b)->w.heap.size<=W.heap.size->Below n0 w W ->
   body.wpIn (F.inRound l) (n - 1 - 1) P (ownPostM (fun b=>M b\/own x b) I Ix (pre++[x]) W) (a₁ x) W)
  (hdone:∀ (D:Nat) (xs:List α) (M:Nat->Prop) (W:World),Done xs W->I xs M W->W.heap[D]?=some (.deferred (some []))->w.heap.size<=D->¬ M D->Below n0 w W->Q .normal { a with defers:={ target:=.collected D,args:=#[] }::a.defers } W)
  (hstop:∀ (D:Nat) (c:Code) (pre:List α) (M:Nat->Prop) (W:World),Stop pre W->Ix c pre M W->W.heap[D]?=some (.deferred (some []))->w.heap.size<=D->¬ M D->Below n0 w W->c.wpIn F n P Q { a with defers:={ target:=.collected D,args:=#[] }::a.defers } W) :
  (Code.rangeFunc g ps assign body).wpIn F n P Q a w:=by
 refine wpIn_rangeFunc ?_
 intro fn hfn
 rw [hro]
 obtain ⟨rec,hrec⟩:∃ rec:LoopState->Option Code->Loop,rec=fun st pe=>{ state:=st,pending:=pe,fn,tmps:=a.tmps,params:=ps,assign,body,defers:=w.heap.size }:=⟨_,rfl⟩
 obtain ⟨W1,hW1⟩:∃ W1,(w.alloc (.deferred (some []))).alloc (.loop (rec .ready none))=W1:=⟨_,rfl⟩
 have hL1:W1.heap[w.heap.size+1]?=some (.loop (rec .ready none)):=by
  rw [<- hW1];have:=World.alloc_heap_new (w.alloc (.deferred (some []))) (.loop (rec .ready none));rwa [World.size_alloc] at this
 have hK1:W1.heap[w.heap.size]?=some (.deferred (some [])):=by
  rw [<- hW1];exact (Below.heap_alloc _ _ _ (by simp)).trans (World.alloc_heap_new w _)
 have hb1:Below w.heap.size w W1:=by
  rw [<- hW1];exact ((Below.refl _ w).alloc (rN _) _).alloc (by simp) _
 have hs1:W1.heap.size=w.heap.size+2:=by rw [<- hW1];simp
 have hI1:I [] M0 W1:=hI _ _ _ _ h0 hb1.size (fun b hb=>hb1.block b (hIl _ _ _ h0 b hb))
 refine ⟨w.heap.size+1,[{ target:=.collected w.heap.size,args:=#[] }],W1,{ target:=.fn (.func gf) lb,args:=#[.func (.yield (w.heap.size+1)) #[] #[]] },W1,gf,
  #[.func (.yield (w.heap.size+1)) #[] #[]]++lb,W1,?_,?_,?_,?_,fun _=>h1,?_⟩
 ·rw [<- hW1,hrec];exact run_enterLoop_outer _ _ _ _ _
 ·simp only [resolve,hg]
  simp [go_sem]
 ·intro f' hf';simp [Target.leads] at hf';subst hf';exact hFg
 ·simp [invoke,go_sem,eg]
 ·refine (hseq W1 hb1 hs1 (w.heap.size+1)
   (fun pre M W=>∃ M1:Nat->Prop,I pre M1 W/\(∀ b,M b↔M1 b\/b=w.heap.size\/b=w.heap.size+1)/\¬ M1 w.heap.size/\¬ M1 (w.heap.size+1)/\W.heap[w.heap.size+1]?=some (.loop (rec .ready none))/\W.heap[w.heap.size]?=some (.deferred (some [])))
   (fun pre M W=>∃ (M1:Nat->Prop) (c:Code),Ix c pre M1 W/\(∀ b,M b↔M1 b\/b=w.heap.size\/b=w.heap.size+1)/\¬ M1 w.heap.size/\¬ M1 (w.heap.size+1)/\W.heap[w.heap.size+1]?=some (.loop (rec .done (some c)))/\W.heap[w.heap.size]?=some (.deferred (some [])))
   ?_ ?_ ?_ ?_ ?_ ?_).mono ?_
  ·rintro pre M W W' ⟨M1,hi,hm,d1,d2,hl,hk⟩ hs hb
   exact ⟨M1,hI _ _ _ _ hi hs (fun b h=>hb b ((hm b).2 (.inl h))),hm,d1,d2,(hb _ ((hm _).2 (.inr (.inr rfl)))).trans hl,(hb _ ((hm _).2 (.inr (.inl rfl)))).trans hk⟩
  ·rintro pre M W W' ⟨M1,c,hi,hm,d1,d2,hl,hk⟩ hs hb
   exact ⟨M1,c,hIx _ _ _ _ _ hi hs (fun b h=>hb b ((hm b).2 (.inl h))),hm,d1,d2,(hb _ ((hm _).2 (.inr (.inr rfl)))).trans hl,(hb _ ((hm _).2 (.inr (.inl rfl)))).trans hk⟩
  ·rintro pre M W ⟨M1,hi,hm,d1,d2,hl,hk⟩ b hb
   rcases (hm b).1 hb with h | rfl | rfl
   ·exact hIl _ _ _ hi b h
   ·exact (Array.getElem?_eq_some_iff.1 hk).1
   ·exact (Array.getElem?_eq_some_iff.1 hl).1
  ·rintro pre M W ⟨M1,c,hi,hm,d1,d2,hl,hk⟩ b hb
   rcases (hm b).1 hb with h | rfl | rfl
   ·exact hIxl _ _ _ _ hi b h
   ·exact (Array.getElem?_eq_some_iff.1 hk).1
   ·exact (Array.getElem?_eq_some_iff.1 hl).1
  ·
   rintro pre M x W hbW ⟨M1,hi,hm,d1,d2,hl,hk⟩ hx hown
   have hlt:w.heap.size+1<W.heap.size:=(Array.getElem?_eq_some_iff.1 hl).1
   have hy:=run_yield (P:=P) (args:=encs x) hl (by rw [hrec];exact hps x)
   rw [hrec] at hy
   refine ⟨fn,_,assign,body,hy,roundIn_of_wpIn hfn (hassign _ x W _ ⟨_,run_beginRound hl (by rw [hrec]),?_⟩)⟩
   have hLo:¬ own x (w.heap.size+1):=fun h=>(hown _ h).2 ((hm _).2 (.inr (.inr rfl)))
   have hDo:¬ own x w.heap.size:=fun h=>(hown _ h).2 ((hm _).2 (.inr (.inl rfl)))
   have hl2:(W.putObj (w.heap.size+1) (.loop { rec .ready none with state:=.busy })).heap[w.heap.size+1]?=some (.loop { rec .ready none with state:=.busy }):=World.putObj_heap_same hlt
   have hk2:(W.putObj (w.heap.size+1) (.loop { rec .ready none with state:=.busy })).heap[w.heap.size]?=some (.deferred (some [])):=(World.putObj_heap_other (by omega)).trans hk
   have hs2:(W.putObj (w.heap.size+1) (.loop { rec .ready none with state:=.busy })).heap.size=W.heap.size:=by simp
   have hoth:∀ b,b≠w.heap.size+1->(W.putObj (w.heap.size+1) (.loop { rec .ready none with state:=.busy })).heap[b]?=W.heap[b]?:=fun b hb=>World.putObj_heap_other hb
   have hA2:Agr (fun b=>M b\/own x b) W (W.putObj (w.heap.size+1) (.loop { rec .ready none with state:=.busy })):=Agr.putObj _ _ _ _ (.inl ((hm _).2 (.inr (.inr rfl))))
   have hi2:I pre M1 (W.putObj (w.heap.size+1) (.loop { rec .ready none with state:=.busy })):=hI _ _ _ _ hi (Nat.le_of_eq hs2.symm) (fun b hb=>hoth b (fun e=>d2 (e ▸ hb)))
   have hx2:Got x (W.putObj (w.heap.size+1) (.loop { rec .ready none with state:=.busy })):=hGot x W _ hx (Nat.le_of_eq hs2.symm) (fun b hb=>hoth b (fun e=>hLo (e ▸ hb)))
   have hbw2:Below n0 w (W.putObj (w.heap.size+1) (.loop { rec .ready none with state:=.busy })):=((hb1.mono hn0).trans hbW).grown (grownBy_putObj' _ _ _) (by omega) (fun k e=>by cases e;omega)
   generalize hW2:(W.putObj (w.heap.size+1) (.loop { rec .ready none with state:=.busy }))=W2 at *
   clear hW2
   refine wpIn_mono (hbody _ pre M1 x _ hi2 hx2 (fun b hb=>⟨by rw [hs2];exact (hown b hb).1,fun e=>(hown b hb).2 ((hm b).2 (.inl e))⟩) (by omega) hbw2) ?_
   have fin:∀ (jump:Option Code) (W3:World) (M':Nat->Prop),(∀ b,M' b->(M1 b\/own x b)\/W2.heap.size<=b)->Agr (fun b=>M1 b\/own x b) W2 W3 ->
     (Instr.endRound (w.heap.size+1) jump).run P W3=.ok (.bool jump.isNone) (W3.putObj (w.heap.size+1) (.loop (rec (if jump.isNone then .ready else .done) jump))) /\
     (W3.putObj (w.heap.size+1) (.loop (rec (if jump.isNone then .ready else .done) jump))).heap[w.heap.size+1]?=some (.loop (rec (if jump.isNone then .ready else .done) jump)) /\
     (W3.putObj (w.heap.size+1) (.loop (rec (if jump.isNone then .ready else .done) jump))).heap[w.heap.size]?=some (.deferred (some [])) /\
     ¬ M' w.heap.size/\¬ M' (w.heap.size+1) /\
     (∀ b,M' b->(W3.putObj (w.heap.size+1) (.loop (rec (if jump.isNone then .ready else .done) jump))).heap[b]?=W3.heap[b]?) /\
     W3.heap.size<=(W3.putObj (w.heap.size+1) (.loop (rec (if jump.isNone then .ready else .done) jump))).heap.size /\
     (∀ b,(M' b\/b=w.heap.size\/b=w.heap.size+1)->(M b\/own x b)\/W.heap.size<=b) /\
     Agr (fun b=>M b\/own x b) W (W3.putObj (w.heap.size+1) (.loop (rec (if jump.isNone then .ready else .done) jump))):=fun jump W3 M' hM' hA=>by
    have hl3:W3.heap[w.heap.size+1]?=some (.loop { rec .ready none with state:=.busy }):=(hA.same _ (by omega) (by rintro (h | h);exact d2 h;exact hLo h)).trans hl2
    have hk3:W3.heap[w.heap.size]?=some (.deferred (some [])):=(hA.same _ (by omega) (by rintro (h | h);exact d1 h;exact hDo h)).trans hk2
    have:=run_endRound (P:=P) jump hl3
    rw [hrec] at this |-
    have nd1:¬ M' w.heap.size:=fun h=>by
     rcases hM' _ h with (h | h) | h
     ·exact d1 h
     ·exact hDo h
     ·omega
    have nd2:¬ M' (w.heap.size+1):=fun h=>by
     rcases hM' _ h with (h | h) | h
     ·exact d2 h
     ·exact hLo h
     ·omega
    refine ⟨this,World.putObj_heap_same (Array.getElem?_eq_some_iff.1 hl3).1,(World.putObj_heap_other (by omega)).trans hk3,nd1,nd2,fun b hb=>World.putObj_heap_other (fun e=>nd2 (e ▸ hb)),by simp,?_,?_⟩
    ·rintro b (h | rfl | rfl)
     ·rcases hM' b h with (h | h) | h
      ·exact .inl (.inl ((hm b).2 (.inl h)))
      ·exact .inl (.inr h)
      ·right;omega
     ·exact .inl (.inl ((hm _).2 (.inr (.inl rfl))))
     ·exact .inl (.inl ((hm _).2 (.inr (.inr rfl))))
    ·refine (hA2.trans hA (M'':=fun b=>M b\/own x b) (fun b _ h=>h) (fun b _ h=>?_)).trans (Agr.putObj (fun b=>M b\/own x b) W3 _ _ (.inl ((hm _).2 (.inr (.inr rfl))))) (fun b _ h=>h) (fun b _ h=>h)
     rcases h with h | h
     ·exact .inl ((hm b).2 (.inl h))
     ·exact .inr h
   rintro e a3 W3 hp
   cases e with
   | normal =>
    obtain ⟨M',hM',hA,hi3⟩:=hp
    obtain ⟨hr,hl4,hk4,n1,n2,hb4,hs4,hm4,hA4⟩:=fin none W3 M' hM' hA
    exact ⟨_,_,hr,_,hm4,hA4,.inl ⟨rfl,M',hI _ _ _ _ hi3 hs4 hb4,fun _=>Iff.rfl,n1,n2,hl4,hk4⟩⟩
   | ret =>
    obtain ⟨M',hM',hA,hi3⟩:=hp
    obtain ⟨hr,hl4,hk4,n1,n2,hb4,hs4,hm4,hA4⟩:=fin (some .ret) W3 M' hM' hA
    exact ⟨_,_,hr,_,hm4,hA4,.inr ⟨rfl,M',.ret,hIx _ _ _ _ _ hi3 hs4 hb4,fun _=>Iff.rfl,n1,n2,hl4,hk4⟩⟩
   | exit id =>
    obtain ⟨M',hM',hA,hi3⟩:=hp
    obtain ⟨hr,hl4,hk4,n1,n2,hb4,hs4,hm4,hA4⟩:=fin (some (.exit id)) W3 M' hM' hA
    exact ⟨_,_,hr,_,hm4,hA4,.inr ⟨rfl,M',.exit id,hIx _ _ _ _ _ hi3 hs4 hb4,fun _=>Iff.rfl,n1,n2,hl4,hk4⟩⟩
   | goto t =>
    obtain ⟨M',hM',hA,hi3⟩:=hp
    obtain ⟨hr,hl4,hk4,n1,n2,hb4,hs4,hm4,hA4⟩:=fin (some (.goto t)) W3 M' hM' hA
    exact ⟨_,_,hr,_,hm4,hA4,.inr ⟨rfl,M',.goto t,hIx _ _ _ _ _ hi3 hs4 hb4,fun _=>Iff.rfl,n1,n2,hl4,hk4⟩⟩
   | panic ch=>exact hp.elim
   | outgrown=>exact hp.elim
  ·exact ⟨M0,hI1,fun _=>Iff.rfl,fun h=>by have:=hIl _ _ _ h0 _ h;omega,fun h=>by have:=hIl _ _ _ h0 _ h;omega,hL1,hK1⟩
  ·
   rintro e W2 ⟨⟨v,rfl⟩,hB2,M',(⟨xs,hS,M1,hi,hm,d1,d2,hl,hk⟩ | ⟨pre,hSp,M1,c,hi,hm,d1,d2,hl,hk⟩)⟩
   ·refine ⟨none,_,by have:=run_endLoop (P:=P) hl (by rw [hrec];simp);rw [hrec] at this;exact this,hdone _ xs M1 _ (hDone _ _ _ hS) (hI _ _ _ _ hi (by simp) (fun b hb=>World.putObj_heap_other (fun e=>d2 (e ▸ hb)))) ((World.putObj_heap_other (by omega)).trans hk) (rN _) d1 ?_⟩
    exact ((hb1.mono hn0).trans hB2).grown (grownBy_putObj' _ _ _) (by have:=hB2.size;omega) (fun k e=>by cases e;omega)
   ·refine ⟨some c,_,by have:=run_endLoop (P:=P) hl (by rw [hrec];simp);rw [hrec] at this;exact this,hstop _ c pre M1 _ (hStop _ _ _ hSp) (hIx c _ _ _ _ hi (by simp) (fun b hb=>World.putObj_heap_other (fun e=>d2 (e ▸ hb)))) ((World.putObj_heap_other (by omega)).trans hk) (rN _) d1 ?_⟩
    exact ((hb1.mono hn0).trans hB2).grown (grownBy_putObj' _ _ _) (by have:=hB2.size;omega) (fun k e=>by cases e;omega)
end
section
open Go.RowKit
def RetSN (A B:List Rg) (w:World) (e:Ending) (w':World):Prop :=
 ∃ a1 c1 a2 c2,e=.returned (.tuple #[.slice a1 A.length c1,.slice a2 B.length c2])/\RgAt w' (.slice a1 A.length c1) A/\RgAt w' (.slice a2 B.length c2) B/\Below w.heap.size w w'/\(∀ b,(Value.slice a1 A.length c1).ownBlock=some b->w.heap.size<=b)/\∀ b,(Value.slice a2 B.length c2).ownBlock=some b->w.heap.size<=b
theorem minus_n (va vb:Value) (a b:List Rg) (w:World) (ha:RgAt w va a) (hb:RgAt w vb b) (hla:a.length<=4096) (hlb:b.length<=4096) :
  Calls Tryz.prog 70 #[va,vb] w (RetN (minusL a b) w):=by
 obtain ⟨ao,cap,rfl,_⟩:=ha.shape
 obtain ⟨ao2,cap2,rfl,_⟩:=hb.shape
 have HA:=hD ha
 have CB:=hD (compl_c _ b w hb hlb)
 have HE:=hD (minus_eq a b)
 have hlc:(complL b).length<=201:=canon_len _
 clear ha hb
 generalize complL b=cb at CB HE hlc
 generalize minusL a b=me at HE |-
 go_enter Tryz.func70,Tryz.ntmps70
 go_wp2_with (first
  | (go_at_call 93;(with_reducible refine CB.out.mono ?_);rintro e W ⟨a1,c1,rfl,hr1,hb1⟩;have CM:=hD (meet_n _ _ a cb W (HA.out.below hb1) hr1 hla (by omega));rw [HE.out] at CM;have HW:=hD hb1;clear hr1 hb1)
  | (go_at_call 34;(with_reducible refine CM.out.mono ?_);rintro e W2 ⟨a2,c2,rfl,hr2,hb2,hn2⟩))
 go_ret
 exact ⟨_,_,rfl,hr2,bT HW.out hb2,fun b h=>Nat.le_trans HW.out.size (hn2 b h)⟩
theorem rgAt_one (w:World) (a b:Int) (T:TypeId):RgAt (w.alloc (.cells #[.int .i64 a,.int .i64 b] T)) (.slice (some ⟨w.heap.size,0,none⟩) 1 1) [(a,b)]:=rgAt_lit2 w (a,b) T
theorem cell_al2 {w:World} {p:Addr} {v:Value} (h:w.cell? p=some v):∀ o,(w.alloc o).cell? p=some v:=fun o=>Lib.cell?_alloc_some o h
theorem rgAt_two (w:World) (o:Obj) (a b:Int) (T:TypeId):RgAt ((w.alloc o).alloc (.cells #[.int .i64 a,.int .i64 b] T)) (.slice (some ⟨w.heap.size+1,0,none⟩) 1 1) [(a,b)]:=by
 have h:=rgAt_one (w.alloc o) a b T
 rwa [show (w.alloc o).heap.size=w.heap.size+1 by simp] at h
set_option maxHeartbeats 3200000
theorem split_c (vd vw:Value) (sel ord br:Int) (d:List Rg) (w:World) (hd:RgAt w vd d) (hl:d.length<=4096) (ho:ord=0\/ord=1) (hb:br=0\/br=1) (aw:Option Addr) (nw cw:Nat) (hvw:vw=.slice aw nw cw) :
  Calls Tryz.prog 46 #[vd,.agg #[.int .i64 sel,.int .i64 ord,.int .i64 br,vw]] w (RetSN (splitL d ord br).1 (splitL d ord br).2 w):=by
 subst hvw
 obtain ⟨ao,cap,rfl,_⟩:=hd.shape
 have HZ:=hD (boxZ w (.int .i64 sel) (.int .i64 ord) (.int .i64 br) (.slice aw nw cw) 28)
 have HB:=hD (BoxL.mk' w #[.int .i64 sel,.int .i64 ord,.int .i64 br,.slice aw nw cw] 28)
 have HD:=hD hd
 have CS:=hD (size_c _ d _ (hd.below HZ.out) hl)
 by_cases h2:sizeL (norm d)<2
 ·have hs:splitL d ord br=([],[]):=by unfold splitL;rw [if_pos h2]
  rw [hs]
  clear hs hd
  generalize sizeL (norm d)=sz at *
  go_enter Tryz.func46,Tryz.ntmps46
  go_wp2_with (go_at_call 68;(with_reducible refine CS.out.mono ?_);rintro e W1 ⟨rfl,bb⟩;have B1:=hD (bT HZ.out bb);clear bb)
  go_ret2
  exact ⟨none,0,none,0,rfl,RgAt.nil,RgAt.nil,B1.out,fun b h=>(by cases h),fun b h=>(by cases h)⟩
 ·obtain ⟨b1,b2,b3,b4⟩:=ends_bnd d
  have hle:=two_ends d h2
  have CE:Hid (∀ W,Below w.heap.size w W->Calls Tryz.prog 45 #[.slice ao d.length cap] W fun e w'=>e=.returned (.tuple #[.int .i64 (endsL (norm d)).1,.int .i64 (endsL (norm d)).2.1,.bool (endsL (norm d)).2.2])/\Below W.heap.size W w'):=fun W h=>ends_c _ d W (hd.below h) hl
  obtain ⟨cc,hcc⟩:∃ cc,cc=cutAt ord br (endsL (norm d)).1 (endsL (norm d)).2.1:=⟨_,rfl⟩
  have CM:Hid (∀ vb W,Below w.heap.size w W->RgAt W vb [((endsL (norm d)).1,cc)]->Calls Tryz.prog 34 #[.slice ao d.length cap,vb] W (RetN (meetL d [((endsL (norm d)).1,cc)]) W)):=fun vb W h hb=>meet_n _ vb d _ W (hd.below h) hb hl (by simp)
  have CN:Hid (∀ vb W,Below w.heap.size w W->RgAt W vb [((endsL (norm d)).1,cc)]->Calls Tryz.prog 70 #[.slice ao d.length cap,vb] W (RetN (minusL d [((endsL (norm d)).1,cc)]) W)):=fun vb W h hb=>minus_n _ vb d _ W (hd.below h) hb hl (by simp)
  have hs:splitL d ord br=if ord=1 then (minusL d [((endsL (norm d)).1,cc)],meetL d [((endsL (norm d)).1,cc)]) else (meetL d [((endsL (norm d)).1,cc)],minusL d [((endsL (norm d)).1,cc)]):=by
   unfold splitL;rw [if_neg h2,hcc]
  rw [hs]
  clear hs hd HD
  unfold cutAt at hcc
  generalize (endsL (norm d)).2.2=ok at *
  generalize (endsL (norm d)).1=lo at *
  generalize (endsL (norm d)).2.1=hi at *
  generalize meetL d [(lo,cc)]=ME at *
  generalize minusL d [(lo,cc)]=MI at *
  generalize sizeL (norm d)=sz at *
  rcases hb with rfl | rfl
  ·rcases ho with rfl | rfl
   ·simp only [show ((0:Int)=1)=False by simp,if_false] at hcc |-
    subst hcc
    go_enter Tryz.func46,Tryz.ntmps46
    go_wp2_with (first
     | (go_at_call 68;(with_reducible refine CS.out.mono ?_);rintro e W1 ⟨rfl,bb⟩;have B1:=hD (bT HZ.out bb);have Q1:=hD bb;obtain ⟨l1,_⟩:=(HB.out.below bb (by simp)).get 1 rfl;obtain ⟨l2,_⟩:=(HB.out.below bb (by simp)).get 2 rfl;clear bb)
     | (go_at_call 45;(with_reducible refine (CE.out _ B1.out).mono ?_);rintro e W2 ⟨rfl,bb⟩;have B2:=hD (bT B1.out bb);have Q2:=hD (bT Q1.out bb);obtain ⟨m1,_⟩:=(HB.out.below Q2.out (by simp)).get 1 rfl;obtain ⟨m2,_⟩:=(HB.out.below Q2.out (by simp)).get 2 rfl;clear bb)
     | (go_at_call 34;(with_reducible refine (CM.out _ _ (bL B2.out _) (rgAt_one W2 _ _ _)).mono ?_);rintro e W3 ⟨a3,c3,rfl,r3,bb,n3⟩;have N3:Hid (∀ b,(Value.slice a3 ME.length c3).ownBlock=some b->w.heap.size<=b):=(fun b h=>Nat.le_trans (bL B2.out _).size (n3 b h));clear n3;have B3:=hD ((bL B2.out _).trans (bb.mono (bL B2.out _).size));have R3:=hD r3;have K3:=hD ((rgAt_one W2 _ _ _).below bb);have Q3:=hD ((bL Q2.out _).trans (bb.mono (bL Q2.out _).size));clear bb r3)
     | (go_at_call 70;(with_reducible refine (CN.out _ _ B3.out K3.out).mono ?_);rintro e W4 ⟨a4,c4,rfl,r4,bb,n4⟩;have N4:Hid (∀ b,(Value.slice a4 MI.length c4).ownBlock=some b->w.heap.size<=b):=(fun b h=>Nat.le_trans B3.out.size (n4 b h));clear n4;have B4:=hD (bT B3.out bb);have R4:=hD r4;have K4:=hD (R3.out.below bb);have Q4:=hD (bT Q3.out bb);obtain ⟨n1,_⟩:=(HB.out.below Q4.out (by simp)).get 1 rfl;clear bb r4))
    go_ret2
    exact ⟨_,_,_,_,rfl,K4.out,R4.out,B4.out,N3.out,N4.out⟩
   ·simp only [show ((0:Int)=1)=False by simp,if_true,if_false] at hcc |-
    subst hcc
    go_enter Tryz.func46,Tryz.ntmps46
    go_wp2_with (first
     | (go_at_call 68;(with_reducible refine CS.out.mono ?_);rintro e W1 ⟨rfl,bb⟩;have B1:=hD (bT HZ.out bb);have Q1:=hD bb;obtain ⟨l1,_⟩:=(HB.out.below bb (by simp)).get 1 rfl;obtain ⟨l2,_⟩:=(HB.out.below bb (by simp)).get 2 rfl;clear bb)
     | (go_at_call 45;(with_reducible refine (CE.out _ B1.out).mono ?_);rintro e W2 ⟨rfl,bb⟩;have B2:=hD (bT B1.out bb);have Q2:=hD (bT Q1.out bb);obtain ⟨m1,_⟩:=(HB.out.below Q2.out (by simp)).get 1 rfl;obtain ⟨m2,_⟩:=(HB.out.below Q2.out (by simp)).get 2 rfl;clear bb)
     | (go_at_call 34;(with_reducible refine (CM.out _ _ (bL B2.out _) (rgAt_one W2 _ _ _)).mono ?_);rintro e W3 ⟨a3,c3,rfl,r3,bb,n3⟩;have N3:Hid (∀ b,(Value.slice a3 ME.length c3).ownBlock=some b->w.heap.size<=b):=(fun b h=>Nat.le_trans (bL B2.out _).size (n3 b h));clear n3;have B3:=hD ((bL B2.out _).trans (bb.mono (bL B2.out _).size));have R3:=hD r3;have K3:=hD ((rgAt_one W2 _ _ _).below bb);have Q3:=hD ((bL Q2.out _).trans (bb.mono (bL Q2.out _).size));clear bb r3)
     | (go_at_call 70;(with_reducible refine (CN.out _ _ B3.out K3.out).mono ?_);rintro e W4 ⟨a4,c4,rfl,r4,bb,n4⟩;have N4:Hid (∀ b,(Value.slice a4 MI.length c4).ownBlock=some b->w.heap.size<=b):=(fun b h=>Nat.le_trans B3.out.size (n4 b h));clear n4;have B4:=hD (bT B3.out bb);have R4:=hD r4;have K4:=hD (R3.out.below bb);have Q4:=hD (bT Q3.out bb);obtain ⟨n1,_⟩:=(HB.out.below Q4.out (by simp)).get 1 rfl;clear bb r4))
    go_ret2
    exact ⟨_,_,_,_,rfl,R4.out,K4.out,B4.out,N4.out,N3.out⟩
  ·rcases ho with rfl | rfl
   ·simp only [show ((0:Int)=1)=False by simp,if_true,if_false] at hcc |-
    subst hcc
    go_enter Tryz.func46,Tryz.ntmps46
    go_wp2_with (first
     | (go_at_call 68;(with_reducible refine CS.out.mono ?_);rintro e W1 ⟨rfl,bb⟩;have B1:=hD (bT HZ.out bb);have Q1:=hD bb;obtain ⟨l1,_⟩:=(HB.out.below bb (by simp)).get 1 rfl;obtain ⟨l2,_⟩:=(HB.out.below bb (by simp)).get 2 rfl;clear bb)
     | (go_at_call 45;(with_reducible refine (CE.out _ B1.out).mono ?_);rintro e W2 ⟨rfl,bb⟩;have B2:=hD (bT B1.out bb);have Q2:=hD (bT Q1.out bb);obtain ⟨m1,_⟩:=(HB.out.below Q2.out (by simp)).get 1 rfl;obtain ⟨m2,_⟩:=(HB.out.below Q2.out (by simp)).get 2 rfl;clear bb)
     | (go_at_call 34;(with_reducible refine (CM.out _ _ (bL B2.out _) (rgAt_one W2 _ _ _)).mono ?_);rintro e W3 ⟨a3,c3,rfl,r3,bb,n3⟩;have N3:Hid (∀ b,(Value.slice a3 ME.length c3).ownBlock=some b->w.heap.size<=b):=(fun b h=>Nat.le_trans (bL B2.out _).size (n3 b h));clear n3;have B3:=hD ((bL B2.out _).trans (bb.mono (bL B2.out _).size));have R3:=hD r3;have K3:=hD ((rgAt_one W2 _ _ _).below bb);have Q3:=hD ((bL Q2.out _).trans (bb.mono (bL Q2.out _).size));clear bb r3)
     | (go_at_call 70;(with_reducible refine (CN.out _ _ B3.out K3.out).mono ?_);rintro e W4 ⟨a4,c4,rfl,r4,bb,n4⟩;have N4:Hid (∀ b,(Value.slice a4 MI.length c4).ownBlock=some b->w.heap.size<=b):=(fun b h=>Nat.le_trans B3.out.size (n4 b h));clear n4;have B4:=hD (bT B3.out bb);have R4:=hD r4;have K4:=hD (R3.out.below bb);have Q4:=hD (bT Q3.out bb);obtain ⟨n1,_⟩:=(HB.out.below Q4.out (by simp)).get 1 rfl;clear bb r4))
    go_ret2
    exact ⟨_,_,_,_,rfl,K4.out,R4.out,B4.out,N3.out,N4.out⟩
   ·simp only [if_true] at hcc |-
    subst hcc
    go_enter Tryz.func46,Tryz.ntmps46
    go_wp2_with (first
     | (go_at_call 68;(with_reducible refine CS.out.mono ?_);rintro e W1 ⟨rfl,bb⟩;have B1:=hD (bT HZ.out bb);have Q1:=hD bb;obtain ⟨l1,_⟩:=(HB.out.below bb (by simp)).get 1 rfl;obtain ⟨l2,_⟩:=(HB.out.below bb (by simp)).get 2 rfl;clear bb)
     | (go_at_call 45;(with_reducible refine (CE.out _ B1.out).mono ?_);rintro e W2 ⟨rfl,bb⟩;have B2:=hD (bT B1.out bb);have Q2:=hD (bT Q1.out bb);obtain ⟨m1,_⟩:=(HB.out.below Q2.out (by simp)).get 1 rfl;obtain ⟨m2,_⟩:=(HB.out.below Q2.out (by simp)).get 2 rfl;clear bb)
     | (go_at_call 34;(with_reducible refine (CM.out _ _ (bL B2.out _) (rgAt_one W2 _ _ _)).mono ?_);rintro e W3 ⟨a3,c3,rfl,r3,bb,n3⟩;have N3:Hid (∀ b,(Value.slice a3 ME.length c3).ownBlock=some b->w.heap.size<=b):=(fun b h=>Nat.le_trans (bL B2.out _).size (n3 b h));clear n3;have B3:=hD ((bL B2.out _).trans (bb.mono (bL B2.out _).size));have R3:=hD r3;have K3:=hD ((rgAt_one W2 _ _ _).below bb);have Q3:=hD ((bL Q2.out _).trans (bb.mono (bL Q2.out _).size));clear bb r3)
     | (go_at_call 70;(with_reducible refine (CN.out _ _ B3.out K3.out).mono ?_);rintro e W4 ⟨a4,c4,rfl,r4,bb,n4⟩;have N4:Hid (∀ b,(Value.slice a4 MI.length c4).ownBlock=some b->w.heap.size<=b):=(fun b h=>Nat.le_trans B3.out.size (n4 b h));clear n4;have B4:=hD (bT B3.out bb);have R4:=hD r4;have K4:=hD (R3.out.below bb);have Q4:=hD (bT Q3.out bb);obtain ⟨n1,_⟩:=(HB.out.below Q4.out (by simp)).get 1 rfl;clear bb r4))
    go_ret2
    exact ⟨_,_,_,_,rfl,R4.out,K4.out,B4.out,N4.out,N3.out⟩
end
end Go.Proofs.YtaekdgikgbdnnaaGreat
