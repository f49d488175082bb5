/-
  label.Solve, walked, where it may begin.
  PLAIN LAWS of the search from the leftmost variable on: its answers stand in order; no program.
  The value in a place; whether a sum stands so: the program's and the reference's, walked.
  The reference's value and whether a sum stands so; a product, a told sum; walked.
  A told sum, walked.
  Whether variables are unlike (by a map of what was seen), walked.
  rel.Holds by its four kinds, walked.
  coneyref16.Holds by its four kinds, walked.
  fix.Holds and coneyref17.Holds, walked.
  PLAIN LAWS: all values of some domains, one list behind the other; no program.
  What the laws of layer 19 begin with: the bound, the check, all variables, the plain options.
  All variables of a problem; every list of values for which all constraints hold, walked.
  PLAIN LAWS of what Solve finds with all variables labeled; no program.
  PLAIN LAWS of the search for the least: what is found holds, and where nothing is found nothing holds; no program.
  PLAIN LAWS for the document's search, node by node; no program.
-/
import Derived.Test.YtaekdgikgbdnnaaGreatKref11
import Derived.Test.YtaekdgikgbdnnaaGreatKref10
import Derived.Test.YtaekdgikgbdnnaaGreatKref2
import Derived.Test.YtaekdgikgbdnnaaGreatKonce1
import Derived.Test.YtaekdgikgbdnnaaGreatKdom3
import Derived.Deep.QuietTactic
import Derived.BigQuiet
import Derived.Test.YtaekdgikgbdnnaaGreatKlib1
import Derived.Test.YtaekdgikgbdnnaaGreatKref4
import Derived.Test.YtaekdgikgbdnnaaGreatKdom1
import Derived.Test.YtaekdgikgbdnnaaGreatKref9
namespace Go.Proofs.YtaekdgikgbdnnaaGreat
section
open Go.RowKit
def SolveR (r:List (List Int)×Nat×Bool) (w:World) (e:Ending) (w':World):Prop :=
 Below w.heap.size w w'/\((r.2.2=true/\e=.returned (.tuple #[.slice none 0 0,.int .i64 34]))\/(r.2.2=false/\∃ ao cap,e=.returned (.tuple #[.slice ao r.1.length cap,.int .i64 0])/\LsFrom w.heap.size w' (.slice ao r.1.length cap) r.1))
theorem labChk_sound {sel ord br:Int} {n:Nat} (h:labChk sel ord br n=0):(sel=0\/sel=1\/sel=2\/sel=3\/sel=4)/\(ord=0\/ord=1)/\(br=0\/br=1):=by
 unfold labChk at h
 split at h
 ·cases h
 ·omega
attribute [local go_sem] Oper.semAt_some
set_option maxRecDepth 1000000
set_option maxHeartbeats 3200000
theorem solve_ok (vds vps vv vw:Value) (o:SOpt) (ds:Ds) (ps:List PL) (vars:List Int) (most nodes:Nat) (w:World) (hd:DsAt w vds ds) (hp:PsAt w vps ps) (hv:IsAt w vv vars) (hw:IsAt w vw o.ws)
  (hin:FixIn ds ps) (hlc:labChk o.sel o.ord o.br o.ws.length=0) (hfc:fixChk ds.length ps=0) (hvl:vars.length<=64) (hvi:∀ v∈vars,0<=v/\v.toNat<ds.length) (h1:1<=most) (h2:most<=1000) (h3:1<=nodes) (h4:nodes<=10000) :
  Calls Tryz.prog 13 #[vds,vps,vv,.agg #[.int .i64 o.sel,.int .i64 o.ord,.int .i64 o.br,vw],.int .i64 most,.int .i64 nodes] w (SolveR (findR ps vars o most nodes [ds]) w):=by
 obtain ⟨a0,c0,rfl,_⟩:=hd.shape
 obtain ⟨a1,c1,rfl,_⟩:=hp.shape
 obtain ⟨a2,c2,rfl,_⟩:=hv.shape'
 obtain ⟨a3,c3,rfl,_⟩:=hw.shape'
 obtain ⟨W0,hW0⟩:∃ W0,W0=(w.alloc (.cells #[.int .i64 o.sel,.int .i64 o.ord,.int .i64 o.br,.slice a3 o.ws.length c3] 28)).alloc (.cells #[.int .i64 most] 3):=⟨_,rfl⟩
 have hz0:=boxZ w (.int .i64 o.sel) (.int .i64 o.ord) (.int .i64 o.br) (.slice a3 o.ws.length c3) 28
 have B0:Hid (Below w.heap.size w W0):=by rw [hW0];exact bL hz0 _
 have hx0:BoxL W0 w.heap.size [.int .i64 o.sel,.int .i64 o.ord,.int .i64 o.br,.slice a3 o.ws.length c3]:=by
  rw [hW0]
  exact (BoxL.mk' w #[.int .i64 o.sel,.int .i64 o.ord,.int .i64 o.br,.slice a3 o.ws.length c3] 28).below (bA _) (by simp)
 have hx1:W0.cell? ⟨w.heap.size+1,0,none⟩=some (.int .i64 most):=by
  have h:=((BoxL.mk' (w.alloc (.cells #[.int .i64 o.sel,.int .i64 o.ord,.int .i64 o.br,.slice a3 o.ws.length c3] 28)) #[.int .i64 most] 3).get 0 rfl).1
  rw [show (w.alloc (.cells #[.int .i64 o.sel,.int .i64 o.ord,.int .i64 o.br,.slice a3 o.ws.length c3] 28)).heap.size=w.heap.size+1 by simp,<- hW0] at h
  exact h
 have hs0:W0.heap.size=w.heap.size+2:=by rw [hW0];simp
 have CB:=hD (begin_ok (.slice a0 ds.length c0) (.slice a1 ps.length c1) (.slice a2 vars.length c2) (.slice a3 o.ws.length c3) o.sel o.ord o.br ds ps vars o.ws most nodes W0 (hd.below B0.out) (hp.below B0.out) (hv.below B0.out) (hw.below B0.out) hin.ok hlc hfc hvl hvi (by omega) (by omega) (by omega) (by omega))
 obtain ⟨l0,_⟩:=hx0.get 0 rfl
 obtain ⟨l1,_⟩:=hx0.get 1 rfl
 obtain ⟨l2,_⟩:=hx0.get 2 rfl
 obtain ⟨l3,_⟩:=hx0.get 3 rfl
 have HD:=hD hd
 have HP:=hD hp
 have HV:=hD hv
 have HW:=hD hw
 have HIN:=hD hin
 have HVI:=hD hvi
 have HLC:=hD hlc
 have HWE:=hD hW0
 have HS0:=hD hs0
 have HX1:=hD hx1
 clear hd hp hv hw hin hlc hfc hvi hW0 hz0 hx0 hs0
 refine (callsIn_wide (n:=3)).1 (callsIn_of_wp_marks Tryz.func13 rfl trivial ?_ rfl)
 refine wpIn_wide.2 ?_
 simp only [Tryz.ntmps13,List.size_toArray,List.length_cons,List.length_nil,Nat.reduceAdd,Nat.reduceSub,Array.replicate_succ,Array.replicate_zero,List.push_toArray,List.append_toArray,List.nil_append,List.cons_append]
 go_upto_region 1 with fail
 rw [<- HWE.out]
 go_upto_region 4 with (go_at_call 26;(with_reducible refine CB.out.mono ?_);rintro e W1 ⟨sb,rfl,hsb,hsr,b1⟩;have B1:=hD b1;have SR:=hD hsr;have HSB:=hD hsb;clear b1 hsr hsb)
 have hsl:=SR.out.lt
 obtain ⟨W2,hW2⟩:∃ W2,W2=W1.alloc (.cells #[.slice none 0 0] 32):=⟨_,rfl⟩
 have BW2:Hid (Below W1.heap.size W1 W2):=by rw [hW2];exact bA _
 have hb2:=BoxL.mk' W1 #[.slice none 0 0] 32
 rw [<- hW2] at hb2
 have HB2:=hD hb2
 have hs2:Hid (W2.heap.size=W1.heap.size+1):=by show _=_;rw [hW2];simp
 have HW2:=hD hW2
 have CA:Hid (Calls Tryz.prog 27 #[.pointer (some ⟨sb,0,none⟩),.slice a0 ds.length c0] W2 fun e w'=>e=.returned (.func (.func 42) #[] #[.pointer (some ⟨W2.heap.size+1,0,none⟩),.pointer (some ⟨W2.heap.size,0,none⟩)]) /\
   w'.cell? ⟨W2.heap.size,0,none⟩=some (.pointer (some ⟨sb,0,none⟩))/\w'.cell? ⟨W2.heap.size+1,0,none⟩=some (.slice a0 ds.length c0)/\Below W2.heap.size W2 w'/\w'.heap.size=W2.heap.size+2):=answers_c sb _ W2 a0 ds.length c0 rfl
 obtain ⟨HS,hHS⟩:∃ HS,HS=W2.heap.size:=⟨_,rfl⟩
 rw [<- hHS] at CA
 have HHS:=hD hHS
 clear hb2 hW2 hHS
 go_upto_region 5 with fail
 rw [<- HW2.out]
 go_wp2_with (go_at_call 27;(with_reducible refine CA.out.mono ?_);rintro e W3 ⟨rfl,x0,x1,b3,s3⟩;have X0:=hD x0;have X1:=hD x1;have B3:=hD b3;have S3:=hD s3;clear x0 x1 b3 s3)
 have HOB:Hid (W1.heap.size+1=HS):=by show _=_;rw [HHS.out,hs2.out]
 have hsb:=HSB.out
 have hs0:=HS0.out
 have B1s:=B1.out.size
 have S3':=S3.out
 have B3':Below W2.heap.size W2 W3:=by rw [<- HHS.out];exact B3.out
 have BW3:Hid (Below W1.heap.size W1 W3):=bT BW2.out B3'
 have BIN:Hid (Below w.heap.size w W3):=(bT B0.out B1.out).trans (BW3.out.mono (Nat.le_trans B0.out.size B1s))
 have SR3:=hD (SR.out.on (BW3.out.block _ hsl))
 have hob3:W3.cell? ⟨W1.heap.size,0,none⟩=some (.slice none 0 0):=(B3'.cell (p:=⟨W1.heap.size,0,none⟩) (by have:=hs2.out;dsimp only;omega)).trans (HB2.out.get 0 rfl).1
 have hof3:W3.frozen? ⟨W1.heap.size,0,none⟩=false:=(B3'.frozen (p:=⟨W1.heap.size,0,none⟩) (by have:=hs2.out;dsimp only;omega)).trans (HB2.out.get 0 rfl).2
 have hbm3:W3.cell? ⟨w.heap.size+1,0,none⟩=some (.int .i64 most):=(BW3.out.cell (p:=⟨w.heap.size+1,0,none⟩) (by dsimp only;omega)).trans ((B1.out.cell (p:=⟨w.heap.size+1,0,none⟩) (by dsimp only;omega)).trans HX1.out)
 have hob1:=HOB.out
 have I0:Hid (OutW w.heap.size W1.heap.size (w.heap.size+1) most W3 [] (fun b=>b=W1.heap.size\/b=w.heap.size+1)) :=
  ⟨⟨_,hob3,hof3,World.ownsRow_nil _ _ _ _,fun b e=>(by cases e),fun x hx=>(by cases hx)⟩,hbm3,.inl rfl,.inr rfl,by omega,by omega,fun b hb=>by rcases hb with rfl | rfl <;> omega⟩
 obtain ⟨hse,hor,hbr⟩:=labChk_sound HLC.out
 have HSEQ:Hid (∀ W',Below W3.heap.size W3 W'->W'.heap.size=W3.heap.size+2->SeqM Fence.wide 2 Tryz.prog 42 #[.pointer (some ⟨HS+1,0,none⟩),.pointer (some ⟨HS,0,none⟩)] (fun x=>#[x.1]) (GotI w.heap.size sb vars.length) ownI w.heap.size (AnsDone ps vars o nodes ds sb (.slice a1 ps.length c1) (.slice a2 vars.length c2) (.slice a3 o.ws.length c3)) (AnsStop ps vars o nodes ds sb (.slice a1 ps.length c1) (.slice a2 vars.length c2) (.slice a3 o.ws.length c3)) (fun b=>(b=W1.heap.size\/b=w.heap.size+1)\/b=W3.heap.size\/b=W3.heap.size+1) W'):=fun W' hb _=>by
  have hbi:=bT BIN.out hb
  have hx0:=X0.out
  have hx1:=X1.out
  refine answers_seq w W' (HS+1) HS sb (.slice a0 ds.length c0) (.slice a1 ps.length c1) (.slice a2 vars.length c2) (.slice a3 o.ws.length c3) ds ps vars o nodes _ ⟨HP.out,HV.out,HW.out,hbi,SR3.out.on (hb.block _ (by omega)),(hb.cell (p:=⟨HS,0,none⟩) (by dsimp only;omega)).trans hx0,(hb.cell (p:=⟨HS+1,0,none⟩) (by dsimp only;omega)).trans hx1,
   DsQ.of_input HD.out hbi (fun b hb'=>⟨fun e=>by omega,by omega⟩),by omega,by omega,fun e=>by omega,fun e=>by omega,fun b e=>by omega,HIN.out,HVI.out,hvl,h4,hse,hor,hbr⟩ 2
 clear hob3 hof3 hbm3 SR3 hse hor hbr
 refine (wpIn_wide (n:=3)).1 ?_
 refine wpIn_rangeFunc_M rfl (by decide) (gf:=42) (lb:=#[.pointer (some ⟨HS+1,0,none⟩),.pointer (some ⟨HS,0,none⟩)]) rfl trivial (enters_of Tryz.func42 (by kernel_rfl) rfl)
  (encs:=fun x:Value×List Int=>#[x.1]) (Got:=GotI w.heap.size sb vars.length) (own:=ownI) (n0:=w.heap.size) (M0:=fun b=>b=W1.heap.size\/b=w.heap.size+1) HSEQ.out BIN.out.size (fun _=>rfl)
  (fun x W W' h hs hb=>⟨SlAt.ownB h.1 hs (fun b _ e=>hb b e),h.2⟩)
  (fun xs W o' ⟨k,n,ov,h,h'⟩=>⟨k,n,ov,h.on (World.putObj_heap_other (by omega)),h'⟩) (fun xs W o' ⟨n,h,h'⟩=>⟨n,h.on (World.putObj_heap_other (by omega)),h'⟩)
  (fun pre M W=>OutW w.heap.size W1.heap.size (w.heap.size+1) most W pre M/\pre.length<most) (fun c pre M W=>c=.exit 0/\OutW w.heap.size W1.heap.size (w.heap.size+1) most W pre M/\pre.length=most)
  (fun pre M W W' h hs hb=>⟨h.1.rest hs hb,h.2⟩) (fun c pre M W W' h hs hb=>⟨h.1,h.2.1.rest hs hb,h.2.2⟩) (fun pre M W h=>h.1.lt) (fun c pre M W h=>h.2.1.lt) ⟨I0.out,by simp;omega⟩
  (fun x=>{ tmps:=#[.slice a0 ds.length c0,.slice a1 ps.length c1,.slice a2 vars.length c2,.agg #[.int .i64 o.sel,.int .i64 o.ord,.int .i64 o.br,.slice a3 o.ws.length c3],.int .i64 most,.int .i64 nodes,undef,undef,undef,.pointer (some ⟨w.heap.size,0,none⟩),.pointer (some ⟨w.heap.size+1,0,none⟩),undef,.slice none 0 0,.int .i64 0,.pointer (some ⟨sb,0,none⟩),.int .i64 0,.pointer (some ⟨W1.heap.size,0,none⟩),x.1,.tuple #[.pointer (some ⟨sb,0,none⟩),.int .i64 0],.slice a0 ds.length c0,.slice a1 ps.length c1,.slice a2 vars.length c2,.agg #[.int .i64 o.sel,.int .i64 o.ord,.int .i64 o.br,.slice a3 o.ws.length c3],.int .i64 most,.int .i64 nodes,.tuple #[.pointer (some ⟨sb,0,none⟩),.int .i64 0],.pointer (some ⟨sb,0,none⟩),.int .i64 0,.int .i64 0,.bool false,undef,.pointer (some ⟨sb,0,none⟩),.slice a0 ds.length c0,.func (.func 42) #[] #[.pointer (some ⟨HS+1,0,none⟩),.pointer (some ⟨HS,0,none⟩)],x.1,undef,undef,undef,undef,undef,undef,undef,undef,undef,undef,undef,undef,undef],defers:=[] }) ?assign ?body ?done ?stop
 case assign =>
  intro l x W K hK
  gi_wp2
  exact hK
 case body =>
  rintro l pre M ⟨vx,xs⟩ W ⟨hO,hlen⟩ hx hown hsz _
  obtain ⟨v,hc,hf,hrow,hvm,hel⟩:=hO.row
  have hx':IsAt W vx xs:=hx.1
  obtain ⟨ax,cx,rfl,_⟩:=SlAt.shape hx'
  obtain ⟨av,cv,rfl,_⟩:=(SlAt.of_own hrow).shape
  dsimp only
  have hmc:=hO.mc
  have hob:=hO.lt _ hO.mo
  have hbm:=hO.lt _ hO.mb
  have hlo:=hO.lo
  obtain ⟨t0,ht,hz0',hz1',hz2'⟩:=info_parts Tryz.infoInts
  have hxo:(Value.slice ax xs.length cx).oneCell'=true:=rfl
  have hvob:(Value.slice av pre.length cv).ownBlock≠some W1.heap.size:=fun e=>by have:=(own_lt hrow e).2;omega
  have hvbm:(Value.slice av pre.length cv).ownBlock≠some (w.heap.size+1):=fun e=>by have:=(own_lt hrow e).2;omega
  have HO:=hD hO
  have HX:=hD hx
  have HOW:=hD hown
  have HC:=hD hc
  clear hel hvm hO hx hown hx'
  have hx1':∀ o',(W.alloc o').cell? ⟨w.heap.size+1,0,none⟩=some (.int .i64 most):=fun o'=>Lib.cell?_alloc_some o' hmc
  by_cases hm:pre.length+1=most
  ·have hq:(((pre.length:Int)+1)==(most:Int))=true:=by rw [<- hm];simp
   have HM:=hD hm
   clear hm
   gi_wp2_with (gi_at_builtin;refine wpListIn_append_own_at _ rfl (.tmp 35) (.tmp 37) 32 rfl (W1.heap.size+1) 26 t0 (.slice none 0 0) 1 24 Tryz.underlying32 ht hz0' hz1' hz2' rfl (by decide) (.slice av pre.length cv) pre.length (pre.map Prod.fst) rfl (hrow.alloc _) ⟨W.heap.size,0,none⟩ 1 1 [.slice ax xs.length cx] rfl rfl (cell_one_new _ _ _) (one1 hxo) (by unfold maxLen;omega) (by omega) (by simp;omega) ?_;intro v' w1 r1 r2 r3 r4;obtain ⟨g,cap,rfl,_,_⟩:=r1.form (Nat.succ_pos _);have hw1:(∀ b,b<W.heap.size->(Value.slice av pre.length cv).ownBlock≠some b->w1.heap[b]?=W.heap[b]?):=(fun b hb hne=>(r2.block b (by simp;omega) (fun e=>hne e.symm)).trans (Below.heap_alloc W _ b hb));have k1:=(World.cell?_of_block (a:=⟨W1.heap.size,0,none⟩) (hw1 _ hob hvob)).trans hc;have k1f:=(World.frozen?_of_block (a:=⟨W1.heap.size,0,none⟩) (hw1 _ hob hvob)).trans hf;have k2:(∀ u,(w1.setCell ⟨W1.heap.size,0,none⟩ u).cell? ⟨W1.heap.size,0,none⟩=some u):=(fun u=>World.cell?_setCell_same _ _ _ k1);have k3:(∀ u,(w1.setCell ⟨W1.heap.size,0,none⟩ u).cell? ⟨w.heap.size+1,0,none⟩=some (.int .i64 most)):=(fun u=>(World.cell?_of_block (a:=⟨w.heap.size+1,0,none⟩) (((setCell_blk w1 ⟨W1.heap.size,0,none⟩ u).2 _ (by dsimp only;omega)).trans (hw1 _ hbm hvbm))).trans hmc))
   obtain ⟨M',p1,p2,p3⟩:=OutW.push HO.out HC.out HX.out HOW.out r1 r2 r4
   exact ⟨M',p1,p2,rfl,p3,by rw [List.length_append];exact HM.out⟩
  ·have hq:(((pre.length:Int)+1)==(most:Int))=false:=by simp;omega
   have HM:=hD hm
   clear hm
   gi_wp2_with (gi_at_builtin;refine wpListIn_append_own_at _ rfl (.tmp 35) (.tmp 37) 32 rfl (W1.heap.size+1) 26 t0 (.slice none 0 0) 1 24 Tryz.underlying32 ht hz0' hz1' hz2' rfl (by decide) (.slice av pre.length cv) pre.length (pre.map Prod.fst) rfl (hrow.alloc _) ⟨W.heap.size,0,none⟩ 1 1 [.slice ax xs.length cx] rfl rfl (cell_one_new _ _ _) (one1 hxo) (by unfold maxLen;omega) (by omega) (by simp;omega) ?_;intro v' w1 r1 r2 r3 r4;obtain ⟨g,cap,rfl,_,_⟩:=r1.form (Nat.succ_pos _);have hw1:(∀ b,b<W.heap.size->(Value.slice av pre.length cv).ownBlock≠some b->w1.heap[b]?=W.heap[b]?):=(fun b hb hne=>(r2.block b (by simp;omega) (fun e=>hne e.symm)).trans (Below.heap_alloc W _ b hb));have k1:=(World.cell?_of_block (a:=⟨W1.heap.size,0,none⟩) (hw1 _ hob hvob)).trans hc;have k1f:=(World.frozen?_of_block (a:=⟨W1.heap.size,0,none⟩) (hw1 _ hob hvob)).trans hf;have k2:(∀ u,(w1.setCell ⟨W1.heap.size,0,none⟩ u).cell? ⟨W1.heap.size,0,none⟩=some u):=(fun u=>World.cell?_setCell_same _ _ _ k1);have k3:(∀ u,(w1.setCell ⟨W1.heap.size,0,none⟩ u).cell? ⟨w.heap.size+1,0,none⟩=some (.int .i64 most)):=(fun u=>(World.cell?_of_block (a:=⟨w.heap.size+1,0,none⟩) (((setCell_blk w1 ⟨W1.heap.size,0,none⟩ u).2 _ (by dsimp only;omega)).trans (hw1 _ hbm hvbm))).trans hmc))
   obtain ⟨M',p1,p2,p3⟩:=OutW.push HO.out HC.out HX.out HOW.out r1 r2 r4
   exact ⟨M',p1,p2,p3,by rw [List.length_append];have:=HM.out;show pre.length+1<most;omega⟩
 case done =>
  rintro D xs M W ⟨k,n,ov,hs,_,hr⟩ ⟨hO,hlen⟩ hK hDl hDm hB
  have c7:=hs.c7
  have hr2:=hr (most - xs.length - 1)
  rw [show xs.length+(most - xs.length - 1+1)=most by omega] at hr2
  have hbo:Below w.heap.size w (W.putObj D (.deferred none)):=(BIN.out.trans hB).grown (grownBy_putObj' _ _ _) (by have:=(BIN.out.trans hB).size;omega) (fun k e=>by cases e;have:=BIN.out.size;omega)
  have hO2:OutW w.heap.size W1.heap.size (w.heap.size+1) most (W.putObj D (.deferred none)) xs M:=hO.rest (by simp) (fun b hm=>World.putObj_heap_other (fun e=>hDm (by rw [<- e];exact hm)))
  obtain ⟨ao,cap,hco,hls⟩:=hO2.ls
  have hx:W.cell? ⟨W1.heap.size,0,none⟩=some (.slice ao xs.length cap):=(World.cell?_of_block (a:=⟨W1.heap.size,0,none⟩) (World.putObj_heap_other (w:=W) (o:=.deferred none) (fun e=>hDm (by rw [<- e];exact hO.mo)))).symm.trans hco
  have HR2:=hD hr2
  have HBO:=hD hbo
  have HLS:=hD hls
  clear hr hr2 hbo hO hO2 hs hls hB
  cases ov with
  | true =>
   go_wp2
   refine ⟨by simp,.inl ⟨_,_,rfl,run_takeDeferred hK,?_⟩⟩
   refine ⟨_,by simp [results,Tryz.results13,go_sem];rfl,?_⟩
   rw [HR2.out]
   exact ⟨HBO.out,.inl ⟨rfl,rfl⟩⟩
  | false =>
   go_wp2
   refine ⟨by simp,.inl ⟨_,_,rfl,run_takeDeferred hK,?_⟩⟩
   refine ⟨_,by simp [results,Tryz.results13,go_sem];rfl,?_⟩
   rw [HR2.out]
   exact ⟨HBO.out,.inr ⟨rfl,ao,cap,by rw [List.length_map],by rw [List.length_map];exact HLS.out⟩⟩
 case stop =>
  rintro D c pre M W ⟨n,hs,hr⟩ ⟨rfl,hO,hlen⟩ hK hDl hDm hB
  have c7:=hs.c7
  rw [hlen] at hr
  have hbo:Below w.heap.size w (W.putObj D (.deferred none)):=(BIN.out.trans hB).grown (grownBy_putObj' _ _ _) (by have:=(BIN.out.trans hB).size;omega) (fun k e=>by cases e;have:=BIN.out.size;omega)
  have hO2:OutW w.heap.size W1.heap.size (w.heap.size+1) most (W.putObj D (.deferred none)) pre M:=hO.rest (by simp) (fun b hm=>World.putObj_heap_other (fun e=>hDm (by rw [<- e];exact hm)))
  obtain ⟨ao,cap,hco,hls⟩:=hO2.ls
  have hx:W.cell? ⟨W1.heap.size,0,none⟩=some (.slice ao pre.length cap):=(World.cell?_of_block (a:=⟨W1.heap.size,0,none⟩) (World.putObj_heap_other (w:=W) (o:=.deferred none) (fun e=>hDm (by rw [<- e];exact hO.mo)))).symm.trans hco
  have HR2:=hD hr
  have HBO:=hD hbo
  have HLS:=hD hls
  clear hr hbo hO hO2 hs hls hB hlen
  refine wpIn_exit ?_
  go_wp2
  refine ⟨by simp,.inl ⟨_,_,rfl,run_takeDeferred hK,?_⟩⟩
  refine ⟨_,by simp [results,Tryz.results13,go_sem];rfl,?_⟩
  rw [HR2.out]
  exact ⟨HBO.out,.inr ⟨rfl,ao,cap,by rw [List.length_map],by rw [List.length_map];exact HLS.out⟩⟩
end
section

end
section
open Go.RowKit







end
section

end
section
open Go.RowKit
def big19 (d:List Rg):Bool:=decide (4<d.length)||decide (60<sizeL (norm d))
def bigP19 (p:PL):Bool:=decide (4<p.vars.length)||decide (4<p.coef.length)||decide (5<p.vs.length)
def prodI:Ds->Int
 | []=>1
 | d::D=>sizeL (norm d) * prodI D
theorem size_nn (d:List Rg):0<=sizeL (norm d)/\sizeL (norm d)<=401:=by unfold norm;rw [sizeL_canon];exact cnt_nonneg _ 401 (-200)
theorem prodI_snoc:∀ (D:Ds) (d:List Rg),prodI (D++[d])=prodI D * sizeL (norm d)
 | [],d=>by simp [prodI]
 | e::D,d=>by
  show sizeL (norm e) * prodI (D++[d])=sizeL (norm e) * prodI D * sizeL (norm d)
  rw [prodI_snoc D d,Int.mul_assoc]
theorem prodI_take (ds:Ds) (k:Nat) (hk:k<ds.length):prodI (ds.take (k+1))=prodI (ds.take k) * sizeL (norm ds[k]):=by
 rw [List.take_succ_eq_append_getElem hk,prodI_snoc]
def many19 (ds:Ds) (ps:List PL):Bool:=decide (4<ds.length)||decide (5<ps.length)||ds.any big19||ps.any bigP19||decide (200<prodI ds)
theorem many19_17 {ds:Ds} {ps:List PL} (h:many19 ds ps=false):many17 ds ps=false/\ds.length<=4/\prodI ds<=200/\(∀ d∈ds,d.length<=4/\sizeL (norm d)<=60)/\ps.length<=5:=by
 simp only [many19,big19,bigP19,Bool.or_eq_false_iff,decide_eq_false_iff_not,List.any_eq_false,decide_eq_true_eq,Bool.or_eq_true,not_or] at h
 obtain ⟨⟨⟨⟨h1,h2⟩,h3⟩,h4⟩,h5⟩:=h
 refine ⟨?_,by omega,by omega,fun d hd=>by have:=h3 d hd;omega,by omega⟩
 simp only [many17,bigD,bigP,Bool.or_eq_false_iff,decide_eq_false_iff_not,List.any_eq_false,decide_eq_true_eq,Bool.or_eq_true,not_or]
 exact ⟨⟨⟨by omega,by omega⟩,fun d hd=>by have:=h3 d hd;omega⟩,fun p hp=>by have:=h4 p hp;omega⟩
theorem mul_bnd19 {a b A B:Int} (h1:0<=a) (h2:a<=A) (h3:0<=b) (h4:b<=B):0<=a * b/\a * b<=A * B :=
 ⟨Int.mul_nonneg h1 h3,Int.mul_le_mul h2 h4 h3 (Int.le_trans h1 h2)⟩
theorem prodI_bnd {ds:Ds}:∀ (k:Nat),(ds.take k).any big19=false->0<=prodI (ds.take k)/\prodI (ds.take k)<=60 ^ k
 | 0,_=>by simp [prodI]
 | k+1,h=>by
  by_cases hk:k<ds.length
  ·rw [List.take_succ_eq_append_getElem hk,List.any_append,Bool.or_eq_false_iff] at h
   have ih:=prodI_bnd (ds:=ds) k h.1
   have hs:sizeL (norm ds[k])<=60:=by
    have:=h.2
    simp [big19] at this
    exact this.2
   rw [prodI_take ds k hk]
   have:=mul_bnd19 ih.1 ih.2 (size_nn ds[k]).1 hs
   rw [Int.pow_succ]
   exact this
  ·rw [List.take_of_length_le (by omega)] at h |-
   have ih:=prodI_bnd (ds:=ds) k (by rw [List.take_of_length_le (by omega)];exact h)
   rw [List.take_of_length_le (by omega)] at ih
   refine ⟨ih.1,Int.le_trans ih.2 ?_⟩
   rw [Int.pow_succ]
   have h1:(0:Int)<=60 ^ k:=Int.le_trans ih.1 ih.2
   omega
theorem prod_step {ds:Ds} {k:Nat} (hk:k<ds.length) (h4:ds.length<=4) (h:(ds.take k).any big19=false) (hs:sizeL (norm ds[k])<=60):0<=prodI (ds.take k) * sizeL (norm ds[k])/\prodI (ds.take k) * sizeL (norm ds[k])<=12960000:=by
 obtain ⟨a,b⟩:=prodI_bnd (ds:=ds) k h
 have hb:prodI (ds.take k)<=216000:=by
  refine Int.le_trans b ?_
  rcases (show k=0\/k=1\/k=2\/k=3 by omega) with rfl | rfl | rfl | rfl <;> decide
 have:=mul_bnd19 a hb (size_nn ds[k]).1 hs
 omega
set_option maxRecDepth 100000
set_option maxHeartbeats 3200000
theorem many19_c (vds vps:Value) (ds:Ds) (ps:List PL) (w:World) (hd:DsAt w vds ds) (hp:PsAt w vps ps) :
  Calls Tryz.prog 16 #[.agg #[vds,vps]] w fun e w'=>e=.returned (.bool (many19 ds ps))/\Below w.heap.size w w':=by
 obtain ⟨a0,c0,rfl,_⟩:=hd.shape
 obtain ⟨a1,c1,rfl,_⟩:=hp.shape
 have HZ:Hid (Below w.heap.size w (w.alloc (.cells #[.slice a0 ds.length c0,.slice a1 ps.length c1] 25))):=bA _
 have HB:=hD (BoxL.mk' w #[.slice a0 ds.length c0,.slice a1 ps.length c1] 25)
 have HD:=hD hd
 have HP:=hD hp
 clear hd hp
 unfold many19
 obtain ⟨l0,_⟩:=HB.out.get 0 rfl
 obtain ⟨l1,_⟩:=HB.out.get 1 rfl
 have hbl:=HB.out.lt (by simp)
 generalize hW0:(w.alloc (.cells #[.slice a0 ds.length c0,.slice a1 ps.length c1] 25))=W0 at *
 have HWE:=hD hW0
 clear hW0
 by_cases g1:4<ds.length
 ·go_enter Tryz.func16,Tryz.ntmps16
  go_upto_region 1 with fail
  rw [HWE.out]
  go_wp2
  go_ret
  exact ⟨ret_bool (by simp),HZ.out⟩
 by_cases g2:5<ps.length
 ·go_enter Tryz.func16,Tryz.ntmps16
  go_upto_region 1 with fail
  rw [HWE.out]
  go_wp2
  go_ret
  exact ⟨ret_bool (by simp),HZ.out⟩
 rw [show (decide (4<ds.length)||decide (5<ps.length)||ds.any big19||ps.any bigP19||decide (200<prodI ds))=(ds.any big19||(ps.any bigP19||decide (200<prodI ds))) by simp [g1,g2,Bool.or_assoc]]
 have hn4:ds.length<=4:=by omega
 go_enter Tryz.func16,Tryz.ntmps16
 go_upto_region 1 with fail
 rw [HWE.out]
 go_wp2
 go_loopw [3,4] (fun nn s wr=>∃ k:Nat,k<=ds.length/\s=.int .i64 k/\nn=.int .i64 (prodI (ds.take k))/\Hid ((ds.take k).any big19=false)/\Hid (Below W0.heap.size W0 wr)) (fun _ s _=>ds.length - (intOf s).toNat)
 case atStart=>exact ⟨0,by omega,rfl,rfl,rfl,hD (Below.refl _ _)⟩
 case round =>
  obtain ⟨k,hk,rfl,rfl,HE,HB2⟩:=hrel
  have hle:=HB2.out.size
  have l0':=(HB2.out.cell (p:=⟨w.heap.size,0,none⟩) hbl).trans l0
  have l1':=(HB2.out.cell (p:=⟨w.heap.size,1,none⟩) hbl).trans l1
  by_cases hlt:k<ds.length
  ·have BI:=hD (bT HZ.out HB2.out)
   obtain ⟨b,off,ao,cap,rfl,q1,q2,_,hc,hrg⟩:=(HD.out.below BI.out).get k hlt
   have j1:(k:Int)<ds.length:=by omega
   have HS:Hid (big19 ds[k]=false->(ds.take (k+1)).any big19=false):=fun h=>any_snoc hlt HE.out h
   have HT:Hid (big19 ds[k]=true->(ds.any big19||(ps.any bigP19||decide (200<prodI ds)))=true):=fun h=>by rw [any_hit hlt h];rfl
   have CZ0:ds[k].length<=4096->Calls Tryz.prog 28 #[.slice ao ds[k].length cap] wr fun e w'=>e=.returned (.int .i64 (sizeL (norm ds[k])))/\Below wr.heap.size wr w':=fun h=>refSize_c _ _ wr hrg h
   have HPS:=hD (fun h=>prod_step hlt hn4 HE.out h)
   have HPT:=hD (prodI_take ds k hlt)
   have hsz:=size_nn ds[k]
   clear hrg
   generalize ds[k]=d at *
   by_cases hx:4<d.length
   ·have HT2:=hD (HT.out (by unfold big19;simp [hx]))
    clear CZ0
    go_wp2
    go_ret
    exact ⟨ret_bool (by rw [HT2.out]),BI.out⟩
   ·have CZ:=hD (CZ0 (by omega))
    clear CZ0
    have hbl2:=Nat.lt_of_lt_of_le hbl hle
    by_cases hy:60<sizeL (norm d)
    ·have HT2:=hD (HT.out (by unfold big19;simp [hy]))
     generalize sizeL (norm d)=sz at *
     go_wp2_with (go_at_call 28;(with_reducible refine CZ.out.mono ?_);rintro e W1 ⟨rfl,bb⟩;have B1:=hD (HB2.out.trans (bb.mono hle));clear bb)
     go_ret
     exact ⟨ret_bool (by rw [HT2.out]),bT HZ.out B1.out⟩
    ·have HS2:=hD (HS.out (by unfold big19;simp [hx,hy]))
     have hps:=HPS.out (by omega)
     generalize sizeL (norm d)=sz at *
     generalize prodI (ds.take k)=pn at *
     go_wp2_with (go_at_call 28;(with_reducible refine CZ.out.mono ?_);rintro e W1 ⟨rfl,bb⟩;have B1:=hD (HB2.out.trans (bb.mono hle));clear bb)
     exact ⟨⟨k+1,by omega,by go_num,by rw [HPT.out],HS2,B1⟩,by simp [intOf];omega⟩
  ·obtain rfl:k=ds.length:=by omega
   have hpb:=prodI_bnd (ds:=ds) ds.length HE.out
   rw [List.take_length] at HE hpb |-
   have HED:=hD HE.out
   have hpb2:0<=prodI ds/\prodI ds<=12960000:=⟨hpb.1,Int.le_trans hpb.2 (by
    rcases (show ds.length=0\/ds.length=1\/ds.length=2\/ds.length=3\/ds.length=4 by omega) with h | h | h | h | h <;> rw [h] <;> decide)⟩
   clear hpb
   obtain ⟨W2,hW2⟩:∃ W2:World,W2=wr:=⟨_,rfl⟩
   subst hW2
   clear HE hlt hk hle
   have BI:=hD (bT HZ.out HB2.out)
   have HP2:Hid (PsAt W2 (.slice a1 ps.length c1) ps):=HP.out.below BI.out
   go_wp2
   go_loop [6] (fun s=>∃ k:Nat,k<=ps.length/\s=.int .i64 k/\Hid ((ps.take k).any bigP19=false)) (fun s=>ps.length - (intOf s).toNat)
   case atStart=>exact ⟨0,by omega,rfl,rfl⟩
   case round =>
    obtain ⟨k,hk,rfl,HE⟩:=hrel
    by_cases hlt:k<ps.length
    ·obtain ⟨b1,o1,va,vb,vv,rfl,q1,cc,i0,i1,i2⟩:=HP2.out.get k hlt
     have j1:(k:Int)<ps.length:=by omega
     obtain ⟨x0,x1,x2,x3,x4,x5,x6,x7,x8⟩:=cc
     have HS:Hid (bigP19 ps[k]=false->(ps.take (k+1)).any bigP19=false):=fun h=>any_snoc hlt HE.out h
     have HT:Hid (bigP19 ps[k]=true->(ds.any big19||(ps.any bigP19||decide (200<prodI ds)))=true):=fun h=>by rw [any_hit hlt h];simp
     obtain ⟨b3,n3,rfl,_⟩:=SlAt.shape i0
     obtain ⟨b4,n4,rfl,_⟩:=SlAt.shape i1
     obtain ⟨b5,n5,rfl,_⟩:=SlAt.shape i2
     clear i0 i1 i2
     generalize ps[k]=p at *
     by_cases h1:4<p.vars.length
     ·have HT2:=hD (HT.out (by unfold bigP19;simp [h1]))
      go_wp2
      go_ret
      exact ⟨ret_bool (by rw [HT2.out]),BI.out⟩
     by_cases h2:4<p.coef.length
     ·have HT2:=hD (HT.out (by unfold bigP19;simp [h2]))
      go_wp2
      go_ret
      exact ⟨ret_bool (by rw [HT2.out]),BI.out⟩
     by_cases h3:5<p.vs.length
     ·have HT2:=hD (HT.out (by unfold bigP19;simp [h3]))
      go_wp2
      go_ret
      exact ⟨ret_bool (by rw [HT2.out]),BI.out⟩
     have HS2:=hD (HS.out (by unfold bigP19;simp [h1,h2,h3]))
     go_wp2
     exact ⟨⟨k+1,by omega,by go_num,HS2⟩,by simp [intOf];omega⟩
    ·obtain rfl:k=ps.length:=by omega
     rw [List.take_length] at HE
     go_wp2
     go_ret
     exact ⟨ret_bool (by rw [HED.out,HE.out];rfl),BI.out⟩
def right19 (ds:Ds) (ps:List PL):Bool:=!many19 ds ps&&decide (fixChk ds.length ps=0)
theorem right19_17 {ds:Ds} {ps:List PL} (h:right19 ds ps=true):right17 ds ps=true:=by
 unfold right19 at h
 unfold right17
 rw [Bool.and_eq_true,Bool.not_eq_true'] at h
 rw [Bool.and_eq_true,Bool.not_eq_true']
 exact ⟨(many19_17 h.1).1,h.2⟩
theorem SlAt.notEmpty {w:World} {k:Nat} {v:Value} {n:Nat} {xs:List Value} (h:SlAt w k v n xs) (hp:0<n * k) {g:Nat} (hg:∀ o,w.cell? ⟨g,o,none⟩=none):v.ownBlock≠some g:=fun e=>by
 obtain ⟨h1,ao,cap,rfl,h2,h3,h5,h4⟩:=h
 obtain ⟨b,off,rfl,hlt,hc⟩:=h4 hp
 have:b=g:=by simpa [Value.ownBlock] using e
 subst this
 have h0:=hc 0 hp
 rw [hg,List.getElem?_eq_getElem (by omega)] at h0
 cases h0
theorem LsAt.stay {W W':World} {v:Value} {L:List (List Int)} {g:Nat} (h:LsAt W v L) (hg:∀ o,W.cell? ⟨g,o,none⟩=none) (hs:W.heap.size<=W'.heap.size) (hb:∀ b,b<W.heap.size->b≠g->W'.heap[b]?=W.heap[b]?):LsAt W' v L:=by
 obtain ⟨us,h1,h2,h3⟩:=h
 exact ⟨us,h1,h2.ownP hs (fun hp b hb' e=>hb b hb' (fun e'=>h2.notEmpty hp hg (e' ▸ e))),fun j hj=>by
  obtain ⟨u,a,b⟩:=h3 j hj
  exact ⟨u,a,SlAt.ownP b hs (fun hp b' hb' e=>hb b' hb' (fun e'=>SlAt.notEmpty b hp hg (e' ▸ e)))⟩⟩
end
section
theorem right19_ok {ds:Ds} {ps:List PL} (h:right19 ds ps=true):FixIn ds ps/\fixChk ds.length ps=0/\ds.length<=4/\prodI ds<=200/\(∀ d∈ds,d.length<=4/\sizeL (norm d)<=60):=by
 have h1:=h
 unfold right19 at h1
 rw [Bool.and_eq_true,Bool.not_eq_true',decide_eq_true_eq] at h1
 obtain ⟨_,a,b,c,_⟩:=many19_17 h1.1
 exact ⟨right17_in (right19_17 h),h1.2,a,b,c⟩
end
section
section
variable {ps:List PL} {D:Ds} {o:SOpt} {k n:Nat} {x:List Int}
end
def lessD (D:Ds) (c:Nat) (z:Int):Ds:=D.set c (meetL (D.getD c []) [(-200,z - 1)])
noncomputable def minP (ps:List PL) (vars:List Int) (o:SOpt) (i c:Nat) (D0:Ds):Nat->Nat->Ds->Option (List Int)->Option (List Int)×Bool
 | 0,_,_,best=>(best,false)
 | m+1,k,now,best=>match findR ps vars o 1 k [now] with
  | ([],_,ov)=>(best,ov)
  | (x::_,n,_)=>minP ps vars o i c D0 m n (lessD D0 c (x.getD i 0)) (some x)
theorem minP_stop {ps:List PL} {vars:List Int} {o:SOpt} {i c:Nat} {D0:Ds} {m k n:Nat} {now:Ds} {best:Option (List Int)} {ov:Bool} (h:findR ps vars o 1 k [now]=([],n,ov)):minP ps vars o i c D0 (m+1) k now best=(best,ov):=by
 rw [minP,h]
theorem minP_more {ps:List PL} {vars:List Int} {o:SOpt} {i c:Nat} {D0:Ds} {m k n:Nat} {now:Ds} {best:Option (List Int)} {ov:Bool} {x:List Int} (h:findR ps vars o 1 k [now]=([x],n,ov)):minP ps vars o i c D0 (m+1) k now best=minP ps vars o i c D0 m n (lessD D0 c (x.getD i 0)) (some x):=by
 rw [minP,h]
theorem findR_less (ps:List PL) (vars:List Int) (o:SOpt):∀ (k m:Nat) (st:List Ds),(findR ps vars o m k st).2.1<=k/\((findR ps vars o m k st).1≠[]->(findR ps vars o m k st).2.1<k)
 | k,0,st=>by cases k <;> cases st <;> simp [findR]
 | k,m+1,[]=>by cases k <;> simp [findR]
 | 0,m+1,D::st=>by simp [findR]
 | k+1,m+1,D::st=>by
  rw [findR]
  cases theFix ps D with
  | none=>have:=findR_less ps vars o k (m+1) st;dsimp only;exact ⟨by omega,fun _=>by omega⟩
  | some now =>
   dsimp only
   cases chooseL now vars o.sel o.ws vars.length with
   | none=>have:=findR_less ps vars o k m st;dsimp only;exact ⟨by omega,fun _=>by omega⟩
   | some i=>have:=findR_less ps vars o k (m+1) ((partAt now (vars.getD i 0).toNat o).1::(partAt now (vars.getD i 0).toNat o).2::st);dsimp only;exact ⟨by omega,fun _=>by omega⟩
theorem findR_list {ps:List PL} {vars:List Int} {o:SOpt}:∀ (k:Nat) (st:List Ds),(findR ps vars o 1 k st).1.length<=1
 | k,[]=>by cases k <;> simp [findR]
 | 0,D::st=>by simp [findR]
 | k+1,D::st=>by
  rw [findR]
  cases theFix ps D with
  | none=>exact findR_list k st
  | some now =>
   dsimp only
   cases chooseL now vars o.sel o.ws vars.length with
   | none=>dsimp only;cases k <;> cases st <;> simp [findR]
   | some i=>exact findR_list k _
end
section
theorem findR_append (ps:List PL) (vars:List Int) (o:SOpt):∀ (k m:Nat) (A B:List Ds),findR ps vars o m k (A++B) =
  bif (findR ps vars o m k A).2.2 then findR ps vars o m k A
  else ((findR ps vars o m k A).1++(findR ps vars o (m - (findR ps vars o m k A).1.length) (findR ps vars o m k A).2.1 B).1,(findR ps vars o (m - (findR ps vars o m k A).1.length) (findR ps vars o m k A).2.1 B).2)
 | k,0,A,B=>by
  have h:∀ (k:Nat) (X:List Ds),findR ps vars o 0 k X=([],k,false):=fun k X=>by cases k <;> cases X <;> simp [findR]
  rw [h k (A++B),h k A]
  simp [h]
 | k,m+1,[],B=>by
  have h:findR ps vars o (m+1) k []=([],k,false):=by cases k <;> simp [findR]
  rw [h,List.nil_append]
  simp
 | 0,m+1,D::A,B=>by
  have h:∀ X:List Ds,findR ps vars o (m+1) 0 (D::X)=([],0,true):=fun X=>by simp [findR]
  rw [List.cons_append,h,h]
  simp
 | k+1,m+1,D::A,B=>by
  rw [List.cons_append,findR,findR]
  cases theFix ps D with
  | none=>exact findR_append ps vars o k (m+1) A B
  | some now =>
   dsimp only
   cases chooseL now vars o.sel o.ws vars.length with
   | none =>
    dsimp only
    rw [findR_append ps vars o k m A B]
    cases (findR ps vars o m k A).2.2 <;> simp
   | some i =>
    exact findR_append ps vars o k (m+1) ((partAt now (vars.getD i 0).toNat o).1::(partAt now (vars.getD i 0).toNat o).2::A) B
theorem findR_two (ps:List PL) (vars:List Int) (o:SOpt) (k m:Nat) (A B:Ds) {L:List (List Int)} {n:Nat} (h:findR ps vars o m k [A]=(L,n,false)) :
  findR ps vars o m k [A,B]=(L++(findR ps vars o (m - L.length) n [B]).1,(findR ps vars o (m - L.length) n [B]).2):=by
 have:=findR_append ps vars o k m [A] [B]
 rw [h] at this
 exact this
theorem findR_two_over (ps:List PL) (vars:List Int) (o:SOpt) (k m:Nat) (A B:Ds) {L:List (List Int)} {n:Nat} (h:findR ps vars o m k [A]=(L,n,true)):findR ps vars o m k [A,B]=(L,n,true):=by
 have:=findR_append ps vars o k m [A] [B]
 rw [h] at this
 exact this
end
end Go.Proofs.YtaekdgikgbdnnaaGreat
