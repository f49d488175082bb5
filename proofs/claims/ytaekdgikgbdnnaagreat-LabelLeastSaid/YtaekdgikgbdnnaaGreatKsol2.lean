/-
  LISTS OF LISTS OF INTEGERS in memory; whether two are the same, walked.
  A statement that draws its order, in a round.
-/
import Derived.Test.YtaekdgikgbdnnaaGreatKrel1
import Derived.Test.YtaekdgikgbdnnaaGreatKlin2
import Derived.Test.YtaekdgikgbdnnaaGreatKlib1
import Derived.Deep.QuietTactic
import Derived.BigQuiet
import Derived.OrdersHeld
import Derived.OrdersIn
import Derived.RangeFuncCalls
import Derived.Deep.RegionHeld
namespace Go.Proofs.YtaekdgikgbdnnaaGreat
section
open Go.RowKit
def LsAt (w:World) (v:Value) (L:List (List Int)):Prop :=
 ∃ us:List Value,us.length=L.length/\SlAt w 1 v L.length us/\∀ j,(hj:j<L.length)->∃ u,us[j]?=some u/\IsAt w u L[j]
theorem LsAt.below {w w':World} {v:Value} {L:List (List Int)} (h:LsAt w v L) (hb:Below w.heap.size w w'):LsAt w' v L:=by
 obtain ⟨us,h1,h2,h3⟩:=h
 exact ⟨us,h1,h2.below hb,fun j hj=>by obtain ⟨u,a,b⟩:=h3 j hj;exact ⟨u,a,b.below hb⟩⟩
theorem LsAt.shape {w:World} {v:Value} {L:List (List Int)} (h:LsAt w v L):∃ ao cap,v=.slice ao L.length cap/\L.length<=cap/\cap<=maxLen:=by
 obtain ⟨us,h1,h2,h3⟩:=h;exact h2.shape
theorem LsAt.nil {w:World}:LsAt w (.slice none 0 0) []:=⟨[],rfl,SlAt.nil,fun j hj=>by simp at hj⟩
theorem LsAt.get {w:World} {ao:Option Addr} {n cap:Nat} {L:List (List Int)} (h:LsAt w (.slice ao n cap) L) (j:Nat) (hj:j<L.length) :
  ∃ b off ao' cap',ao=some ⟨b,off,none⟩/\L.length<=cap/\b<w.heap.size/\w.cell? ⟨b,off+j,none⟩=some (.slice ao' L[j].length cap')/\IsAt w (.slice ao' L[j].length cap') L[j]:=by
 obtain ⟨us,h1,h2,h3⟩:=h
 obtain ⟨b,off,cap',he,a1,_,a2,a3⟩:=SlAt.pos h2 (by omega)
 simp only [Value.slice.injEq] at he
 obtain ⟨rfl,rfl,rfl⟩:=he
 obtain ⟨u,e1,e2⟩:=h3 j hj
 have hc:=a3 j (by omega)
 rw [e1] at hc
 obtain ⟨ao',c',rfl,_⟩:=SlAt.shape e2
 exact ⟨b,off,ao',c',rfl,a1,a2,hc,e2⟩
def LsFrom (B:Nat) (w:World) (v:Value) (L:List (List Int)):Prop :=
 ∃ us:List Value,us.length=L.length/\SlAt w 1 v L.length us/\(∀ b,v.ownBlock=some b->B<=b)/\∀ j,(hj:j<L.length)->∃ u,us[j]?=some u/\IsAt w u L[j]/\∀ b,u.ownBlock=some b->B<=b
theorem LsFrom.at {B:Nat} {w:World} {v:Value} {L:List (List Int)} (h:LsFrom B w v L):LsAt w v L:=by
 obtain ⟨us,h1,h2,_,h4⟩:=h
 exact ⟨us,h1,h2,fun j hj=>by obtain ⟨u,a,b,_⟩:=h4 j hj;exact ⟨u,a,b⟩⟩
theorem SlAt.from {w w':World} {k:Nat} {v:Value} {n:Nat} {xs:List Value} (h:SlAt w k v n xs) (hs:w.heap.size<=w'.heap.size) (hb:∀ b,b<w.heap.size->v.ownBlock=some b->w'.heap[b]?=w.heap[b]?):SlAt w' k v n xs:=by
 obtain ⟨h1,ao,cap,rfl,h2,h3,h5,h4⟩:=h
 refine ⟨h1,ao,cap,rfl,h2,h3,h5,fun hp=>?_⟩
 obtain ⟨b,off,rfl,hlt,hc⟩:=h4 hp
 refine ⟨b,off,rfl,Nat.lt_of_lt_of_le hlt hs,fun j hj=>?_⟩
 rw [<- hc j hj]
 exact World.cell?_of_block (a:=⟨b,off+j,none⟩) (hb b hlt rfl)
theorem LsFrom.on {B:Nat} {W W':World} {v:Value} {L:List (List Int)} (h:LsFrom B W v L) (hs:W.heap.size<=W'.heap.size) (hb:∀ b,B<=b->b<W.heap.size->W'.heap[b]?=W.heap[b]?):LsFrom B W' v L:=by
 obtain ⟨us,h1,h2,h3,h4⟩:=h
 exact ⟨us,h1,h2.from hs (fun b hb' e=>hb b (h3 b e) hb'),h3,fun j hj=>by
  obtain ⟨u,a,b,c⟩:=h4 j hj
  exact ⟨u,a,SlAt.from b hs (fun b' hb' e=>hb b' (c b' e) hb'),c⟩⟩
theorem IsAt.keptBut {w w':World} {v u:Value} {d:List Int} (h:IsAt w u d) (hk:KeepsBut w w' v) (hs:w.heap.size<=w'.heap.size) (ha:d≠[]->Apart u v):IsAt w' u d:=by
 obtain ⟨h1,ao,cap,rfl,h2,h3,h5,h4⟩:=h
 refine ⟨h1,ao,cap,rfl,h2,h3,h5,fun hp=>?_⟩
 obtain ⟨b,off,rfl,hlt,hc⟩:=h4 hp
 have hne:d≠[]:=by rintro rfl;simp at hp
 have e:=hk b hlt (ha hne b rfl)
 exact ⟨b,off,rfl,by omega,fun j hj=>(World.cell?_of_block (a:=⟨b,off+j,none⟩) e).trans (hc j hj)⟩
theorem IsAt.blk {w:World} {u:Value} {d:List Int} (h:IsAt w u d) (hne:d≠[]):∀ b,u.ownBlock=some b->b<w.heap.size:=fun b hb=>by
 obtain ⟨h1,ao,cap,rfl,h2,h3,h5,h4⟩:=h
 have hp:0<d.length * 1:=by have:=List.length_pos_iff.2 hne;omega
 obtain ⟨b',off,rfl,hlt,hc⟩:=h4 hp
 simp [Value.ownBlock] at hb;omega
def LsApp (w:World) (base:Nat) (v:Value) (L:List (List Int)) (us:List Value):Prop :=
 us.length=L.length/\w.ownsRow base 26 1 v L.length us/\∀ j,(hj:j<L.length)->∃ u,us[j]?=some u/\IsAt w u L[j]/\(L[j]≠[]->Apart u v)
theorem LsApp.at {w:World} {base:Nat} {v:Value} {L:List (List Int)} {us:List Value} (h:LsApp w base v L us):LsAt w v L :=
 ⟨us,h.1,SlAt.of_own h.2.1,fun j hj=>by obtain ⟨u,a,b,_⟩:=h.2.2 j hj;exact ⟨u,a,b⟩⟩
theorem LsApp.below {w w':World} {base:Nat} {v:Value} {L:List (List Int)} {us:List Value} (h:LsApp w base v L us) (hb:Below w.heap.size w w'):LsApp w' base v L us :=
 ⟨h.1,own_below h.2.1 hb,fun j hj=>by obtain ⟨u,a,b,c⟩:=h.2.2 j hj;exact ⟨u,a,b.below hb,c⟩⟩
theorem LsApp.nil {w:World} {base:Nat} {v:Value} (h:w.ownsRow base 26 1 v 0 []):LsApp w base v [] []:=⟨rfl,h,fun j hj=>by simp at hj⟩
theorem LsApp.push {w w':World} {base:Nat} {v:Value} {L:List (List Int)} {us:List Value} (h:LsApp w base v L us) {u:Value} {d:List Int} (hu:IsAt w u d) (ha:d≠[]->Apart u v) {g cap:Nat}
  (ho:w'.ownsRow base 26 1 (.slice (some ⟨g,0,none⟩) (L.length+1) cap) (L.length+1) (us++[u])) (hk:KeepsBut w w' v) (hs:w.heap.size<=w'.heap.size) (hg:v.ownBlock=some g\/w.heap.size<=g) :
  LsApp w' base (.slice (some ⟨g,0,none⟩) (L.length+1) cap) (L++[d]) (us++[u]):=by
 have hap:∀ {x:Value} {r:List Int},IsAt w x r->(r≠[]->Apart x v)->(r≠[]->Apart x (.slice (some ⟨g,0,none⟩) (L.length+1) cap)):=fun {x r} hx h0 hne b hb he=>by
  have hb':g=b:=by simpa [Value.ownBlock] using he
  subst hb'
  rcases hg with h1 | h1
  ·exact h0 hne g hb h1
  ·have:=hx.blk hne g hb;omega
 refine ⟨by simp [h.1],by rw [List.length_append];exact ho,fun j hj=>?_⟩
 rw [List.length_append,List.length_singleton] at hj
 by_cases hjl:j<L.length
 ·obtain ⟨x,a,b,c⟩:=h.2.2 j hjl
  refine ⟨x,by rw [List.getElem?_append_left (by rw [h.1];exact hjl)];exact a,?_,?_⟩
  ·rw [List.getElem_append_left hjl];exact b.keptBut hk hs c
  ·rw [List.getElem_append_left hjl];exact hap b c
 ·obtain rfl:j=L.length:=by omega
  refine ⟨u,by rw [List.getElem?_append_right (by rw [h.1];exact rN _),h.1];simp,?_,?_⟩
  ·rw [List.getElem_append_right (rN _)];simp;exact hu.keptBut hk hs ha
  ·rw [List.getElem_append_right (rN _)];simp;exact hap hu ha
set_option maxRecDepth 100000
theorem sameInts_c (va vb:Value) (x y:List Int) (w:World) (ha:IsAt w va x) (hb:IsAt w vb y) (hl:x.length<=4096) :
  Calls Tryz.prog 20 #[va,vb] w fun e w'=>e=.returned (.bool (decide (x=y)))/\Below w.heap.size w w':=by
 obtain ⟨ao,cap,rfl,_⟩:=SlAt.shape ha
 obtain ⟨ao2,cap2,rfl,_⟩:=SlAt.shape hb
 have HA:=hD ha
 have HB:=hD hb
 clear ha hb
 by_cases h1:x.length=y.length
 case neg =>
  have hne:((x.length:Int) != y.length)=true:=by simp;omega
  have H1:=hD h1
  clear h1
  go_enter Tryz.func20,Tryz.ntmps20
  go_wp2
  go_ret
  exact ⟨ret_bool (by symm;simp;intro h;exact H1.out (by rw [h])),Below.refl _ _⟩
 case pos =>
  have H1:=hD h1
  have hne:((x.length:Int) != y.length)=false:=by rw [h1];simp
  clear h1
  go_enter Tryz.func20,Tryz.ntmps20
  go_wp2
  go_loopw [5] (fun s wr=>∃ k:Nat,k<=x.length/\s=.int .i64 k/\Hid (x.take k=y.take k)/\Hid (Below w.heap.size w wr)) (fun s _=>x.length - (intOf s).toNat)
  case atStart=>exact ⟨0,by omega,rfl,rfl,hD (Below.refl _ _)⟩
  case round =>
   obtain ⟨k,hk,rfl,HE,HW⟩:=hrel
   by_cases hlt:k<x.length
   ·have hly:k<y.length:=by have:=H1.out;omega
    obtain ⟨b1,o1,rfl,q1,q2,hc1⟩:=IsAt.getR (HA.out.below HW.out) k hlt
    obtain ⟨b2,o2,rfl,q3,q4,hc2⟩:=IsAt.getR (HB.out.below HW.out) k hly
    have j1:(k:Int)<x.length:=by omega
    have j2:(k:Int)<y.length:=by omega
    have HS:Hid (x[k]=y[k]->x.take (k+1)=y.take (k+1)):=fun h=>by
     rw [List.take_succ_eq_append_getElem hlt,List.take_succ_eq_append_getElem hly,HE.out,h]
    have HN:Hid (x[k]≠y[k]->x≠y):=fun h he=>by subst he;exact h rfl
    generalize x[k]=p at *
    generalize y[k]=q at *
    by_cases hpq:p=q
    ·have hb:(p != q)=false:=by simp [hpq]
     have HS2:=hD (HS.out hpq)
     clear HS HN
     go_wp2
     go_quiet (fail)
     go_wp2
     exact ⟨⟨k+1,by omega,by go_num,HS2,hD (below_drewN HW.out _)⟩,by simp [intOf];omega⟩
    ·have hb:(p != q)=true:=by simp [hpq]
     have HN2:=hD (HN.out hpq)
     clear HS HN
     go_wp2
     go_quiet (fail)
     go_wp2
     go_ret
     exact ⟨ret_bool (by symm;simp;exact HN2.out),below_drewN HW.out _⟩
   ·obtain rfl:k=x.length:=by omega
    have HT:Hid (x=y):=by
     have h:=HE.out
     rw [List.take_length,H1.out,List.take_length] at h
     exact h
    go_wp2
    go_ret
    exact ⟨ret_bool (by symm;simp;exact HT.out),HW.out⟩
theorem sames_c (va vb:Value) (x y:List (List Int)) (w:World) (ha:LsAt w va x) (hb:LsAt w vb y) (hl:x.length<=4096) (hll:∀ z∈x,z.length<=4096) :
  Calls Tryz.prog 18 #[va,vb] w fun e w'=>e=.returned (.bool (decide (x=y)))/\Below w.heap.size w w':=by
 obtain ⟨ao,cap,rfl,_⟩:=ha.shape
 obtain ⟨ao2,cap2,rfl,_⟩:=hb.shape
 have HA:=hD ha
 have HB:=hD hb
 have HLL:=hD hll
 clear ha hb hll
 by_cases h1:x.length=y.length
 case neg =>
  have hne:((x.length:Int) != y.length)=true:=by simp;omega
  have H1:=hD h1
  clear h1
  go_enter Tryz.func18,Tryz.ntmps18
  go_wp2
  go_ret
  exact ⟨ret_bool (by symm;simp;intro h;exact H1.out (by rw [h])),Below.refl _ _⟩
 case pos =>
  have H1:=hD h1
  have hne:((x.length:Int) != y.length)=false:=by rw [h1];simp
  clear h1
  go_enter Tryz.func18,Tryz.ntmps18
  go_wp2
  go_loopw [5] (fun s wr=>∃ k:Nat,k<=x.length/\s=.int .i64 k/\Hid (x.take k=y.take k)/\Hid (Below w.heap.size w wr)) (fun s _=>x.length - (intOf s).toNat)
  case atStart=>exact ⟨0,by omega,rfl,rfl,hD (Below.refl _ _)⟩
  case round =>
   obtain ⟨k,hk,rfl,HE,HW⟩:=hrel
   have hle:=HW.out.size
   by_cases hlt:k<x.length
   ·have hly:k<y.length:=by have:=H1.out;omega
    obtain ⟨b1,o1,a1,c1,rfl,q1,q2,hc1,i1⟩:=(HA.out.below HW.out).get k hlt
    obtain ⟨b2,o2,a2,c2,rfl,q3,q4,hc2,i2⟩:=(HB.out.below HW.out).get k hly
    have j1:(k:Int)<x.length:=by omega
    have j2:(k:Int)<y.length:=by omega
    have HS:Hid (x[k]=y[k]->x.take (k+1)=y.take (k+1)):=fun h=>by
     rw [List.take_succ_eq_append_getElem hlt,List.take_succ_eq_append_getElem hly,HE.out,h]
    have HN:Hid (x[k]≠y[k]->x≠y):=fun h he=>by subst he;exact h rfl
    have CS0:∀ g:QG wr,Calls Tryz.prog 20 #[.slice a1 x[k].length c1,.slice a2 y[k].length c2] g.1 fun e w'=>e=.returned (.bool (decide (x[k]=y[k])))/\Below g.1.heap.size g.1 w':=fun g=>sameInts_c _ _ _ _ g.1 (i1.below g.2) (i2.below g.2) (HLL.out _ (List.getElem_mem hlt))
    have y1:=qb_cell hc1
    have y2:=qb_cell hc2
    clear i1 i2 hc1 hc2
    generalize x[k]=p at *
    generalize y[k]=q at *
    by_cases hpq:p=q
    ·have hdec:decide (p=q)=true:=decide_eq_true hpq
     rw [hdec] at CS0
     have CS:=hD CS0
     have HS2:=hD (HS.out hpq)
     clear HS HN CS0 hdec hpq
     go_wp2
     refine wp_region_below (by kernel_rfl) (by kernel_rfl) ?_
     repeat (go_big_quiet_step ((go_at_call 20;with_reducible exact qb_call _ (CS.out _))))
     refine wpQuiet_nil ?_
     intro w1 hw1
     clear y1 y2
     go_wp2
     exact ⟨⟨k+1,by omega,by go_num,HS2,hD (HW.out.trans (hw1.below.mono hle))⟩,by simp [intOf];omega⟩
    ·have hdec:decide (p=q)=false:=decide_eq_false hpq
     rw [hdec] at CS0
     have CS:=hD CS0
     have HN2:=hD (HN.out hpq)
     clear HS HN CS0 hdec hpq
     go_wp2
     refine wp_region_below (by kernel_rfl) (by kernel_rfl) ?_
     repeat (go_big_quiet_step ((go_at_call 20;with_reducible exact qb_call _ (CS.out _))))
     refine wpQuiet_nil ?_
     intro w1 hw1
     clear y1 y2
     go_wp2
     go_ret
     exact ⟨ret_bool (by symm;simp;exact HN2.out),HW.out.trans (hw1.below.mono hle)⟩
   ·obtain rfl:k=x.length:=by omega
    have HT:Hid (x=y):=by
     have h:=HE.out
     rw [List.take_length,H1.out,List.take_length] at h
     exact h
    go_wp2
    go_ret
    exact ⟨ret_bool (by symm;simp;exact HT.out),HW.out⟩
theorem wpIn_round_op {l n i:Nat} {P:Program} {ops:Array Oper} {Q:Exit->Act->World->Prop} {K:Act->World->Prop} {a:Act} {w:World} (hd:∀ (j:Nat) (o:Oper) c,ops[j]?=some o->o.op≠.defer c) (hQ:¬ LetsOut Q)
  (h:wpOp P ops Q i K a w):wpOpIn (Fence.wide.inRound l) n P ops Q i K a w:=by
 unfold wpOp at h
 unfold wpOpIn
 split
 ·rename_i h0
  simp only [h0] at h
  exact h
 ·rename_i o ho
  simp only [ho] at h
  split
  ·rename_i hw
   simp only [hw,if_true] at h
   rcases h with h | h
   ·refine ⟨fun f _=>trivial,?_⟩
    rw [Oper.semAt_eq _ _ _ (fun c=>hd i o c ho)]
    unfold Oper.wp at h
    generalize (execOp a.eval o).run P w=r at *
    cases r with
    | ok x w' =>
     cases x <;> simp only [Oper.upon,Oper.uponIn] at h |-
     case value=>exact h
     case skip=>exact h
     case defer=>exact h
     case enter f args=>exact ⟨fun h=>by simp [Fence.wide] at h,CallsIn.inRound l (callsIn_wide.2 h)⟩
     case row row args=>exact ⟨fun h=>by simp [Fence.wide] at h,fun c cs _=>let ⟨v,w',r,s⟩:=h c cs;⟨v,w',r,stepsIn_wide.2 s⟩⟩
    | halt x w' =>
     cases x <;> simp only [Oper.upon,Oper.uponIn] at h |-
     case panic=>exact h
   ·exact absurd h.2 hQ
  ·rename_i hw
   simp only [hw] at h
   exact ⟨fun f _=>trivial,h⟩
theorem wpAnyIn_round {l n:Nat} {P:Program} {ops:Array Oper} {Q:Exit->Act->World->Prop} {md:Region.Mode} (hd:∀ (j:Nat) (o:Oper) c,ops[j]?=some o->o.op≠.defer c) (hQ:¬ LetsOut Q) :
  ∀ (fuel:Nat) (listed:Array Bool) (a:Act) (w:World),wpAny P md ops Q fuel listed a w->wpAnyIn (Fence.wide.inRound l) n P md ops Q fuel listed a w
 | 0,_,_,_,h=>h
 | fuel+1,_,_,_,h=>⟨h.1,fun i hi=>wpOpIn_mono (fun a w=>wpAnyIn_round hd hQ fuel _ a w) (wpIn_round_op hd hQ (h.2 i hi))⟩
theorem wpIn_region_round {l n id:Nat} {P:Program} {ops:Array Oper} {Q:Exit->Act->World->Prop} {S:World->Prop} {a:Act} {w:World} (hm:P.follows .mixedOrders=true) (hd:∀ (j:Nat) (o:Oper) c,ops[j]?=some o->o.op≠.defer c) (hQ:¬ LetsOut Q)
  (hS:S w.drew) (h:S w.drew->wpAnyH P .any ops Q S ops.size (Array.replicate ops.size false) a w.drew):(Code.region id ops true).wpIn (Fence.wide.inRound l) n P Q a w :=
 wpIn_region_any hm (wpAnyIn_round hd hQ _ _ _ _ (wpAny_of_held _ _ _ _ (h hS)))
theorem wpIn_region_roundK {l n id:Nat} {P:Program} {ops:Array Oper} {K:Act->World->Prop} {Q':Exit->Act->World->Prop} {S:World->Prop} {a:Act} {w:World} (hm:P.follows .mixedOrders=true) (hd:∀ (j:Nat) (o:Oper) c,ops[j]?=some o->o.op≠.defer c)
  (hS:S w.drew) (h:S w.drew->wpAnyH P .any ops (Exit.then K (fun _ _ _=>False)) S ops.size (Array.replicate ops.size false) a w.drew):(Code.region id ops true).wpIn (Fence.wide.inRound l) n P (Exit.then K Q') a w :=
 wpIn_mono (wpIn_region_round hm hd (by rintro ⟨a,w,h⟩;exact h) hS h) (by
  intro e a w h
  cases e <;> first | exact h | exact h.elim)
theorem wpAnyH_takeD {P:Program} {ops:Array Oper} {Q:Exit->Act->World->Prop} {md:Region.Mode} {S:World->Prop} {i:Nat} {oi:Oper} {d:Option Tmp} {v:Value} {fuel:Nat} {listed:Array Bool} {a:Act} {w:World} (hi:ops[i]?=some oi) (hd:oi.dst=d)
  (hs:Region.noSelect ops=true) (hf:Region.free md ops listed i=true) (hr:(Region.ready md ops listed).contains i=true) (hQ:∀ c a w,Q (.panic c) (a.put oi.dst v) w->Q (.panic c) a w)
  (hy:YieldsIf P ops S oi v a) (hS:S w) (h:wpAnyH P md ops Q S fuel (listed.setIfInBounds i true) (a.put d v) w):wpAnyH P md ops Q S (fuel+1) listed a w:=by
 subst hd
 exact wpAnyH_take hi hs hf hr hQ hy hS h
theorem noDefer_of {ops:Array Oper} (h:ops.all (fun o=>match o.op with | .defer _=>false | _=>true)=true):∀ (j:Nat) (o:Oper) c,ops[j]?=some o->o.op≠.defer c:=fun j o c ho e=>by
 have hm:o∈ops:=Array.mem_of_getElem? ho
 have:=(Array.all_eq_true' ..).1 h o hm
 rw [e] at this
 simp at this
end
end Go.Proofs.YtaekdgikgbdnnaaGreat
