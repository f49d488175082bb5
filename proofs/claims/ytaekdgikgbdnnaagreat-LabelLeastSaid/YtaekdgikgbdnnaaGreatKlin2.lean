/-
  LISTS OF SETS THAT GROW BY append: none of their sets lies in the list's own block.
  coneyref15.Check and the law LinChecks, walked.
  PLAIN LAWS of the reference's Once of layer 15: the others' sum, each other fixed, what is gone. No program.
  A sum's terms in memory; bounds of their ends.
-/
import Derived.Test.YtaekdgikgbdnnaaGreatKlin1
import Derived.Test.YtaekdgikgbdnnaaGreatKlib1
import Derived.Test.YtaekdgikgbdnnaaGreatKdom3
import Derived.Deep.AppendLies
namespace Go.Proofs.YtaekdgikgbdnnaaGreat
section
open Go.RowKit
theorem wpList_append1L {P:Program} {ops:Array Oper} {rest:List Oper} {o:Oper} {a:Act} {w:World} {Q:Exit->Act->World->Prop} (hgd:o.guard=none) (s x:Operand) (t:TypeId)
  (ho:o.op=.call { callee:=.builtin .append,args:=#[s,x],argTypes:=#[t,t] })
  (base:Nat) (e:TypeId) (i:TypeInfo) (z:Value) (bytes:Nat) (ht:P.underlying t=some (.slice e)) (hi:P.info? e=some i) (hz:i.zero=some z)
  (hsize:i.size=1) (hby:i.bytes=bytes) (hzs:z.cells.size=1)
  (v:Value) (n:Nat) (xs:List Value) (hs:a.eval s=v) (hown:w.ownsRow base e 1 v n xs) {e':TypeId}
  (u1:Value) (hx:a.eval x=.slice (some ⟨w.heap.size,0,none⟩) 1 1) (h1:u1.oneCell'=true)
  (hbytes:(n+1) * bytes<=140737488355328/\n+1<=140737488355328) (hbase:base<=w.heap.size)
  (h:∀ g cap w',w'.ownsRow base e 1 (.slice (some ⟨g,0,none⟩) (n+1) cap) (n+1) (xs++[u1])->Below base w w'->KeepsBut w w' v->(v.ownBlock=some g\/w.heap.size<=g)->wpList P ops Q rest (a.put o.dst (.slice (some ⟨g,0,none⟩) (n+1) cap)) w') :
  wpList P ops Q (o::rest) a (w.alloc (.cells #[u1] e')):=by
 refine wpList_append_lies _ hgd s x t ho base e i z 1 bytes ht hi hz hsize hby hzs (by decide) v n xs hs (hown.alloc _) ⟨w.heap.size,0,none⟩ 1 1 [u1] hx rfl ?_ ?_ (by decide) ?_ hbytes.1 (by simp;omega) _ rfl ?_
 ·intro j y hj
  match j,hj with
  | 0,hj=>simp at hj;subst hj;simp [Addr.add]
 ·intro y hy;simp at hy;subst hy;exact h1
 ·unfold maxLen;omega
 ·intro g cap w' r1 r2 r3 _
  refine h g cap w' r1 (below_grown hbase r2 (ownBlock_ge hown)) (fun b hb hne=>?_) ?_
  ·rw [r2.block b (by simp;omega) (fun he=>hne he.symm)]
   exact Below.heap_alloc w _ b hb
  ·rcases r3 with h3 | h3
   ·exact .inl h3
   ·right;rw [h3];simp
theorem RgAt.keptBut {w w':World} {v u:Value} {d:List Rg} (h:RgAt w u d) (hk:KeepsBut w w' v) (ha:d≠[]->Apart u v):RgAt w' u d:=by
 obtain ⟨h1,ao,cap,rfl,h2,h3,h5,h4⟩:=h
 refine ⟨h1,ao,cap,rfl,h2,h3,h5,fun hp=>?_⟩
 obtain ⟨b,off,rfl,hlt,hc⟩:=h4 hp
 have hne:d≠[]:=by rintro rfl;simp at hp
 have e:=hk b hlt (ha hne b rfl)
 refine ⟨b,off,rfl,?_,fun j hj=>?_⟩
 ·have h0:=hc 0 hp
  have hl:(cellsR d).length=d.length * 2:=h1
  rw [List.getElem?_eq_getElem (by omega)] at h0
  have:=World.cell?_of_block (a:=⟨b,off+0,none⟩) e
  rw [h0] at this
  exact World.block_lt_of_cell? w' _ this
 ·rw [<- hc j hj];exact World.cell?_of_block e
theorem RgAt.blk {w:World} {u:Value} {d:List Rg} (h:RgAt w u d) (hne:d≠[]):∀ b,u.ownBlock=some b->b<w.heap.size:=fun b hb=>by
 obtain ⟨h1,ao,cap,rfl,h2,h3,h5,h4⟩:=h
 have hp:0<d.length * 2:=by have:=List.length_pos_iff.2 hne;omega
 obtain ⟨b',off,rfl,hlt,hc⟩:=h4 hp
 simp [Value.ownBlock] at hb;omega
def DsApp (w:World) (base:Nat) (v:Value) (ds:Ds) (us:List Value):Prop :=
 us.length=ds.length/\w.ownsRow base 61 1 v ds.length us/\∀ j,(hj:j<ds.length)->∃ u,us[j]?=some u/\RgAt w u ds[j]/\(ds[j]≠[]->Apart u v)
theorem DsApp.own {w:World} {base:Nat} {v:Value} {ds:Ds} {us:List Value} (h:DsApp w base v ds us):DsOwn w base v ds :=
 ⟨us,h.1,h.2.1,fun j hj=>by obtain ⟨u,a,b,_⟩:=h.2.2 j hj;exact ⟨u,a,b⟩⟩
theorem DsApp.below {w w':World} {base:Nat} {v:Value} {ds:Ds} {us:List Value} (h:DsApp w base v ds us) (hb:Below w.heap.size w w'):DsApp w' base v ds us :=
 ⟨h.1,own_below h.2.1 hb,fun j hj=>by obtain ⟨u,a,b,c⟩:=h.2.2 j hj;exact ⟨u,a,b.below hb,c⟩⟩
theorem DsApp.nil {w:World} {base:Nat} {v:Value} (h:w.ownsRow base 61 1 v 0 []):DsApp w base v [] []:=⟨rfl,h,fun j hj=>by simp at hj⟩
theorem DsApp.push {w w':World} {base:Nat} {v:Value} {ds:Ds} {us:List Value} (h:DsApp w base v ds us) {u:Value} {d:List Rg} (hu:RgAt w u d) (ha:d≠[]->Apart u v) {g cap:Nat}
  (ho:w'.ownsRow base 61 1 (.slice (some ⟨g,0,none⟩) (ds.length+1) cap) (ds.length+1) (us++[u])) (hk:KeepsBut w w' v) (hg:v.ownBlock=some g\/w.heap.size<=g) :
  DsApp w' base (.slice (some ⟨g,0,none⟩) (ds.length+1) cap) (ds++[d]) (us++[u]):=by
 have hap:∀ {x:Value} {r:List Rg},RgAt w x r->(r≠[]->Apart x v)->(r≠[]->Apart x (.slice (some ⟨g,0,none⟩) (ds.length+1) cap)):=fun {x r} hx h0 hne b hb he=>by
  have hb':g=b:=by simpa [Value.ownBlock] using he
  subst hb'
  rcases hg with h1 | h1
  ·exact h0 hne g hb h1
  ·have:=hx.blk hne g hb;omega
 refine ⟨by simp [h.1],by rw [List.length_append];exact ho,fun j hj=>?_⟩
 rw [List.length_append,List.length_singleton] at hj
 by_cases hjl:j<ds.length
 ·obtain ⟨x,a,b,c⟩:=h.2.2 j hjl
  refine ⟨x,by rw [List.getElem?_append_left (by rw [h.1];exact hjl)];exact a,?_,?_⟩
  ·rw [List.getElem_append_left hjl];exact b.keptBut hk c
  ·rw [List.getElem_append_left hjl];exact hap b c
 ·obtain rfl:j=ds.length:=by omega
  refine ⟨u,by rw [List.getElem?_append_right (by rw [h.1];exact rN _),h.1];simp,?_,?_⟩
  ·rw [List.getElem_append_right (rN _)];simp;exact hu.keptBut hk ha
  ·rw [List.getElem_append_right (rN _)];simp;exact hap hu ha
theorem apart_made {w0:World} {base e size n:Nat} {v u:Value} {xs:List Value} (h:w0.ownsRow base e size v n xs) (hu:∀ b,u.ownBlock=some b->w0.heap.size<=b):Apart u v:=fun b hb he=>by
 have:=hu b hb
 have:=(h.lt b he).2
 omega
set_option maxHeartbeats 400000
theorem within_any (n lo hi:Int) (w:World):Calls Tryz.prog 83 #[.int .i64 n,.int .i64 lo,.int .i64 hi] w fun e w'=>e=.returned (.bool (decide (lo<=n)&&decide (n<=hi)))/\w=w':=by
 by_cases h1:lo<=n
 ·by_cases h2:n<=hi
  ·go_enter Tryz.func83,Tryz.ntmps83
   go_wp2
   go_ret
   exact ⟨ret_bool (by simp [h1,h2]),rfl⟩
  ·go_enter Tryz.func83,Tryz.ntmps83
   go_wp2
   go_ret
   exact ⟨ret_bool (by simp;omega),rfl⟩
 ·have h1':decide (lo<=n)=false:=by simpa using h1
  go_enter Tryz.func83,Tryz.ntmps83
  go_wp2
  go_ret
  exact ⟨ret_bool (by simp),rfl⟩
theorem any_eq_range (z:Int) (l:List Int) (k:Nat) (hk:k<=l.length):(l.take k).any (z==·)=(List.range k).any (fun j=>l.getD j 0==z):=by
 rw [Bool.eq_iff_iff,List.any_eq_true,List.any_eq_true]
 constructor
 ·rintro ⟨x,hx,he⟩
  obtain ⟨j,hj,rfl⟩:=List.mem_take_iff_getElem.1 hx
  refine ⟨j,by simp;omega,?_⟩
  rw [beq_iff_eq] at he |-
  rw [he];simp [show j<l.length by omega]
 ·rintro ⟨j,hj,he⟩
  have hj':j<k:=by simpa using hj
  refine ⟨l.getD j 0,?_,by rw [beq_iff_eq] at he |-;exact he.symm⟩
  rw [List.mem_take_iff_getElem]
  exact ⟨j,by omega,by simp [show j<l.length by omega]⟩
set_option maxHeartbeats 3200000
theorem refCheck_any (v0 v1:Value) (rel c n:Int) (coef vars:List Int) (w:World) (h0:IsAt w v0 coef) (h1:IsAt w v1 vars) (hl0:coef.length<=4096) (hl1:vars.length<=4096) :
  Calls Tryz.prog 58 #[.agg #[v0,v1,.int .i64 rel,.int .i64 c],.int .i64 n] w fun e w'=>e=.returned (.int .i64 (linChk coef vars rel c n))/\Below w.heap.size w w':=by
 obtain ⟨a0,c0,rfl,_⟩:=h0.shape
 obtain ⟨a1,c1,rfl,_⟩:=h1.shape
 have hB:Below w.heap.size w (w.alloc (.cells #[.slice a0 coef.length c0,.slice a1 vars.length c1,.int .i64 rel,.int .i64 c] 65)):=bA _
 have H0:=hD (h0.below hB)
 have H1:=hD (h1.below hB)
 clear h0 h1
 by_cases e1:coef.length≠vars.length
 ·have e1':((coef.length:Int) != (vars.length:Int))=true:=by simp;omega
  have hS:Hid (linChk coef vars rel c n=150):=by show _=_;simp [linChk,shapeB,e1]
  go_enter Tryz.func58,Tryz.ntmps58
  go_wp2_with (first | (go_at_call 83;((with_reducible refine (within_any _ _ _ _).mono ?_);rintro e w' ⟨rfl,rfl⟩)))
  go_ret
  exact ⟨ret_int hS.out.symm,hB⟩
 have e1':((coef.length:Int) != (vars.length:Int))=false:=by simp;omega
 have e1'':(coef.length != vars.length)=false:=by simp;omega
 have E1:=hD e1''
 clear e1 e1''
 by_cases e2:16<coef.length
 ·have hS:Hid (linChk coef vars rel c n=150):=by show _=_;simp [linChk,shapeB,e2]
  go_enter Tryz.func58,Tryz.ntmps58
  go_wp2_with (first | (go_at_call 83;((with_reducible refine (within_any _ _ _ _).mono ?_);rintro e w' ⟨rfl,rfl⟩)))
  go_ret
  exact ⟨ret_int hS.out.symm,hB⟩
 by_cases e3:rel<1
 ·have e3':decide (1<=rel)=false:=by simp;omega
  have hS:Hid (linChk coef vars rel c n=150):=by show _=_;simp [linChk,shapeB,e3]
  go_enter Tryz.func58,Tryz.ntmps58
  go_wp2_with (first | (go_at_call 83;((with_reducible refine (within_any _ _ _ _).mono ?_);rintro e w' ⟨rfl,rfl⟩)))
  go_ret
  exact ⟨ret_int hS.out.symm,hB⟩
 by_cases e4:3<rel
 ·have e4':decide (rel<=3)=false:=by simp;omega
  have hS:Hid (linChk coef vars rel c n=150):=by show _=_;simp [linChk,shapeB,e4]
  go_enter Tryz.func58,Tryz.ntmps58
  go_wp2_with (first | (go_at_call 83;((with_reducible refine (within_any _ _ _ _).mono ?_);rintro e w' ⟨rfl,rfl⟩)))
  go_ret
  exact ⟨ret_int hS.out.symm,hB⟩
 by_cases e5:c < -1099511627776
 ·have e5':decide (-1099511627776<=c)=false:=by simp;omega
  have hS:Hid (linChk coef vars rel c n=150):=by show _=_;simp [linChk,shapeB,e5]
  go_enter Tryz.func58,Tryz.ntmps58
  go_wp2_with (first | (go_at_call 83;((with_reducible refine (within_any _ _ _ _).mono ?_);rintro e w' ⟨rfl,rfl⟩)))
  go_ret
  exact ⟨ret_int hS.out.symm,hB⟩
 by_cases e6:1099511627776<c
 ·have e6':decide (c<=1099511627776)=false:=by simp;omega
  have hS:Hid (linChk coef vars rel c n=150):=by show _=_;simp [linChk,shapeB,e6]
  go_enter Tryz.func58,Tryz.ntmps58
  go_wp2_with (first | (go_at_call 83;((with_reducible refine (within_any _ _ _ _).mono ?_);rintro e w' ⟨rfl,rfl⟩)))
  go_ret
  exact ⟨ret_int hS.out.symm,hB⟩
 have hS:Hid (linChk coef vars rel c n=if coef.any oddB=true then 150 else if (List.range vars.length).any (badV vars n)=true then 160 else 0):=by
  show _=_
  have:=E1.out
  simp [linChk,shapeB,this,e2,e3,e4,e5,e6]
 have e3':decide (1<=rel)=true:=by simp;omega
 have e4':decide (rel<=3)=true:=by simp;omega
 have e5':decide (-1099511627776<=c)=true:=by simp;omega
 have e6':decide (c<=1099511627776)=true:=by simp;omega
 go_enter Tryz.func58,Tryz.ntmps58
 go_wp2_with (first | (go_at_call 83;((with_reducible refine (within_any _ _ _ _).mono ?_);rintro e w' ⟨rfl,rfl⟩)))
 clear e3' e4' e5' e6' e1'
 go_loop [5] (fun i=>∃ k:Nat,k<=coef.length/\i=.int .i64 k/\(coef.take k).any oddB=false) (fun i=>coef.length - (intOf i).toNat)
 case atStart=>exact ⟨0,by omega,rfl,by simp⟩
 case round =>
  obtain ⟨k,hk,rfl,hnot⟩:=hrel
  have HN:=hD hnot
  clear hnot
  by_cases hlt:k<coef.length
  ·obtain ⟨b,off,cap',he,hcap,_,hc⟩:=IsAt.at H0.out (by omega)
   simp only [Value.slice.injEq,true_and] at he
   obtain ⟨rfl,rfl⟩:=he
   have hcell:=hc k hlt
   clear hc
   obtain ⟨z,hz⟩:∃ z,z=coef[k]:=⟨_,rfl⟩
   rw [<- hz] at hcell
   cases ho:oddB z with
   | true =>
    have hA:Hid (coef.any oddB=true):=by show _=_;rw [List.any_eq_true];exact ⟨coef[k],List.getElem_mem hlt,by rw [<- hz];exact ho⟩
    clear hz
    by_cases z1:-100000<=z
    ·by_cases z2:z<=100000
     ·have z0:z=0:=by simp [oddB] at ho;omega
      subst z0
      clear ho
      go_wp2_with (first | (go_at_call 83;((with_reducible refine (within_any _ _ _ _).mono ?_);rintro e w' ⟨rfl,rfl⟩)))
      go_ret
      exact ⟨ret_int (by rw [hS.out,hA.out];rfl),hB⟩
     ·have z1':decide (-100000<=z)=true:=by simpa using z1
      have z2':decide (z<=100000)=false:=by simpa using z2
      clear ho
      go_wp2_with (first | (go_at_call 83;((with_reducible refine (within_any _ _ _ _).mono ?_);rintro e w' ⟨rfl,rfl⟩)))
      go_ret
      exact ⟨ret_int (by rw [hS.out,hA.out];rfl),hB⟩
    ·have z1':decide (-100000<=z)=false:=by simpa using z1
     clear ho
     go_wp2_with (first | (go_at_call 83;((with_reducible refine (within_any _ _ _ _).mono ?_);rintro e w' ⟨rfl,rfl⟩)))
     go_ret
     exact ⟨ret_int (by rw [hS.out,hA.out];rfl),hB⟩
   | false =>
    have hF:=hD (any_take_step oddB coef k hlt HN.out (by rw [<- hz];exact ho))
    clear hz
    have z1':decide (-100000<=z)=true:=by simp [oddB] at ho;simp;omega
    have z2':decide (z<=100000)=true:=by simp [oddB] at ho;simp;omega
    have z0':(z==0)=false:=by simp [oddB] at ho;simp;omega
    clear ho
    go_wp2_with (first | (go_at_call 83;((with_reducible refine (within_any _ _ _ _).mono ?_);rintro e w' ⟨rfl,rfl⟩)))
    go_round
    case rel=>exact ⟨k+1,by omega,by go_num,hF.out⟩
    case measure=>simp [intOf];omega
  ·have hA:Hid (coef.any oddB=false):=by have:=HN.out;rwa [List.take_of_length_le (by omega)] at this
   clear HN
   have HB:=hD hB
   clear hB
   clear H0
   go_wp2
   go_loopw [6] (fun i wr=>∃ k q:Nat,k<=vars.length/\i=.int .i64 k/\wr=(w.alloc (.cells #[.slice a0 coef.length c0,.slice a1 vars.length c1,.int .i64 rel,.int .i64 c] 65)).drewN q/\(List.range k).any (badV vars n)=false) (fun i _=>vars.length - (intOf i).toNat)
   case atStart=>exact ⟨0,0,by omega,rfl,rfl,rfl⟩
   case round =>
    obtain ⟨m,q,hm,rfl,rfl,hnot⟩:=hrel
    have HN:=hD hnot
    clear hnot
    by_cases hlt:m<vars.length
    ·obtain ⟨b,off,cap',he,hcap,_,hc⟩:=IsAt.at H1.out (by omega)
     simp only [Value.slice.injEq,true_and] at he
     obtain ⟨rfl,rfl⟩:=he
     have HC:=hD hc
     have hcell:=hc m hlt
     clear hc
     obtain ⟨z,hz⟩:∃ z,z=vars[m]:=⟨_,rfl⟩
     have HZ:Hid (vars.getD m 0=z):=by show _=_;rw [hz];simp [hlt]
     rw [<- hz] at hcell
     clear hz
     by_cases z1:z<0
     ·have hF:Hid ((List.range vars.length).any (badV vars n)=true):=range_any_hit _ m _ hlt (by rw [badV,HZ.out];simp [z1])
      go_wp2
      go_ret
      exact ⟨ret_int (by rw [hS.out,hA.out,hF.out];rfl),below_drewN HB.out _⟩
     ·by_cases z2:n<=z
      ·have hF:Hid ((List.range vars.length).any (badV vars n)=true):=range_any_hit _ m _ hlt (by rw [badV,HZ.out];simp [z2])
       go_wp2
       go_ret
       exact ⟨ret_int (by rw [hS.out,hA.out,hF.out];rfl),below_drewN HB.out _⟩
      ·go_wp2
       go_loopw [7] (fun i wr=>∃ j q':Nat,j<=m/\i=.int .i64 j/\wr=(w.alloc (.cells #[.slice a0 coef.length c0,.slice (some ⟨b,off,none⟩) vars.length c1,.int .i64 rel,.int .i64 c] 65)).drewN q'/\(List.range j).any (fun j=>vars.getD j 0==z)=false) (fun i _=>m - (intOf i).toNat)
       case atStart=>exact ⟨0,q,by omega,rfl,rfl,rfl⟩
       case round =>
        obtain ⟨j,q',hj,rfl,rfl,hnot2⟩:=hrel
        have HM:=hD hnot2
        clear hnot2
        by_cases hjm:j<m
        ·have hcj:=HC.out j (by omega)
         obtain ⟨y,hy⟩:∃ y,y=vars[j]'(by omega):=⟨_,rfl⟩
         have HY:Hid (vars.getD j 0=y):=by show _=_;rw [hy];simp [show j<vars.length by omega]
         rw [<- hy] at hcj
         clear hy
         have hmc:m<c1:=by omega
         have hjc:j<c1:=by omega
         cases hyz:(y==z) with
         | true =>
          have hF:Hid ((List.range vars.length).any (badV vars n)=true):=range_any_hit _ m _ hlt (by
           have h3:(vars.take m).any (z==·)=true:=by
            rw [any_eq_range z vars m (by omega)]
            exact range_any_hit _ j _ hjm (by rw [HY.out];exact hyz)
           rw [badV,HZ.out,h3];simp)
          go_wp2
          go_quiet (fail)
          go_wp2
          go_ret
          exact ⟨ret_int (by rw [hS.out,hA.out,hF.out];rfl),below_drewN (below_drewN HB.out _) _⟩
         | false =>
          have hF:=hD (range_any_step (fun j=>vars.getD j 0==z) j HM.out (by rw [HY.out];exact hyz))
          go_wp2
          go_quiet (fail)
          go_wp2
          go_roundw
          case rel=>exact ⟨j+1,_,by omega,by go_num,rfl,hF.out⟩
          case measure=>simp [intOf];omega
        ·have hF:Hid ((List.range (m+1)).any (badV vars n)=false):=range_any_step _ m HN.out (by
          have h3:(vars.take m).any (z==·)=false:=by
           rw [any_eq_range z vars m (by omega)]
           have:=HM.out
           rwa [show j=m by omega] at this
          rw [badV,HZ.out,h3];simp;omega)
         go_wp2
         go_roundw
         case rel=>exact ⟨m+1,_,by omega,by go_num,rfl,hF.out⟩
         case measure=>simp [intOf];omega
    ·have hF:Hid ((List.range vars.length).any (badV vars n)=false):=by have:=HN.out;rwa [show m=vars.length by omega] at this
     go_wp2
     go_ret
     exact ⟨ret_int (by rw [hS.out,hA.out,hF.out];rfl),below_drewN HB.out _⟩
end
section
def butL (l:List Int) (i:Int) (k:Nat):List Int:=if 0<=i then (l.take k).eraseIdx i.toNat else l.take k
theorem butL_zero (l:List Int) (i:Int):butL l i 0=[]:=by unfold butL;split <;> simp
theorem butL_step (l:List Int) (i:Int) (k:Nat) (hk:k<l.length):butL l i (k+1)=butL l i k++(if (k:Int)=i then [] else [l[k]]):=by
 unfold butL
 have hl:(l.take k).length=k:=by rw [List.length_take];omega
 rw [List.take_succ_eq_append_getElem hk]
 by_cases h0:0<=i
 ·rw [if_pos h0,if_pos h0]
  rcases Int.lt_trichotomy (k:Int) i with h | h | h
  ·rw [if_neg (by omega),List.eraseIdx_of_length_le (by rw [List.length_append,hl];simp;omega),List.eraseIdx_of_length_le (by omega)]
  ·rw [if_pos h,List.eraseIdx_append_of_length_le (by omega),show i.toNat - (l.take k).length=0 by omega,List.eraseIdx_of_length_le (l:=l.take k) (by omega)];rfl
  ·rw [if_neg (by omega),List.eraseIdx_append_of_lt_length (by omega)]
 ·rw [if_neg h0,if_neg h0,if_neg (by omega)]
theorem butL_len (l:List Int) (i:Int) (k:Nat):(butL l i k).length<=l.length:=by
 unfold butL
 split
 ·refine Nat.le_trans (List.length_eraseIdx_le ..) ?_
  rw [List.length_take];omega
 ·rw [List.length_take];omega
theorem butL_all (l:List Int) (k:Nat):butL l (k:Int) l.length=l.eraseIdx k:=by
 unfold butL;rw [if_pos (by omega),List.take_length];rfl
theorem butL_none (l:List Int):butL l (-1) l.length=l:=by
 unfold butL;rw [if_neg (by omega),List.take_length]
theorem zip_erase:∀ (a b:List Int) (k:Nat),a.length=b.length->(a.eraseIdx k).zip (b.eraseIdx k)=(a.zip b).eraseIdx k
 | [],[],_,_=>by simp
 | x::a,y::b,0,h=>by simp
 | x::a,y::b,k+1,h=>by simp [zip_erase a b k (by simpa using h)]
 | [],_::_,_,h=>by simp at h
 | _::_,[],_,h=>by simp at h
theorem sum_erase (f:Int×Int->Int):∀ (ps:Ps) (k:Nat) (hk:k<ps.length),((ps.eraseIdx k).map f).sum=(ps.map f).sum - f ps[k]
 | p::ps,0,_=>by simp;omega
 | p::ps,k+1,h=>by
  have:=sum_erase f ps k (by simpa using h)
  simp only [List.eraseIdx_cons_succ,List.map_cons,List.sum_cons,List.getElem_cons_succ,this];omega
theorem loS_erase (ds:Ds) (ps:Ps) (k:Nat) (hk:k<ps.length):loS ds (ps.eraseIdx k)=loS ds ps - loT ps[k].1 (domOf ds ps[k].2):=sum_erase (fun p=>loT p.1 (domOf ds p.2)) ps k hk
theorem hiS_erase (ds:Ds) (ps:Ps) (k:Nat) (hk:k<ps.length):hiS ds (ps.eraseIdx k)=hiS ds ps - hiT ps[k].1 (domOf ds ps[k].2):=sum_erase (fun p=>hiT p.1 (domOf ds p.2)) ps k hk
theorem allOk_erase (ds:Ds) (ps:Ps) (k:Nat) (h:allOk ds ps=true):allOk ds (ps.eraseIdx k)=true:=by
 unfold allOk at *
 rw [List.all_eq_true] at *
 exact fun p hp=>h p (List.mem_of_mem_eraseIdx hp)
def fixedB (ds:Ds) (ps:Ps):Bool:=ps.all fun p=>decide (sizeL (norm (domOf ds p.2))=1)
theorem mul_left_cancel' {c a b:Int} (hc:c≠0) (h:c * a=c * b):a=b:=Int.eq_of_mul_eq_mul_left hc h
theorem one_ends (d:List Rg) (h:okT d=true):sizeL (norm d)=1↔(endsL (norm d)).1=(endsL (norm d)).2.1:=by
 obtain ⟨a,b⟩:=ends_in d h
 have hN:=norm_normal d
 have hB:=norm_bounds d
 constructor
 ·intro h1
  have hs:∀ x,memL (norm d) x=true->∀ y,memL (norm d) y=true->x=y:=by
   generalize norm d=L at *
   cases L with
   | nil=>simp [sizeL] at h1
   | cons r L =>
    have h2:=hB r (by simp)
    have h3:=sizeL_pos L (fun q hq=>(hB q (by simp [hq])).2.1)
    simp only [sizeL] at h1
    have h4:sizeL L=0:=by omega
    have h5:=h3.2 h4
    subst h5
    intro x hx y hy
    simp [memL] at hx hy
    omega
  exact hs _ a _ b
 ·intro h1
  have e:norm d=[((endsL (norm d)).1,(endsL (norm d)).1)]:=by
   have hb:=ends_bnd d
   refine normal_unique hN (show Normal _ from ⟨by dsimp only;omega,Int.le_refl _,by dsimp only;omega,trivial⟩) (fun n=>?_)
   rw [Bool.eq_iff_iff]
   constructor
   ·intro hn
    have:=ends_mem d n hn
    simp [memL];omega
   ·intro hn
    simp [memL] at hn
    have:n=(endsL (norm d)).1:=by omega
    rw [this];exact a
  rw [e];simp [sizeL]
theorem one_term (c:Int) (d:List Rg) (hc:c≠0) (h:okT d=true):sizeL (norm d)=1↔loT c d=hiT c d:=by
 rw [one_ends d h]
 unfold loT hiT
 by_cases h0:c<0
 ·rw [if_pos h0,if_pos h0]
  exact ⟨fun e=>by rw [e],fun e=>(mul_left_cancel' hc e).symm⟩
 ·rw [if_neg h0,if_neg h0]
  exact ⟨fun e=>by rw [e],fun e=>mul_left_cancel' hc e⟩
theorem fixed_sum (ds:Ds):∀ ps:Ps,(∀ p∈ps,p.1≠0)->allOk ds ps=true->loS ds ps<=hiS ds ps/\fixedB ds ps=decide (loS ds ps=hiS ds ps)
 | [],_,_=>⟨Int.le_refl _,rfl⟩
 | p::ps,hz,ho=>by
  simp only [allOk,List.all_cons,Bool.and_eq_true] at ho
  obtain ⟨h1,h2⟩:=fixed_sum ds ps (fun q hq=>hz q (by simp [hq])) ho.2
  have h3:=term_le p.1 _ ho.1
  have h4:=one_term p.1 _ (hz p (by simp)) ho.1
  simp only [loS,hiS,fixedB,List.map_cons,List.sum_cons,List.all_cons] at *
  refine ⟨by omega,?_⟩
  rw [h2]
  rw [Bool.eq_iff_iff,Bool.and_eq_true]
  constructor
  ·rintro ⟨a,b⟩
   have a:=h4.1 (of_decide_eq_true a)
   have b:=of_decide_eq_true b
   exact decide_eq_true (by omega)
  ·intro a
   have a:=of_decide_eq_true a
   exact ⟨decide_eq_true (h4.2 (by omega)),decide_eq_true (by omega)⟩
def staysR (rel c k lo hi:Int) (one:Bool) (x:Int):Bool :=
 if rel=3 then decide (lo<=c - k * x) else if rel=1 then decide (lo<=c - k * x)&&decide (c - k * x<=hi) else !one||!decide (c - k * x=lo)
theorem staysR_eq (rel c k lo hi x:Int) (hr:rel=1\/rel=2\/rel=3):staysR rel c k lo hi (decide (lo=hi)) x=staysP rel c k lo hi x:=by
 unfold staysR staysP
 rcases hr with rfl | rfl | rfl
 ·simp
 ·simp
 ·simp
def runG (p:Int->Bool) (lo:Int):Nat->List Rg
 | 0=>[]
 | n+1=>runG p lo n++(if p (lo+n)=true then [(lo+n,lo+n)] else [])
def goneL (p:Int->Bool) (D:List Rg):List Rg:=D.flatMap fun r=>runG p r.1 (r.2+1 - r.1).toNat
theorem runG_mem (p:Int->Bool) (lo:Int):∀ (n:Nat) (x:Int),memL (runG p lo n) x=(decide (lo<=x)&&decide (x<lo+n)&&p x)
 | 0,x=>by
  simp only [runG,memL_nil]
  have:(decide (lo<=x)&&decide (x<lo+(0:Nat)))=false:=by
   rw [Bool.and_eq_false_iff];by_cases h:lo<=x <;> simp [h]
  rw [this];rfl
 | n+1,x=>by
  rw [runG,memL_append,runG_mem p lo n x]
  by_cases hx:x=lo+n
  ·subst hx
   have e1:decide (lo+(n:Int)<lo+n)=false:=by simp
   have e2:decide (lo<=lo+(n:Int))=true:=by simp;omega
   have e3:decide (lo+(n:Int)<lo+((n+1:Nat):Int))=true:=by simp;omega
   rw [e1,e2,e3]
   by_cases hp:p (lo+n)=true
   ·rw [if_pos hp,hp];simp [memL]
   ·rw [if_neg hp];simp [memL];simpa using hp
  ·have e1:memL (if p (lo+n)=true then [(lo+(n:Int),lo+(n:Int))] else []) x=false:=by
    split
    ·simp [memL];omega
    ·rfl
   rw [e1,Bool.or_false]
   congr 2
   rw [Bool.eq_iff_iff];simp;omega
theorem memL_flatMap {α:Type} (f:α->List Rg) (x:Int):∀ D:List α,memL (D.flatMap f) x=D.any fun r=>memL (f r) x
 | []=>rfl
 | r::D=>by rw [List.flatMap_cons,memL_append,memL_flatMap f x D];rfl
theorem goneL_mem (p:Int->Bool) (D:List Rg) (x:Int):memL (goneL p D) x=(memL D x&&p x):=by
 unfold goneL
 rw [memL_flatMap]
 unfold memL
 induction D with
 | nil=>rfl
 | cons r D ih =>
  rw [List.any_cons,List.any_cons,ih]
  have h1:=runG_mem p r.1 (r.2+1 - r.1).toNat x
  unfold memL at h1
  have h2:(decide (r.1<=x)&&decide (x<r.1+((r.2+1 - r.1).toNat:Int)))=(decide (r.1<=x)&&decide (x<=r.2)):=by
   rw [Bool.eq_iff_iff];simp;omega
  rw [h1,h2]
  generalize (decide (r.1<=x)&&decide (x<=r.2))=u
  generalize (D.any fun r=>decide (r.1<=x)&&decide (x<=r.2))=v
  cases u <;> cases v <;> cases p x <;> rfl
theorem runG_len (p:Int->Bool) (lo:Int):∀ n:Nat,(runG p lo n).length<=n
 | 0=>by simp [runG]
 | n+1=>by
  have:=runG_len p lo n
  rw [runG,List.length_append]
  split <;> simp <;> omega
theorem goneL_len (p:Int->Bool):∀ D:List Rg,(∀ r∈D,r.1<=r.2)->((goneL p D).length:Int)<=sizeL D
 | [],_=>by simp [goneL,sizeL]
 | r::D,h=>by
  have ih:=goneL_len p D (fun q hq=>h q (by simp [hq]))
  have h1:=runG_len p r.1 (r.2+1 - r.1).toNat
  have h2:=h r (by simp)
  simp only [goneL,List.flatMap_cons,List.length_append,sizeL] at *
  omega
theorem runG_in (p:Int->Bool) (lo:Int):∀ (n:Nat),∀ q∈runG p lo n,lo<=q.2/\q.2<lo+n
 | 0,q,h=>by simp [runG] at h
 | n+1,q,h=>by
  rw [runG] at h
  rcases List.mem_append.1 h with h | h
  ·have:=runG_in p lo n q h;omega
  ·split at h
   ·simp at h;subst h;dsimp only;omega
   ·simp at h
theorem goneL_bnd (p:Int->Bool) (D:List Rg) (h:∀ q∈D,-200<=q.1/\q.1<=q.2/\q.2<=200):∀ r∈goneL p D,-200<=r.2/\r.2<=200:=fun r hr=>by
 obtain ⟨q,hq,h1⟩:=List.mem_flatMap.1 hr
 have h2:=runG_in p q.1 _ r h1
 have h3:=h q hq
 omega
theorem goneL_step (p:Int->Bool) (D:List Rg) (j:Nat) (hj:j<D.length):goneL p (D.take (j+1))=goneL p (D.take j)++runG p D[j].1 (D[j].2+1 - D[j].1).toNat:=by
 rw [List.take_succ_eq_append_getElem hj]
 unfold goneL
 rw [List.flatMap_append,List.flatMap_cons,List.flatMap_nil,List.append_nil]
def glue (out:List Rg) (r:Rg):List Rg :=
 match out.getLast? with
 | some p=>if p.2+1=r.1 then out.dropLast++[(p.1,r.2)] else out++[r]
 | none=>out++[r]
def glueL (G:List Rg):List Rg:=G.foldl glue []
theorem glueL_snoc (G:List Rg) (r:Rg):glueL (G++[r])=glue (glueL G) r:=by unfold glueL;rw [List.foldl_append];rfl
theorem glue_nil (r:Rg):glue [] r=[r]:=rfl
theorem glue_snoc (M:List Rg) (p r:Rg):glue (M++[p]) r=if p.2+1=r.1 then M++[(p.1,r.2)] else M++[p]++[r]:=by
 unfold glue;simp
theorem glue_len (out:List Rg) (r:Rg):(glue out r).length<=out.length+1:=by
 rcases List.eq_nil_or_concat out with rfl | ⟨M,p,rfl⟩
 ·simp [glue_nil]
 ·rw [List.concat_eq_append,glue_snoc];split <;> simp
theorem glueL_len (G:List Rg):(glueL G).length<=G.length:=by
 suffices h:∀ (G out:List Rg),(G.foldl glue out).length<=out.length+G.length by simpa [glueL] using h G []
 intro G
 induction G with
 | nil=>intro out;simp
 | cons r G ih =>
  intro out
  have h1:=ih (glue out r)
  have h2:=glue_len out r
  simp only [List.foldl_cons,List.length_cons];omega
theorem glue_mem (out:List Rg) (r:Rg) (hr:r.1=r.2) (ho:∀ q∈out,q.1<=q.2):(∀ x,memL (glue out r) x=(memL out x||memL [r] x))/\∀ q∈glue out r,q.1<=q.2:=by
 rcases List.eq_nil_or_concat out with rfl | ⟨M,p,rfl⟩
 ·rw [glue_nil];exact ⟨fun x=>by simp [memL],fun q hq=>by simp at hq;subst hq;omega⟩
 ·rw [List.concat_eq_append] at *
  have hp:=ho p (by simp)
  rw [glue_snoc]
  split
  ·rename_i h
   refine ⟨fun x=>?_,fun q hq=>?_⟩
   ·rw [memL_append,memL_append,Bool.or_assoc]
    congr 1
    simp only [memL,List.any_cons,List.any_nil,Bool.or_false]
    rw [Bool.eq_iff_iff];simp;omega
   ·rcases List.mem_append.1 hq with h1 | h1
    ·exact ho q (by simp [h1])
    ·simp at h1;subst h1;dsimp only;omega
  ·refine ⟨fun x=>by rw [memL_append],fun q hq=>?_⟩
   rcases List.mem_append.1 hq with h1 | h1
   ·exact ho q h1
   ·simp at h1;subst h1;omega
theorem glueL_mem:∀ (G:List Rg),(∀ r∈G,r.1=r.2)->(∀ x,memL (glueL G) x=memL G x)/\∀ q∈glueL G,q.1<=q.2:=by
 suffices h:∀ (G out:List Rg),(∀ r∈G,r.1=r.2)->(∀ q∈out,q.1<=q.2)->(∀ x,memL (G.foldl glue out) x=(memL out x||memL G x))/\∀ q∈G.foldl glue out,q.1<=q.2 from
  fun G hG=>by simpa [glueL,memL_nil] using h G [] hG (by simp)
 intro G
 induction G with
 | nil=>intro out _ ho;exact ⟨fun x=>by simp [memL_nil],ho⟩
 | cons r G ih =>
  intro out hG ho
  obtain ⟨h1,h2⟩:=glue_mem out r (hG r (by simp)) ho
  obtain ⟨h3,h4⟩:=ih (glue out r) (fun q hq=>hG q (by simp [hq])) h2
  refine ⟨fun x=>?_,h4⟩
  rw [List.foldl_cons,h3,h1,Bool.or_assoc,<- memL_append];rfl
theorem goneL_single (p:Int->Bool) (D:List Rg):∀ r∈goneL p D,r.1=r.2:=fun r hr=>by
 obtain ⟨q,_,h⟩:=List.mem_flatMap.1 hr
 revert h
 generalize (q.2+1 - q.1).toNat=n
 induction n with
 | zero=>intro h;simp [runG] at h
 | succ n ih =>
  intro h
  rw [runG] at h
  rcases List.mem_append.1 h with h | h
  ·exact ih h
  ·split at h
   ·simp at h;subst h;rfl
   ·simp at h
theorem glueL_bnd:∀ (G:List Rg),(∀ r∈G,-200<=r.2/\r.2<=200)->∀ q∈glueL G,-200<=q.2/\q.2<=200:=by
 suffices h:∀ (G out:List Rg),(∀ r∈G,-200<=r.2/\r.2<=200)->(∀ q∈out,-200<=q.2/\q.2<=200)->∀ q∈G.foldl glue out,-200<=q.2/\q.2<=200 from
  fun G hG=>h G [] hG (by simp)
 intro G
 induction G with
 | nil=>intro out _ ho;exact ho
 | cons r G ih =>
  intro out hG ho
  refine ih (glue out r) (fun q hq=>hG q (by simp [hq])) (fun q hq=>?_)
  have hr:=hG r (by simp)
  rcases List.eq_nil_or_concat out with rfl | ⟨M,p,rfl⟩
  ·rw [glue_nil] at hq;simp at hq;subst hq;exact hr
  ·rw [List.concat_eq_append] at *
   rw [glue_snoc] at hq
   split at hq
   ·rcases List.mem_append.1 hq with h1 | h1
    ·exact ho q (by simp [h1])
    ·simp at h1;subst h1;exact hr
   ·rcases List.mem_append.1 hq with h1 | h1
    ·exact ho q h1
    ·simp at h1;subst h1;exact hr
def leftR (D:List Rg) (p:Int->Bool):List Rg:=if goneL p D=[] then D else minusL D (norm (glueL (goneL p D)))
theorem leftR_eq (D:List Rg) (hD:Normal D) (st:Int->Bool):leftR D (fun x=>!st x)=canon fun x=>memL D x&&st x:=by
 unfold leftR
 by_cases h:goneL (fun x=>!st x) D=[]
 ·rw [if_pos h]
  refine is_canon hD (fun n _ _=>?_)
  have:=goneL_mem (fun x=>!st x) D n
  rw [h,memL_nil] at this
  cases h1:memL D n <;> cases h2:st n <;> simp [h1,h2] at this |-
 ·rw [if_neg h]
  unfold minusL
  refine canon_congr fun n h1 h2=>?_
  rw [memL_norm,(glueL_mem _ (goneL_single _ D)).1,goneL_mem]
  simp only [inD,h1,h2,decide_true,Bool.true_and]
  cases memL D n <;> cases st n <;> rfl
theorem left_narrow (rel c:Int) (hr:rel=1\/rel=2\/rel=3) (ds:Ds) (ps:Ps) (k:Nat) (hk:k<ps.length) (hz:∀ p∈ps,p.1≠0) (ho:allOk ds ps=true) :
  leftR (norm (domOf ds ps[k].2)) (fun x=>!staysR rel c ps[k].1 (loS ds (ps.eraseIdx k)) (hiS ds (ps.eraseIdx k)) (fixedB ds (ps.eraseIdx k)) x)=narrowAt rel c ds (loS ds ps) (hiS ds ps) ps[k]:=by
 rw [leftR_eq _ (norm_normal _)]
 have h1:=(fixed_sum ds (ps.eraseIdx k) (fun p hp=>hz p (List.mem_of_mem_eraseIdx hp)) (allOk_erase ds ps k ho)).2
 rw [h1]
 unfold narrowAt narrowL
 refine canon_congr fun n h1 h2=>?_
 rw [staysR_eq _ _ _ _ _ _ hr,loS_erase ds ps k hk,hiS_erase ds ps k hk,memL_norm]
 simp [inD,h1,h2]
end
section
open Go.RowKit
structure GoodL (coef vars:List Int) (ds:Ds):Prop where
 len:coef.length=vars.length
 le16:coef.length<=16
 coefs:∀ c∈coef,-100000<=c/\c<=100000
 vars:∀ v∈vars,0<=v/\v<ds.length
 doms:∀ d∈ds,d.length<=4096
theorem IsAt.shape {w:World} {v:Value} {zs:List Int} (h:IsAt w v zs):∃ ao cap,v=.slice ao zs.length cap/\zs.length<=cap/\cap<=maxLen:=SlAt.shape h
theorem GoodL.zip_len {coef vars:List Int} {ds:Ds} (h:GoodL coef vars ds):(coef.zip vars).length=coef.length:=by
 rw [List.length_zip,<- h.len];omega
def spans (ds:Ds) (ps:Ps):List Rg:=ps.map fun p=>(loT p.1 (domOf ds p.2),hiT p.1 (domOf ds p.2))
theorem spans_length (ds:Ds) (ps:Ps):(spans ds ps).length=ps.length:=by simp [spans]
theorem domOf_in (ds:Ds) (v:Int) (h:0<=v/\v<ds.length):∃ n:Nat,v=n/\∃ hn:n<ds.length,domOf ds v=ds[n]:=by
 obtain ⟨h1,h2⟩:=h
 refine ⟨v.toNat,by omega,by omega,?_⟩
 unfold domOf
 rw [List.getD_eq_getElem?_getD,List.getElem?_eq_getElem (by omega)];rfl
theorem IsAt.get {w:World} {ao:Option Addr} {n cap:Nat} {zs:List Int} (h:IsAt w (.slice ao n cap) zs) (k:Nat) (hk:k<zs.length) :
  ∃ b off,ao=some ⟨b,off,none⟩/\zs.length<=cap/\b<w.heap.size/\w.cell? ⟨b,off+k,none⟩=some (.int .i64 zs[k]):=by
 obtain ⟨b,off,c',he,hc,hb,hx⟩:=IsAt.at h (by omega)
 simp only [Value.slice.injEq] at he
 obtain ⟨rfl,rfl,rfl⟩:=he
 exact ⟨b,off,rfl,hc,hb,hx k hk⟩
theorem row_facts {w:World} {a0 a1 a2:Option Addr} {c0 c1 c2:Nat} {coef vars:List Int} {ds:Ds} (h0:IsAt w (.slice a0 coef.length c0) coef) (h1:IsAt w (.slice a1 vars.length c1) vars) (hd:DsAt w (.slice a2 ds.length c2) ds) (hg:GoodL coef vars ds) :
  ∀ k,(hk:k<(coef.zip vars).length)->∃ (b0 o0 b1 o1 b2 o2 n:Nat) (ao:Option Addr) (cap:Nat) (cf:Int) (d:List Rg),
   (a0=some ⟨b0,o0,none⟩/\a1=some ⟨b1,o1,none⟩/\a2=some ⟨b2,o2,none⟩)/\(coef.length<=c0/\vars.length<=c1/\ds.length<=c2)/\(b0<w.heap.size/\b1<w.heap.size/\b2<w.heap.size)/\n<ds.length /\
   w.cell? ⟨b0,o0+k,none⟩=some (.int .i64 cf)/\w.cell? ⟨b1,o1+k,none⟩=some (.int .i64 (n:Int))/\w.cell? ⟨b2,o2+n,none⟩=some (.slice ao d.length cap)/\RgAt w (.slice ao d.length cap) d /\
   (coef.zip vars)[k]=(cf,(n:Int))/\domOf ds n=d/\d.length<=4096/\-100000<=cf/\cf<=100000:=fun k hk=>by
 have hkc:k<coef.length:=by rw [<- hg.zip_len];exact hk
 have hkv:k<vars.length:=by rw [<- hg.len];exact hkc
 obtain ⟨b0,o0,rfl,q0,l0,x0⟩:=h0.get k hkc
 obtain ⟨b1,o1,rfl,q1,l1,x1⟩:=h1.get k hkv
 obtain ⟨n,e1,hn,e2⟩:=domOf_in ds vars[k] (hg.vars _ (List.getElem_mem _))
 obtain ⟨b2,o2,ao,cap,rfl,q2,l2,_,x2,x3⟩:=hd.get n hn
 rw [e1] at x1 e2
 have hc:=hg.coefs _ (List.getElem_mem hkc)
 exact ⟨b0,o0,b1,o1,b2,o2,n,ao,cap,coef[k],ds[n],⟨rfl,rfl,rfl⟩,⟨q0,q1,q2⟩,⟨l0,l1,l2⟩,hn,x0,x1,x2,x3,by rw [List.getElem_zip,e1],e2,hg.doms _ (List.getElem_mem _),hc.1,hc.2⟩
theorem loT_bnd (c:Int) (d:List Rg) (hc:-100000<=c/\c<=100000):(-20000000<=loT c d/\loT c d<=20000000)/\(-20000000<=hiT c d/\hiT c d<=20000000):=by
 obtain ⟨b1,b2,b3,b4⟩:=ends_bnd d
 have m1:=mul_bnd (endsL (norm d)).1 c 100000 ⟨b1,b2⟩ hc
 have m2:=mul_bnd (endsL (norm d)).2.1 c 100000 ⟨b3,b4⟩ hc
 unfold loT hiT
 split <;> omega
theorem sum_take_bnd (f:Int×Int->Int) (B:Int):∀ (ps:Ps),(∀ p∈ps,-B<=f p/\f p<=B)->-(B * ps.length)<=(ps.map f).sum/\(ps.map f).sum<=B * ps.length
 | [],_=>by simp
 | p::ps,h=>by
  have h1:=sum_take_bnd f B ps (fun q hq=>h q (by simp [hq]))
  have h2:=h p (by simp)
  simp only [List.map_cons,List.sum_cons,List.length_cons]
  push_cast
  rw [Int.mul_add]
  omega
theorem sums_bnd {coef vars:List Int} {ds:Ds} (hg:GoodL coef vars ds):∀ k,(-320000000<=loS ds ((coef.zip vars).take k)/\loS ds ((coef.zip vars).take k)<=320000000)/\(-320000000<=hiS ds ((coef.zip vars).take k)/\hiS ds ((coef.zip vars).take k)<=320000000):=fun k=>by
 have hl:((coef.zip vars).take k).length<=16:=by
  rw [List.length_take,hg.zip_len];have:=hg.le16;omega
 have hc:∀ p∈(coef.zip vars).take k,-100000<=p.1/\p.1<=100000:=fun p hp=>hg.coefs _ (List.of_mem_zip (List.mem_of_mem_take hp:(p.1,p.2)∈coef.zip vars)).1
 have h1:=sum_take_bnd (fun p=>loT p.1 (domOf ds p.2)) 20000000 _ (fun p hp=>(loT_bnd p.1 (domOf ds p.2) (hc p hp)).1)
 have h2:=sum_take_bnd (fun p=>hiT p.1 (domOf ds p.2)) 20000000 _ (fun p hp=>(loT_bnd p.1 (domOf ds p.2) (hc p hp)).2)
 unfold loS hiS
 constructor <;> constructor <;> omega
theorem sums_step {coef vars:List Int} {ds:Ds} (_:GoodL coef vars ds):∀ k,(hk:k<(coef.zip vars).length)->∀ cf n d,(coef.zip vars)[k]=(cf,n)->domOf ds n=d ->
  loS ds ((coef.zip vars).take (k+1))=loS ds ((coef.zip vars).take k)+loT cf d/\hiS ds ((coef.zip vars).take (k+1))=hiS ds ((coef.zip vars).take k)+hiT cf d /\
  spans ds ((coef.zip vars).take (k+1))=spans ds ((coef.zip vars).take k)++[(loT cf d,hiT cf d)] /\
  (allOk ds ((coef.zip vars).take k)=true->okT d=true->allOk ds ((coef.zip vars).take (k+1))=true)/\(okT d=false->allOk ds (coef.zip vars)=false):=fun k hk cf n d e1 e2=>by
 subst e2
 rw [List.take_succ_eq_append_getElem hk,e1]
 refine ⟨by simp [loS],by simp [hiS],by simp [spans],fun h1 h2=>?_,fun h=>?_⟩
 ·unfold allOk at *
  rw [List.all_append,h1];simpa using h2
 ·unfold allOk
  rw [List.all_eq_false]
  exact ⟨(coef.zip vars)[k],List.getElem_mem _,by rw [e1];simpa using h⟩
end
end Go.Proofs.YtaekdgikgbdnnaaGreat
