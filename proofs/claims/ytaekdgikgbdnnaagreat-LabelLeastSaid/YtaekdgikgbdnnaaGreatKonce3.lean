/-
  LISTS OF MARKS IN MEMORY; coneyref17.named, walked.
  slices.Clone of ranges and of integers; rel.down, rel.up, walked.
  rel.Once's closures: what keeps a set, what asks whether one is empty; walked.
  rel.Once asks whether a set is empty; walked.
  The linear constraint's narrow, walked.
-/
import Derived.Test.YtaekdgikgbdnnaaGreatKonce2
import Derived.Test.YtaekdgikgbdnnaaGreatKrel1
import Derived.Test.YtaekdgikgbdnnaaGreatKonce1
import Derived.Test.YtaekdgikgbdnnaaGreatKdom3
import Derived.Test.YtaekdgikgbdnnaaGreatKlin2
import Derived.Test.YtaekdgikgbdnnaaGreatKdom2
import Derived.Test.YtaekdgikgbdnnaaGreatKlin1
import Derived.Lib.SliceRun
import Derived.Test.YtaekdgikgbdnnaaGreatKlin5
import Derived.Test.YtaekdgikgbdnnaaGreatKrel3
namespace Go.Proofs.YtaekdgikgbdnnaaGreat
section
open Go.RowKit
def BoAt (w:World) (v:Value) (bs:List Bool):Prop:=SlAt w 1 v bs.length (bs.map Value.bool)
theorem BoAt.below {w w':World} {v:Value} {bs:List Bool} (h:BoAt w v bs) (hb:Below w.heap.size w w'):BoAt w' v bs:=SlAt.below h hb
theorem BoAt.getR {w:World} {ao:Option Addr} {n cap:Nat} {bs:List Bool} (h:BoAt w (.slice ao n cap) bs) (k:Nat) (hk:k<bs.length) :
  ∃ b off,ao=some ⟨b,off,none⟩/\n=bs.length/\b<w.heap.size/\w.cell? ⟨b,off+k,none⟩=some (.bool bs[k]):=by
 obtain ⟨b,off,c',he,_,_,hb,hx⟩:=SlAt.pos h (by omega)
 simp only [Value.slice.injEq] at he
 obtain ⟨rfl,rfl,rfl⟩:=he
 exact ⟨b,off,rfl,rfl,hb,by rw [hx k (by omega),List.getElem?_map,List.getElem?_eq_getElem hk];rfl⟩
theorem marked_snoc {vs:List Int} {on:List Bool} {k:Nat} (hk:k<vs.length) (h:marked (vs.take k) on=false) (h2:on.getD vs[k].toNat false=false):marked (vs.take (k+1)) on=false:=by
 unfold marked at *
 rw [List.take_succ_eq_append_getElem hk,List.any_append,h]
 simp only [List.any_cons,List.any_nil,h2,Bool.or_self]
set_option maxRecDepth 100000
set_option maxHeartbeats 1600000
theorem named_c (vv von:Value) (vs:List Int) (on:List Bool) (w:World) (h1:IsAt w vv vs) (h2:BoAt w von on) (hv:∀ v∈vs,0<=v/\v.toNat<on.length) (hvl:vs.length<=4096) :
  Calls Tryz.prog 73 #[vv,von] w fun e w'=>e=.returned (.bool (marked vs on))/\w=w':=by
 obtain ⟨a1,c1,rfl,_⟩:=SlAt.shape h1
 obtain ⟨a2,c2,rfl,_⟩:=SlAt.shape h2
 have H1:=hD h1
 have H2:=hD h2
 have HV:=hD hv
 clear h1 h2 hv
 go_enter Tryz.func73,Tryz.ntmps73
 go_wp2
 go_loop [5] (fun s=>∃ k:Nat,k<=vs.length/\s=.int .i64 k/\Hid (marked (vs.take k) on=false)) (fun s=>vs.length - (intOf s).toNat)
 case atStart=>exact ⟨0,by omega,rfl,rfl⟩
 case round =>
  obtain ⟨k,hk,rfl,HM⟩:=hrel
  by_cases hlt:k<vs.length
  ·obtain ⟨b1,o1,rfl,q1,q2,x1⟩:=H1.out.getR k hlt
   have hvk:=HV.out _ (List.getElem_mem hlt)
   obtain ⟨nv,hnv⟩:=Int.eq_ofNat_of_zero_le hvk.1
   have hnl:nv<on.length:=by have:=hvk.2;omega
   obtain ⟨b2,o2,rfl,_,q4,x2⟩:=H2.out.getR nv hnl
   have j1:(k:Int)<vs.length:=by omega
   have j2:(nv:Int)<on.length:=by omega
   have hg:on.getD vs[k].toNat false=on[nv]:=by rw [hnv,Int.toNat_natCast,List.getD_eq_getElem?_getD,List.getElem?_eq_getElem hnl];rfl
   have HT:Hid (on[nv]=true->marked vs on=true):=fun h=>marked_of (List.getElem_mem hlt) (hg.trans h)
   have HF:Hid (on[nv]=false->marked (vs.take (k+1)) on=false):=fun h=>marked_snoc hlt HM.out (hg.trans h)
   rw [hnv] at x1
   clear hg hvk
   generalize on[nv]=bv at *
   clear hnv hnl
   cases bv
   ·have HF2:=hD (HF.out rfl)
    clear HF HT
    go_wp2
    exact ⟨⟨k+1,by omega,by go_num,HF2⟩,by simp [intOf];omega⟩
   ·have HT2:=hD (HT.out rfl)
    clear HF HT
    go_wp2
    go_ret
    exact ⟨ret_bool HT2.out.symm,rfl⟩
  ·obtain rfl:k=vs.length:=by omega
   have HF2:Hid (marked vs on=false):=by have:=HM.out;rwa [List.take_length] at this
   go_wp2
   go_ret
   exact ⟨ret_bool HF2.out.symm,rfl⟩
theorem RgAt.setBool {w:World} {v:Value} {rs:List Rg} (h:RgAt w v rs) {a:Addr} {c:Bool} (hs:w.cell? a=some (.bool c)) (u:Value):RgAt (w.setCell a u) v rs:=by
 obtain ⟨h1,ao0,cap,rfl,h2,h3,h5,h4⟩:=h
 refine ⟨h1,ao0,cap,rfl,h2,h3,h5,fun hp=>?_⟩
 obtain ⟨b,off,rfl,hlt,hc⟩:=h4 hp
 refine ⟨b,off,rfl,by simpa [World.setCell] using hlt,fun j hj=>?_⟩
 rw [<- hc j hj]
 have hj2:j / 2<rs.length:=by omega
 have hint:∃ z,(cellsR rs)[j]?=some (.int .i64 z):=by
  obtain ⟨a1,a2⟩:=cellsR_at rs (j / 2) hj2
  rcases (show j % 2=0\/j % 2=1 by omega) with h | h
  ·exact ⟨_,by rw [show j=j / 2 * 2 by omega];exact a1⟩
  ·exact ⟨_,by rw [show j=j / 2 * 2+1 by omega];exact a2⟩
 obtain ⟨z,hz⟩:=hint
 exact World.cell?_setCell_other _ _ _ _ (fun he=>by
  have:=hc j hj
  rw [<- he,hs,hz] at this
  cases this)
theorem DsAt.setBool {w:World} {v:Value} {ds:Ds} (h:DsAt w v ds) {a:Addr} {c:Bool} (hs:w.cell? a=some (.bool c)) (u:Value):DsAt (w.setCell a u) v ds:=by
 obtain ⟨us,h1,⟨k1,ao,cap,rfl,k2,k3,k4,k5⟩,h3⟩:=h
 refine ⟨us,h1,⟨k1,ao,cap,rfl,k2,k3,k4,fun hp=>?_⟩,fun j hj=>?_⟩
 ·obtain ⟨b,off,rfl,hlt,hc⟩:=k5 hp
  refine ⟨b,off,rfl,by simpa [World.setCell] using hlt,fun j hj=>?_⟩
  rw [<- hc j hj]
  refine World.cell?_setCell_other _ _ _ _ (fun he=>?_)
  obtain ⟨x,e1,e2⟩:=h3 j (by omega)
  obtain ⟨ao',cap',rfl,_⟩:=e2.shape
  have:=hc j hj
  rw [<- he,hs,e1] at this
  cases this
 ·obtain ⟨x,e1,e2⟩:=h3 j hj
  exact ⟨x,e1,e2.setBool hs u⟩
theorem IsAt.setBool {w:World} {v:Value} {zs:List Int} (h:IsAt w v zs) {a:Addr} {c:Bool} (hs:w.cell? a=some (.bool c)) (u:Value):IsAt (w.setCell a u) v zs:=by
 obtain ⟨k1,ao,cap,rfl,k2,k3,k4,k5⟩:=h
 refine ⟨k1,ao,cap,rfl,k2,k3,k4,fun hp=>?_⟩
 obtain ⟨b,off,rfl,hlt,hc⟩:=k5 hp
 refine ⟨b,off,rfl,by simpa [World.setCell] using hlt,fun j hj=>?_⟩
 rw [<- hc j hj]
 refine World.cell?_setCell_other _ _ _ _ (fun he=>?_)
 have:=hc j hj
 rw [<- he,hs,List.getElem?_map,List.getElem?_eq_getElem (by omega)] at this
 cases this
theorem clone_n (va:Value) (a:List Rg) (w:World) (ha:RgAt w va a) (hla:a.length<=4096) :
  Calls Tryz.prog 90 #[va] w (RetN a w):=by
 obtain ⟨i0,hi,hz0,hz1,hz2⟩:=info_parts Tryz.infoRg
 obtain ⟨ao,cap,rfl,_⟩:=ha.shape
 have q22:∀ (w:World) (a:Option Addr) (n c n' c':Nat),(binOp .eql 61 (.slice a n c) (.slice none n' c')).run Tryz.prog w=.ok (.bool a.isNone) w:=fun w a n c n' c'=>Lib.run_eql_slice_nil w _ _ a n c n' c' Tryz.underlying61
 have H:=Lib.hid ha
 have hc:=SlAt.none_cap ha
 have hs:=ha.shape
 cases ao with
 | none =>
  have h0:cap=0:=hc rfl
  subst h0
  obtain ⟨_,_,he,h1,_⟩:=hs
  simp only [Value.slice.injEq,true_and] at he
  obtain ⟨rfl,rfl⟩:=he
  have h2:a=[]:=List.eq_nil_of_length_eq_zero (by omega)
  subst h2
  clear h1 hc ha H
  go_enter Tryz.func90,Tryz.ntmps90
  go_wp2
  go_ret
  exact ⟨none,0,rfl,RgAt.nil,Below.refl _ _,fun b hb=>by cases hb⟩
 | some ad =>
  clear hc ha hs
  have HM:Hid ((w.alloc (.cells #[] 77)).ownsRow w.heap.size 77 2 (.slice (some ⟨w.heap.size,0,none⟩) 0 0) 0 []):=World.ownsRow_made w #[] 0 (rN _) (by decide) rfl
  have HB:Hid (Below w.heap.size w (w.alloc (.cells #[] 77))):=bA _
  go_enter Tryz.func90,Tryz.ntmps90
  go_wp2_with (at_builtin;refine wpList_append_sl rfl (.tmp 5) (.tmp 6) 61 rfl w.heap.size 77 i0 (.agg #[.int .i64 0,.int .i64 0]) 2 16 Tryz.underlying61 hi hz0 hz1 hz2 rfl (by decide) _ 0 [] rfl HM.out _ a.length _ rfl (SlAt.below H.out HB.out) (cellsR_one a) (by omega) (by simp) ?_;intro v1 w1 o1 b1 _)
  rw [Nat.zero_add,List.nil_append] at o1
  have hn:∀ b,v1.ownBlock=some b->w.heap.size<=b:=ownBlock_ge o1
  obtain ⟨oa,oc,rfl,_⟩:=(SlAt.of_own o1).shape
  have hb:=Lib.hid (HB.out.trans b1)
  have hs:=Lib.hid (RgAt.own o1)
  have hn2:=Lib.hid hn
  clear o1 b1 hn
  go_ret
  exact ⟨_,_,rfl,hs.out,hb.out,hn2.out⟩
def RetI (L:List Int) (w:World) (e:Ending) (w':World):Prop:=∃ ao cap,e=.returned (.slice ao L.length cap)/\IsAt w' (.slice ao L.length cap) L/\(∃ B,w'.ownsRow B 3 1 (.slice ao L.length cap) L.length (L.map (Value.int .i64))/\w.heap.size<=B)/\Below w.heap.size w w'
theorem cloneI_n (va:Value) (a:List Int) (w:World) (ha:IsAt w va a) (hla:a.length<=4096) :
  Calls Tryz.prog 176 #[va] w (RetI a w):=by
 obtain ⟨i0,hi,hz0,hz1,hz2⟩:=info_parts Tryz.infoIntR
 obtain ⟨ao,cap,rfl,_⟩:=SlAt.shape ha
 have q22:∀ (w:World) (a:Option Addr) (n c n' c':Nat),(binOp .eql 26 (.slice a n c) (.slice none n' c')).run Tryz.prog w=.ok (.bool a.isNone) w:=fun w a n c n' c'=>Lib.run_eql_slice_nil w _ _ a n c n' c' Tryz.underlying26
 have H:=Lib.hid ha
 have hc:=SlAt.none_cap ha
 have hs:=SlAt.shape ha
 cases ao with
 | none =>
  have h0:cap=0:=hc rfl
  subst h0
  obtain ⟨_,_,he,h1,_⟩:=hs
  simp only [Value.slice.injEq,true_and] at he
  obtain ⟨rfl,rfl⟩:=he
  have h2:a=[]:=List.eq_nil_of_length_eq_zero (by omega)
  subst h2
  clear h1 hc ha H
  go_enter Tryz.func176,Tryz.ntmps176
  go_wp2
  go_ret
  exact ⟨none,0,rfl,SlAt.nil,⟨w.heap.size,⟨rfl,.inl ⟨rfl,rfl⟩⟩,rN _⟩,Below.refl _ _⟩
 | some ad =>
  clear hc ha hs
  have HM:Hid ((w.alloc (.cells #[] 3)).ownsRow w.heap.size 3 1 (.slice (some ⟨w.heap.size,0,none⟩) 0 0) 0 []):=World.ownsRow_made w #[] 0 (rN _) (by decide) rfl
  have HB:Hid (Below w.heap.size w (w.alloc (.cells #[] 3))):=bA _
  go_enter Tryz.func176,Tryz.ntmps176
  go_wp2_with (at_builtin;refine wpList_append_sl rfl (.tmp 5) (.tmp 6) 26 rfl w.heap.size 3 i0 (.int .i64 0) 1 8 Tryz.underlying26 hi hz0 hz1 hz2 rfl (by decide) _ 0 [] rfl HM.out _ a.length _ rfl (SlAt.below H.out HB.out) (one_ints a) (by omega) (by simp) ?_;intro v1 w1 o1 b1 _)
  rw [Nat.zero_add,List.nil_append] at o1
  obtain ⟨oa,oc,rfl,_⟩:=(SlAt.of_own o1).shape
  have hb:=Lib.hid (HB.out.trans b1)
  have hs:=Lib.hid o1
  clear o1 b1
  go_ret
  exact ⟨_,_,rfl,SlAt.of_own hs.out,⟨_,hs.out,rN _⟩,hb.out⟩
theorem beqf' {a b:Int} (h:a≠b):(a==b)=false:=beq_eq_false_iff_ne.2 h
theorem down_c (a b:Int) (hb:b≠0) (ha:-100000<=a/\a<=100000) (_hb2:-100000<=b/\b<=100000) (w:World) :
  Calls Tryz.prog 188 #[.int .i64 a,.int .i64 b] w fun e w'=>e=.returned (.int .i64 (downI a b))/\w=w':=by
 have h1:-100000<=a.tdiv b/\a.tdiv b<=100000:=by
  have:=Int.natAbs_tdiv a b
  have h2:(a.tdiv b).natAbs<=a.natAbs:=by rw [this];exact Nat.div_le_self _ _
  omega
 have hz:(b==0)=false:=beqf' hb
 unfold downI
 by_cases g1:a.tmod b=0
 ·rw [if_neg (fun h=>h.1 g1)]
  go_enter Tryz.func188,Tryz.ntmps188
  go_wp2
  go_ret
  exact ⟨rfl,rfl⟩
 ·have g1':(a.tmod b==0)=false:=beqf' g1
  have k1:0<=a->¬ a % b=0:=fun h=>by rw [<- Int.tmod_eq_emod_of_nonneg h];exact g1
  by_cases g2:a<0
  ·by_cases g3:b<0
   ·rw [if_neg (fun h=>(h.2.1 g2) g3)]
    go_enter Tryz.func188,Tryz.ntmps188
    go_wp2
    go_ret
    exact ⟨rfl,rfl⟩
   ·rw [if_pos ⟨g1,fun _=>g3,fun _=>g2⟩]
    go_enter Tryz.func188,Tryz.ntmps188
    go_wp2
    go_ret
    exact ⟨rfl,rfl⟩
  ·have k2:=k1 (by omega)
   have k3:(a % b==0)=false:=beqf' k2
   have k4:(a % b != 0)=true:=by simpa using k2
   by_cases g3:b<0
   ·rw [if_pos ⟨g1,fun h=>absurd h g2,fun h=>absurd g3 h⟩]
    go_enter Tryz.func188,Tryz.ntmps188
    go_wp2
    go_ret
    exact ⟨rfl,rfl⟩
   ·rw [if_neg (fun h=>g2 (h.2.2 g3))]
    go_enter Tryz.func188,Tryz.ntmps188
    go_wp2
    go_ret
    exact ⟨rfl,rfl⟩
theorem up_c (a b:Int) (hb:b≠0) (ha:-100000<=a/\a<=100000) (hb2:-100000<=b/\b<=100000) (w:World) :
  Calls Tryz.prog 187 #[.int .i64 a,.int .i64 b] w fun e w'=>e=.returned (.int .i64 (upI a b))/\w=w':=by
 have CD:=Lib.hid (down_c (-a) b hb (by omega) hb2 w)
 have hbd:-100001<=downI (-a) b/\downI (-a) b<=100000:=by
  have h1:((-a).tdiv b).natAbs<=(-a).natAbs:=by rw [Int.natAbs_tdiv];exact Nat.div_le_self _ _
  unfold downI;split <;> omega
 unfold upI
 generalize downI (-a) b=d at *
 go_enter Tryz.func187,Tryz.ntmps187
 go_wp2_with (go_at_call 188;(with_reducible refine CD.out.mono ?_);rintro e w' ⟨rfl,rfl⟩)
 go_ret
 exact ⟨rfl,rfl⟩
theorem wpList_append2L {P:Program} {ops:Array Oper} {rest:List Oper} {o:Oper} {a:Act} {w:World} {Q:Exit->Act->World->Prop} (hgd:o.guard=none) (s x:Operand) (t:TypeId)
  (ho:o.op=.call { callee:=.builtin .append,args:=#[s,x],argTypes:=#[t,t] })
  (base:Nat) (e:TypeId) (i:TypeInfo) (z:Value) (bytes:Nat) (ht:P.underlying t=some (.slice e)) (hi:P.info? e=some i) (hz:i.zero=some z)
  (hsize:i.size=2) (hby:i.bytes=bytes) (hzs:z.cells.size=2)
  (v:Value) (n:Nat) (xs:List Value) (hs:a.eval s=v) (hown:w.ownsRow base e 2 v n xs) {e':TypeId}
  (u1 u2:Value) {g0:Nat} (hx:a.eval x=.slice (some ⟨g0,0,none⟩) 1 1) (hg:w.heap.size=g0) (h1:u1.oneCell'=true) (h2:u2.oneCell'=true)
  (hbytes:(n+1) * bytes<=140737488355328/\n+1<=140737488355328) (hbase:base<=w.heap.size)
  (h:∀ g cap w',w'.ownsRow base e 2 (.slice (some ⟨g,0,none⟩) (n+1) cap) (n+1) (xs++[u1,u2])->Below base w w'->KeepsBut w w' v->(v.ownBlock=some g\/w.heap.size<=g)->wpList P ops Q rest (a.put o.dst (.slice (some ⟨g,0,none⟩) (n+1) cap)) w') :
  wpList P ops Q (o::rest) a (w.alloc (.cells #[u1,u2] e')):=by
 subst hg
 refine wpList_append_lies _ hgd s x t ho base e i z 2 bytes ht hi hz hsize hby hzs (by decide) v n xs hs (hown.alloc _) ⟨w.heap.size,0,none⟩ 1 1 [u1,u2] hx rfl ?_ ?_ (by decide) ?_ hbytes.1 (by simp;omega) _ rfl ?_
 ·intro j y hj
  match j,hj with
  | 0,hj=>simp at hj;subst hj;simp [Addr.add]
  | 1,hj=>simp at hj;subst hj;simp [Addr.add]
 ·intro y hy;simp at hy;rcases hy with rfl | rfl <;> assumption
 ·unfold maxLen;omega
 ·intro g cap w' r1 r2 r3 _
  refine h g cap w' r1 (below_grown hbase r2 (ownBlock_ge hown)) (fun b hb hne=>?_) ?_
  ·rw [r2.block b (by simp;omega) (fun he=>hne he.symm)]
   exact Below.heap_alloc w _ b hb
  ·rcases r3 with h3 | h3
   ·exact .inl h3
   ·right;rw [h3];simp
theorem sizeL_le {D:List Rg} (h:Normal D):0<=sizeL D/\sizeL D<=402:=sizeL_bounds D (-200) (by decide) h
theorem factors_eq {D:List Rg} (lo hi a b:Int):norm (goneL (fun v=>hasQ v lo hi a b) D)=factorsL D lo hi a b:=by
 unfold norm factorsL
 refine canon_congr fun n _ _=>?_
 rw [goneL_mem,hasQ_eq]
set_option maxHeartbeats 3200000
theorem factors_c (va:Value) (D:List Rg) (lo hi a b:Int) (w:World) (hd:RgAt w va D) (hD:Normal D) (_h1:-200<=lo/\lo<=200) (_h2:-200<=hi/\hi<=200) (h3:-200<=a/\a<=200) (h4:-200<=b/\b<=200) :
  Calls Tryz.prog 184 #[va,.int .i64 lo,.int .i64 hi,.int .i64 a,.int .i64 b] w (RetR (factorsL D lo hi a b) w):=by
 obtain ⟨i0,hi0,hz0,hz1,hz2⟩:=info_parts Tryz.infoRg
 obtain ⟨ao,cap,rfl,_⟩:=hd.shape
 have HD:=Lib.hid hd
 have HBD:=Lib.hid hD.bounds
 have hDl:=normal_len hD
 obtain ⟨p,hp⟩:∃ p:Int->Bool,p=fun v=>hasQ v lo hi a b:=⟨_,rfl⟩
 have HG:Hid (∀ k,((goneL (fun v=>hasQ v lo hi a b) (D.take k)).length:Int)<=402):=fun k=>by
  have h1:=goneL_len (fun v=>hasQ v lo hi a b) (D.take k) (fun r hr=>(hD.bounds r (List.mem_of_mem_take hr)).2.1)
  have h2:=sizeL_le (D:=D.take k) (normal_take hD k)
  omega
 have HE:=Lib.hid (factors_eq (D:=D) lo hi a b)
 generalize factorsL D lo hi a b=R at *
 have HS:=Lib.hid (goneL_step (fun v=>hasQ v lo hi a b) D)
 have CU:=Lib.hid (fun (x v:Int) (W:World) (hx:-200<=x/\x<=200) (hv:-200<=v/\v<=200) (h0:v≠0)=>up_c x v h0 (by omega) (by omega) W)
 have CD:=Lib.hid (fun (x v:Int) (W:World) (hx:-200<=x/\x<=200) (hv:-200<=v/\v<=200) (h0:v≠0)=>down_c x v h0 (by omega) (by omega) W)
 have HQ:Hid (∀ v,p v=if 0<v then decide (max lo (upI a v)<=min hi (downI b v)) else if v<0 then decide (max lo (upI b v)<=min hi (downI a v)) else !(decide (0<a)||decide (b<0))&&decide (lo<=hi)):=fun v=>by rw [hp];rfl
 rw [<- hp] at HG HE HS
 clear hd hD hp
 go_enter Tryz.func184,Tryz.ntmps184
 go_wp2
 go_loopw [11,19] (fun o s wr=>∃ k:Nat,k<=D.length/\s=.int .i64 k/\wr.ownsRow w.heap.size 77 2 o (goneL p (D.take k)).length (cellsR (goneL p (D.take k)))/\Below w.heap.size w wr) (fun _ s _=>D.length - (intOf s).toNat)
 case atStart=>exact ⟨0,by omega,rfl,World.ownsRow_nil _ _ _ _,Below.refl _ _⟩
 case round =>
  obtain ⟨k,hk,rfl,hown,hbel⟩:=hrel
  have HB:=Lib.hid hbel
  have hle:=hbel.size
  clear hbel
  by_cases hlt:k<D.length
  ·obtain ⟨bd,od,cd,he,_,hbd,hcs⟩:=RgAt.at HD.out (by omega)
   simp only [Value.slice.injEq,true_and] at he
   obtain ⟨rfl,rfl⟩:=he
   obtain ⟨c0,c1⟩:=hcs k hlt
   rw [<- HB.out.cell (p:=⟨bd,od+k * 2,none⟩) hbd] at c0
   rw [<- HB.out.cell (p:=⟨bd,od+k * 2+1,none⟩) hbd] at c1
   have S1:=Lib.hid (HS.out k hlt)
   have hg1:=HG.out (k+1)
   obtain ⟨hr1,hr2,hr3⟩:=HBD.out D[k] (List.getElem_mem hlt)
   have j1:(k:Int)<D.length:=by omega
   have hRl:=Lib.hid (runG_len p D[k].1)
   clear hcs
   rw [S1.out,List.length_append] at hg1
   generalize D[k]=r at *
   obtain ⟨r1,r2⟩:=r
   dsimp only at *
   generalize goneL p (D.take k)=G at *
   obtain ⟨wo,rfl⟩:∃ wo:World,wo=wr:=⟨_,rfl⟩
   have HX0:=Lib.hid (Box2.mk' wo (.int .i64 r1) (.int .i64 r2) 77)
   have hne0:=own_far hown (rN _)
   go_wp2
   go_loopw [11,14] (fun o s wi=>∃ j:Nat,r1+j<=r2+1/\s=.int .i64 (r1+j)/\wi.ownsRow w.heap.size 77 2 o (G++runG p r1 j).length (cellsR (G++runG p r1 j))/\Hid (Box2 wi wo.heap.size (.int .i64 r1) (.int .i64 r2))/\o.ownBlock≠some wo.heap.size/\Hid (Below w.heap.size w wi)) (fun _ s _=>(r2+1 - intOf s).toNat)
   case atStart=>exact ⟨0,by omega,by simp,by simpa [runG] using hown.alloc _,HX0,hne0,Lib.hid (HB.out.alloc hle _)⟩
   case round =>
    clear HX0 hne0 c0 c1 hown
    obtain ⟨j,hj,rfl,hown,HX,hne,HB1⟩:=hrel
    obtain ⟨xc0,xc1,xf0,xf1⟩:=HX.out
    have hle1:=HB1.out.size
    by_cases hlt2:r1+j<=r2
    ·obtain ⟨v,hv⟩:∃ v,v=r1+(j:Int):=⟨_,rfl⟩
     have hvb:-200<=v/\v<=200:=by omega
     have S2:Hid (G++runG p r1 (j+1)=G++runG p r1 j++(if p v=true then [(v,v)] else [])):=by show _=_;rw [hv,List.append_assoc];rfl
     have hl2:(G++runG p r1 j).length<=1000:=by have:=hRl.out j;rw [List.length_append];omega
     rw [<- hv]
     have hm:(r2+1 - (v+1)).toNat<(r2+1 - v).toNat:=by omega
     have hv1:r1+((j+1:Nat):Int)=v+1:=by omega
     have hvr:v<=r2:=by omega
     have HV:=Lib.hid hv
     clear hv
     generalize G++runG p r1 j=O at *
     clear hRl
     by_cases hs:0<v
     ·have CU1:Hid (∀ W,Calls Tryz.prog 187 #[.int .i64 a,.int .i64 v] W fun e w'=>e=.returned (.int .i64 (upI a v))/\W=w'):=fun W=>CU.out a v W (by omega) (by omega) (by omega)
      have CD1:Hid (∀ W,Calls Tryz.prog 188 #[.int .i64 b,.int .i64 v] W fun e w'=>e=.returned (.int .i64 (downI b v))/\W=w'):=fun W=>CD.out b v W (by omega) (by omega) (by omega)
      have hq:=HQ.out v
      rw [if_pos hs] at hq
      generalize upI a v=U at *
      generalize downI b v=L at *
      by_cases hc:max lo U<=min hi L
      ·have hq1:p v=true:=by rw [hq];simpa using hc
       rw [if_pos hq1] at S2
       clear hq hq1
       go_wp2_with (first
        | (go_at_call 187;(with_reducible refine (CU1.out _).mono ?_);rintro e w' ⟨rfl,rfl⟩)
        | (go_at_call 188;(with_reducible refine (CD1.out _).mono ?_);rintro e w' ⟨rfl,rfl⟩)
        | (at_builtin;refine wpList_append2L rfl (.tmp 69) (.tmp 73) 61 rfl w.heap.size 77 i0 (.agg #[.int .i64 0,.int .i64 0]) 16 Tryz.underlying61 hi0 hz0 hz1 hz2 rfl _ _ _ rfl hown (.int .i64 v) (.int .i64 v) rfl rfl rfl rfl (by omega) (by omega) ?_;intro g1 cap1 w1 ow bw kw aw))
       exact ⟨⟨j+1,by omega,by rw [hv1];try rfl,by rw [S2.out,cellsR_append,List.length_append];exact ow,HX.out.kept kw hne,fun he=>by
        rcases aw with h | h
        ·exact hne (h.trans (by simpa [Value.ownBlock] using he))
        ·have h1:=HX.out.lt
         simp [Value.ownBlock] at he;omega,HB1.out.trans (bw.mono (rN _))⟩,by simp [intOf];omega⟩
      ·have hq1:¬ p v=true:=by rw [hq];simpa using hc
       rw [if_neg hq1,List.append_nil] at S2
       clear hq hq1
       go_wp2_with (first
        | (go_at_call 187;(with_reducible refine (CU1.out _).mono ?_);rintro e w' ⟨rfl,rfl⟩)
        | (go_at_call 188;(with_reducible refine (CD1.out _).mono ?_);rintro e w' ⟨rfl,rfl⟩))
       exact ⟨⟨j+1,by omega,by rw [hv1];try rfl,by rw [S2.out];exact hown,HX.out,hne,HB1.out⟩,by simp [intOf];omega⟩
     ·by_cases hs2:v<0
      ·have CU1:Hid (∀ W,Calls Tryz.prog 187 #[.int .i64 b,.int .i64 v] W fun e w'=>e=.returned (.int .i64 (upI b v))/\W=w'):=fun W=>CU.out b v W (by omega) (by omega) (by omega)
       have CD1:Hid (∀ W,Calls Tryz.prog 188 #[.int .i64 a,.int .i64 v] W fun e w'=>e=.returned (.int .i64 (downI a v))/\W=w'):=fun W=>CD.out a v W (by omega) (by omega) (by omega)
       have hq:=HQ.out v
       rw [if_neg hs,if_pos hs2] at hq
       generalize upI b v=U at *
       generalize downI a v=L at *
       by_cases hc:max lo U<=min hi L
       ·have hq1:p v=true:=by rw [hq];simpa using hc
        rw [if_pos hq1] at S2
        clear hq hq1
        go_wp2_with (first
         | (go_at_call 187;(with_reducible refine (CU1.out _).mono ?_);rintro e w' ⟨rfl,rfl⟩)
         | (go_at_call 188;(with_reducible refine (CD1.out _).mono ?_);rintro e w' ⟨rfl,rfl⟩)
         | (at_builtin;refine wpList_append2L rfl (.tmp 69) (.tmp 73) 61 rfl w.heap.size 77 i0 (.agg #[.int .i64 0,.int .i64 0]) 16 Tryz.underlying61 hi0 hz0 hz1 hz2 rfl _ _ _ rfl hown (.int .i64 v) (.int .i64 v) rfl rfl rfl rfl (by omega) (by omega) ?_;intro g1 cap1 w1 ow bw kw aw))
        exact ⟨⟨j+1,by omega,by rw [hv1];try rfl,by rw [S2.out,cellsR_append,List.length_append];exact ow,HX.out.kept kw hne,fun he=>by
         rcases aw with h | h
         ·exact hne (h.trans (by simpa [Value.ownBlock] using he))
         ·have h1:=HX.out.lt
          simp [Value.ownBlock] at he;omega,HB1.out.trans (bw.mono (rN _))⟩,by simp [intOf];omega⟩
       ·have hq1:¬ p v=true:=by rw [hq];simpa using hc
        rw [if_neg hq1,List.append_nil] at S2
        clear hq hq1
        go_wp2_with (first
         | (go_at_call 187;(with_reducible refine (CU1.out _).mono ?_);rintro e w' ⟨rfl,rfl⟩)
         | (go_at_call 188;(with_reducible refine (CD1.out _).mono ?_);rintro e w' ⟨rfl,rfl⟩))
        exact ⟨⟨j+1,by omega,by rw [hv1];try rfl,by rw [S2.out];exact hown,HX.out,hne,HB1.out⟩,by simp [intOf];omega⟩
      ·obtain rfl:v=0:=by omega
       have hq:=HQ.out 0
       simp only [Int.lt_irrefl,if_false] at hq
       by_cases hc:a<=0/\0<=b/\lo<=hi
       ·have hq1:p 0=true:=by rw [hq];simp;omega
        rw [if_pos hq1] at S2
        clear hq hq1
        obtain ⟨hca,hcb,hcl⟩:=hc
        go_wp2_with ((at_builtin;refine wpList_append2L rfl (.tmp 69) (.tmp 73) 61 rfl w.heap.size 77 i0 (.agg #[.int .i64 0,.int .i64 0]) 16 Tryz.underlying61 hi0 hz0 hz1 hz2 rfl _ _ _ rfl hown (.int .i64 0) (.int .i64 0) rfl rfl rfl rfl (by omega) (by omega) ?_;intro g1 cap1 w1 ow bw kw aw))
        exact ⟨⟨j+1,by omega,by rw [hv1];try rfl,by rw [S2.out,cellsR_append,List.length_append];exact ow,HX.out.kept kw hne,fun he=>by
       rcases aw with h | h
       ·exact hne (h.trans (by simpa [Value.ownBlock] using he))
       ·have h1:=HX.out.lt
        simp [Value.ownBlock] at he;omega,HB1.out.trans (bw.mono (rN _))⟩,by simp [intOf];omega⟩
       ·have hq1:¬ p 0=true:=by rw [hq];simp;omega
        rw [if_neg hq1,List.append_nil] at S2
        clear hq hq1
        by_cases hc1:0<a
        ·go_wp2
         exact ⟨⟨j+1,by omega,by rw [hv1];try rfl,by rw [S2.out];exact hown,HX.out,hne,HB1.out⟩,by simp [intOf];omega⟩
        ·by_cases hc2:b<0
         ·go_wp2
          exact ⟨⟨j+1,by omega,by rw [hv1];try rfl,by rw [S2.out];exact hown,HX.out,hne,HB1.out⟩,by simp [intOf];omega⟩
         ·have hc3:¬ lo<=hi:=by omega
          go_wp2
          exact ⟨⟨j+1,by omega,by rw [hv1];try rfl,by rw [S2.out];exact hown,HX.out,hne,HB1.out⟩,by simp [intOf];omega⟩
    ·obtain ⟨jj,hjj⟩:∃ jj:Int,jj=r1+j:=⟨_,rfl⟩
     have hjn:j=(r2+1 - r1).toNat:=by omega
     rw [hjn,<- S1.out] at hown
     have hjr:r2<r1+(j:Int):=by omega
     go_wp2
     exact ⟨⟨k+1,by omega,by go_num,hown,HB1.out⟩,by simp [intOf];omega⟩
  ·obtain rfl:k=D.length:=by omega
   rw [List.take_length] at hown
   have hg:=HG.out D.length
   rw [List.take_length] at hg
   have CN:=Lib.hid (norm_c _ (goneL p D) wr (RgAt.own hown) (by omega))
   rw [HE.out] at CN
   go_wp2_with (go_at_call 54;(with_reducible refine CN.out.mono ?_);rintro e W3 ⟨a3,c3,rfl,r3,b3⟩)
   go_ret
   exact ⟨_,_,rfl,r3,HB.out.trans (b3.mono hle)⟩
def Stay (W W':World) (g:Nat):Prop:=W.heap.size<=W'.heap.size/\∀ b,b<W.heap.size->b≠g->W'.heap[b]?=W.heap[b]?
theorem Stay.refl (W:World) (g:Nat):Stay W W g:=⟨rN _,fun _ _ _=>rfl⟩
theorem Stay.trans {a b c:World} {g:Nat} (h:Stay a b g) (k:Stay b c g):Stay a c g:=⟨Nat.le_trans h.1 k.1,fun i h1 h2=>(k.2 i (Nat.lt_of_lt_of_le h1 h.1) h2).trans (h.2 i h1 h2)⟩
theorem Stay.of_below {W W':World} {g:Nat} (h:Below W.heap.size W W'):Stay W W' g:=⟨h.size,fun b hb _=>h.block b hb⟩
theorem Stay.cell {W W':World} {g:Nat} (h:Stay W W' g) {p:Addr} (hl:p.block<W.heap.size) (hne:p.block≠g):W'.cell? p=W.cell? p:=World.cell?_of_block (h.2 p.block hl hne)
theorem Stay.setCell {W W':World} {g:Nat} (h:Stay W W' g) (j:Nat) (u:Value):Stay W (W'.setCell ⟨g,j,none⟩ u) g :=
 ⟨by simpa [World.setCell] using h.1,fun b hb hne=>(Below.heap_setCell _ _ _ _ (by simpa using hne)).trans (h.2 b hb hne)⟩
theorem Stay.drewN {W W':World} {g:Nat} (h:Stay W W' g) (q:Nat):Stay W (W'.drewN q) g:=h
theorem Box1.stay {W W':World} {b g:Nat} {x:Value} (h:Box1 W b x) (hs:Stay W W' g) (hne:b≠g):Box1 W' b x :=
 ⟨(World.cell?_of_block (a:=⟨b,0,none⟩) (hs.2 b h.lt hne)).trans h.c0,(World.frozen?_of_block (a:=⟨b,0,none⟩) (hs.2 b h.lt hne)).trans h.f0⟩
theorem BoxL.stay {W W':World} {b g:Nat} {cs:List Value} (h:BoxL W b cs) (hp:0<cs.length) (hs:Stay W W' g) (hne:b≠g):BoxL W' b cs:=h.block (hs.2 b (h.lt hp) hne)
structure OutAt (W:World) (B bo g:Nat) (out:Ds):Prop where
 own:DsOwn W B (.slice (some ⟨g,0,none⟩) out.length out.length) out
 box:Box1 W bo (.slice (some ⟨g,0,none⟩) out.length out.length)
 ne:bo≠g
 low:B<=bo
 gl:B<=g
 len:∀ d∈out,d.length<=4096
 new:∀ j,(hj:j<out.length)->∀ u,W.cell? ⟨g,j,none⟩=some u->∀ b,u.ownBlock=some b->B<=b
theorem OutAt.below {W W':World} {B bo g:Nat} {out:Ds} (h:OutAt W B bo g out) (hb:Below W.heap.size W W'):OutAt W' B bo g out :=
 ⟨h.own.below hb,h.box.below hb h.box.lt,h.ne,h.low,h.gl,h.len,fun j hj u hu b e=>by
  obtain ⟨_,_,_,_,_,hgl,_,_,_⟩:=h.own.get' j hj
  exact h.new j hj u ((hb.cell (p:=⟨g,j,none⟩) hgl).symm.trans hu) b e⟩
theorem domOf_nat {ds:Ds} {n:Nat} (h:n<ds.length):domOf ds (n:Int)=ds[n]:=by
 unfold domOf;simp [List.getD_eq_getElem?_getD,List.getElem?_eq_getElem h]
theorem keep_c (B bo g n:Nat) (out:Ds) (d:List Rg) (dv:Value) (W:World) (h:OutAt W B bo g out) (hn:n<out.length) (hd:RgAt W dv d) (hdl:d.length<=4096) (hBW:B<=W.heap.size) (_hol:out.length<=4096) :
  Calls Tryz.prog 92 #[.int .i64 n,dv,.pointer (some ⟨bo,0,none⟩)] W fun e W'=>(∃ u,e=.returned u)/\OutAt W' B bo g (keepL out ((n:Int),d))/\Below B W W'/\Stay W W' g:=by
 obtain ⟨ao,cap,rfl,_⟩:=hd.shape
 obtain ⟨a1,c1,_,_,_,hgl,hc,hf,hr⟩:=h.own.get' n hn
 have hml:out[n].length<=4096:=h.len _ (List.getElem_mem hn)
 have CM:=hD (fun (W1:World) (hb:Below W.heap.size W W1)=>meet_n _ _ out[n] d W1 (hr.below hb) (hd.below hb) hml hdl)
 have H:=hD h
 have hb0:=h.box.c0
 have hne:=h.ne
 have hj:(n:Int)<out.length:=by omega
 have e0:keepL out ((n:Int),d)=out.set n (meetL out[n] d):=by unfold keepL;rw [domOf_nat hn];rfl
 rw [e0]
 have hm:(meetL out[n] d).length<=201:=canon_len _
 generalize meetL out[n] d=M at *
 clear h hd hr e0
 have HR:Hid (∀ W1,Below W.heap.size W W1->W1.cell? ⟨bo,0,none⟩=some (.slice (some ⟨g,0,none⟩) out.length out.length)/\W1.cell? ⟨g,n,none⟩=some (.slice a1 out[n].length c1)/\W1.frozen? ⟨g,n,none⟩=false):=fun W1 hb =>
  ⟨(hb.cell (p:=⟨bo,0,none⟩) H.out.box.lt).trans hb0,(hb.cell (p:=⟨g,n,none⟩) hgl).trans hc,(hb.frozen (p:=⟨g,n,none⟩) hgl).trans hf⟩
 generalize out[n].length=ol at *
 go_enter Tryz.func92,Tryz.ntmps92
 go_wp2
 go_region_with ((go_at_call 34;(with_reducible refine (CM.out _ ?_).mono ?_);(·go_grown);rintro e W1 ⟨a3,c3,rfl,r3,b3,n3⟩;have N3:=hD n3;clear n3;have bw:Below W.heap.size W W1:=Below.trans ((Below.refl _ W).drew) b3;obtain ⟨z0,z1,z2⟩:=HR.out W1 bw;have R3:=hD r3;have B3:=hD bw;clear b3 r3 bw))
 all_goals
  go_end0
  refine ⟨⟨_,rfl⟩,⟨?_,?_,H.out.ne,H.out.low,H.out.gl,?_,?_⟩,?_,?_⟩
  ·rw [List.length_set]
   exact DsOwn.set (H.out.own.below B3.out) n hn R3.out
  ·rw [List.length_set]
   exact (H.out.box.below B3.out H.out.box.lt).far hne _
  ·intro x hx
   rcases List.mem_or_eq_of_mem_set hx with hx | rfl
   ·exact H.out.len x hx
   ·omega
  ·intro j hj u hu b e
   by_cases hjn:j=n
   ·subst hjn
    rw [World.cell?_setCell_same _ _ _ z1] at hu
    injection hu with hu
    subst hu
    exact Nat.le_trans hBW (N3.out b e)
   ·rw [World.cell?_setCell_other _ _ _ _ (fun he=>hjn (by injection he with _ h2 _;exact h2.symm))] at hu
    rw [List.length_set] at hj
    obtain ⟨_,_,_,_,_,hgl2,_,_,_⟩:=H.out.own.get' j hj
    exact H.out.new j hj u ((B3.out.cell (p:=⟨g,j,none⟩) hgl2).symm.trans hu) b e
  ·exact (B3.out.mono hBW).setCell (p:=⟨g,n,none⟩) H.out.gl _
  ·exact (Stay.of_below B3.out).setCell n _
def empB (out:Ds) (v:Int):Bool:=decide (domOf out v=[])
theorem len_nil (d:List Rg):((d.length:Int)==0)=decide (d=[]):=by
 cases d with
 | nil=>rfl
 | cons r t=>simp;omega
theorem emp_any (B bo g:Nat) (out:Ds) (v:Int) (w:World) (h:OutAt w B bo g out) (hv:0<=v/\v.toNat<out.length) :
  Calls Tryz.prog 91 #[.int .i64 v,.pointer (some ⟨bo,0,none⟩)] w fun e w'=>e=.returned (.bool (empB out v))/\w=w':=by
 obtain ⟨n,rfl⟩:∃ n:Nat,v=n:=⟨v.toNat,by omega⟩
 have hn:n<out.length:=by omega
 obtain ⟨a1,c1,_,_,_,_,hc,_,_⟩:=h.own.get' n hn
 have hb:=h.box.c0
 have hj:(n:Int)<out.length:=by omega
 have e0:empB out (n:Int)=((out[n].length:Int)==0):=by unfold empB;rw [domOf_nat hn,len_nil]
 rw [e0]
 clear h e0 hv
 generalize out[n].length=ol at *
 go_enter Tryz.func91,Tryz.ntmps91
 go_wp2
 go_ret
 exact ⟨rfl,rfl⟩
theorem indexEmp_any (B bx g:Nat) (out:Ds) (v:Value) (zs:List Int) (w:World) (hc:OutAt w B bx g out) (h:IsAt w v zs) (hl:zs.length<=4097) (hv:∀ z∈zs,0<=z/\z.toNat<out.length) :
  Calls Tryz.prog 61 #[v,.func (.func 91) #[] #[.pointer (some ⟨bx,0,none⟩)]] w fun e w'=>e=.returned (.int .i64 (findI (empB out) zs))/\w=w':=by
 obtain ⟨ao,cap,rfl,_⟩:=h.shape
 have H:=hD h
 have HC:=hD hc
 have HV:=hD hv
 clear h hc hv
 go_enter Tryz.func61,Tryz.ntmps61
 go_wp2
 go_loop [8] (fun i=>∃ k:Nat,k<=zs.length/\i=.int .i64 k/\(zs.take k).any (empB out)=false) (fun i=>zs.length - (intOf i).toNat)
 case atStart=>exact ⟨0,by omega,rfl,by simp⟩
 case round =>
  obtain ⟨k,hk,rfl,hnot⟩:=hrel
  have HN:=hD hnot
  clear hnot
  by_cases hlt:k<zs.length
  ·obtain ⟨b,off,cap',he,_,_,hc⟩:=IsAt.at H.out (by omega)
   simp only [Value.slice.injEq,true_and] at he
   obtain ⟨rfl,rfl⟩:=he
   have hcell:=hc k hlt
   clear hc
   obtain ⟨z,hz⟩:∃ z,z=zs[k]:=⟨_,rfl⟩
   have hzm:z∈zs:=by rw [hz];exact List.getElem_mem hlt
   rw [<- hz] at hcell
   cases ho:empB out z with
   | true =>
    have HF:=hD (findIdx_hit (empB out) zs k hlt HN.out (by rw [<- hz];exact ho))
    have CO:Hid (Calls Tryz.prog 91 #[.int .i64 z,.pointer (some ⟨bx,0,none⟩)] w fun e w'=>e=.returned (.bool true)/\w=w'):=by rw [<- ho];exact emp_any B bx g out z w HC.out (HV.out z hzm)
    clear hz ho hzm
    go_wp2_with (first | (go_at_call 91;((with_reducible refine CO.out.mono ?_);rintro e w' ⟨rfl,rfl⟩)))
    go_ret
    exact ⟨ret_int HF.out.symm,rfl⟩
   | false =>
    have HF:=hD (any_take_step (empB out) zs k hlt HN.out (by rw [<- hz];exact ho))
    have CO:Hid (Calls Tryz.prog 91 #[.int .i64 z,.pointer (some ⟨bx,0,none⟩)] w fun e w'=>e=.returned (.bool false)/\w=w'):=by rw [<- ho];exact emp_any B bx g out z w HC.out (HV.out z hzm)
    clear hz ho hzm
    go_wp2_with (first | (go_at_call 91;((with_reducible refine CO.out.mono ?_);rintro e w' ⟨rfl,rfl⟩)))
    go_round
    case rel=>exact ⟨k+1,by omega,by go_num,HF.out⟩
    case measure=>simp [intOf];omega
  ·have HF:Hid (findI (empB out) zs=-1):=findIdx_none (empB out) zs (by have:=HN.out;rwa [List.take_of_length_le (by omega)] at this)
   go_wp2
   go_ret
   exact ⟨ret_int HF.out.symm,rfl⟩
theorem containsEmp_any (B bx g:Nat) (out:Ds) (v:Value) (zs:List Int) (w:World) (hc:OutAt w B bx g out) (h:IsAt w v zs) (hl:zs.length<=4097) (hv:∀ z∈zs,0<=z/\z.toNat<out.length) :
  Calls Tryz.prog 41 #[v,.func (.func 91) #[] #[.pointer (some ⟨bx,0,none⟩)]] w fun e w'=>e=.returned (.bool (zs.any (empB out)))/\w=w':=by
 have CI:=hD (indexEmp_any B bx g out v zs w hc h hl hv)
 clear h hc hv
 go_enter Tryz.func41,Tryz.ntmps41
 go_wp2_with (first | (go_at_call 61;((with_reducible refine CI.out.mono ?_);rintro e w' ⟨rfl,rfl⟩)))
 go_ret
 exact ⟨ret_bool (findI_nonneg _ _),rfl⟩
theorem OutAt.no_int {W:World} {B bo g:Nat} {out:Ds} (h:OutAt W B bo g out) (o:Nat) (z:Int):W.cell? ⟨g,o,none⟩≠some (.int .i64 z):=by
 intro hc
 by_cases ho:o<out.length
 ·obtain ⟨_,_,_,_,_,_,hs,_,_⟩:=h.own.get' o ho
  rw [hs] at hc;cases hc
 ·obtain ⟨us,h1,⟨_,h2⟩,_⟩:=h.own
  rcases h2 with ⟨he,_⟩ | ⟨g',cap,cur,he,_,hg,_,_,hs,_⟩
  ·cases he
  ·simp only [Value.slice.injEq,Option.some.injEq,Addr.mk.injEq] at he
   obtain ⟨⟨rfl,_,_⟩,_,rfl⟩:=he
   have:W.cell? ⟨g,o,none⟩=cur[o]?:=by simp [World.cell?,hg]
   rw [this,Array.getElem?_eq_none (by omega)] at hc
   cases hc
theorem RgAt.stay {W W':World} {B bo g:Nat} {out:Ds} {u:Value} {d:List Rg} (h:RgAt W u d) (ho:OutAt W B bo g out) (hs:Stay W W' g):RgAt W' u d:=by
 obtain ⟨h1,ao,cap,rfl,h2,h3,h5,h4⟩:=h
 refine ⟨h1,ao,cap,rfl,h2,h3,h5,fun hp=>?_⟩
 obtain ⟨b,off,rfl,hlt,hc⟩:=h4 hp
 have hne:b≠g:=by
  rintro rfl
  have h0:=hc 0 hp
  obtain ⟨a1,_⟩:=cellsR_at d 0 (by omega)
  rw [show 0=0 * 2 by rfl] at h0
  rw [a1] at h0
  exact ho.no_int _ _ h0
 exact ⟨b,off,rfl,Nat.lt_of_lt_of_le hlt hs.1,fun j hj=>(hs.cell (p:=⟨b,off+j,none⟩) hlt hne).trans (hc j hj)⟩
def NarR (r:Option Ks) (B bo g:Nat) (out:Ds) (W:World) (e:Ending) (W':World):Prop :=
 Below B W W'/\Stay W W' g/\((∃ ks,r=some ks/\e=.returned (.bool true)/\OutAt W' B bo g (keepsL ks out))\/(r=none/\e=.returned (.bool false)))
theorem allN_at {ds:Ds} (h:AllN ds) {n:Nat} (hn:n<ds.length):Normal ds[n]:=by
 have:=h n
 rwa [List.getD_eq_getElem?_getD,List.getElem?_eq_getElem hn] at this
theorem narLin_c (va vb vds:Value) (rel C:Int) (coef vars:List Int) (was out:Ds) (w0 W:World) (B bo g:Nat) (hB:w0.heap.size=B) (hW:Below B w0 W) (h0:IsAt W va coef) (h1:IsAt W vb vars) (hvb:0<vars.length->∀ b,vb.ownBlock=some b->b≠g) (hd:DsAt w0 vds was)
  (hg:GoodL coef vars was) (hr:rel=1\/rel=2\/rel=3) (hC:-1099511627778<=C/\C<=1099511627778) (hnz:∀ c∈coef,c≠0) (hdl:was.length<=4096) (hN:AllN was) (ho:OutAt W B bo g out) (hol:out.length=was.length) :
  Calls Tryz.prog 155 #[.agg #[va,vb,.int .i64 rel,.int .i64 C],vds,.func (.func 92) #[] #[.pointer (some ⟨bo,0,none⟩)]] W (NarR (linKs rel C (coef.zip vars) vars was) B bo g out W):=by
 subst hB
 obtain ⟨a0,c0,rfl,_⟩:=IsAt.shape h0
 obtain ⟨a1,c1,rfl,hc1,_⟩:=IsAt.shape h1
 obtain ⟨a2,c2,rfl,_⟩:=hd.shape
 have hWl:=hW.size
 have HZ:Hid (∀ o,Below W.heap.size W (W.alloc o)):=fun o=>(Below.refl _ _).alloc (rN _) o
 have HZB:Hid (∀ o,Below w0.heap.size W (W.alloc o)):=fun o=>(Below.refl _ _).alloc hWl o
 have CO0:Hid (∀ W1,Below W.heap.size W W1->Calls Tryz.prog 157 #[.agg #[.slice a0 coef.length c0,.slice a1 vars.length c1,.int .i64 rel,.int .i64 C],.slice a2 was.length c2] W1 (RetOn (onceL rel C was (coef.zip vars)) W1)):=fun W1 h =>
  once_n _ _ _ rel C coef vars was W1 (h0.below h) (h1.below h) (hd.below (hW.trans (h.mono hWl))) hg hr hC hnz hdl
 have HO:=hD ho
 have H1:=hD h1
 have HW:=hD hW
 have HV:=hD hg.vars
 have HVB:=hD hvb
 have hvl:vars.length<=16:=by have:=hg.len;have:=hg.le16;omega
 unfold linKs
 cases hres:onceL rel C was (coef.zip vars) with
 | none =>
  have CO:Hid (∀ W1,Below W.heap.size W W1->Calls Tryz.prog 157 #[.agg #[.slice a0 coef.length c0,.slice a1 vars.length c1,.int .i64 rel,.int .i64 C],.slice a2 was.length c2] W1 fun e w'=>e=.returned (.tuple #[.slice none 0 0,.bool false])/\Below W1.heap.size W1 w'):=fun W1 h =>
   (CO0.out W1 h).mono fun e w' ⟨hb,hx⟩=>by
    rcases hx with ⟨ds,ao,cap,he,_⟩ | ⟨_,he⟩
    ·rw [hres] at he;cases he
    ·exact ⟨he,hb⟩
  clear h0 h1 hd hg ho hW hres CO0 hnz hN hvb
  go_enter Tryz.func155,Tryz.ntmps155
  go_wp2_with (go_at_call 157;(with_reducible refine (CO.out _ (HZ.out _)).mono ?_);rintro e W2 ⟨rfl,bb⟩;have y1:=bb.cell (p:=⟨W.heap.size,1,none⟩) (by simp);simp at y1;have B2:=hD ((HZ.out _).trans (bb.mono (HZ.out _).size));clear bb)
  go_loopw [22] (fun s wr=>∃ k:Nat,k<=vars.length/\s=.int .i64 k/\Hid (wr=W2)) (fun s _=>vars.length - (intOf s).toNat)
  case atStart=>exact ⟨0,by omega,rfl,rfl⟩
  case round =>
   obtain ⟨k,hk,rfl,HE⟩:=hrel
   obtain rfl:wr=W2:=HE.out
   by_cases hlt:k<vars.length
   ·obtain ⟨b1,o1,rfl,_,hb1,x1⟩:=H1.out.get k hlt
    have j1:(k:Int)<vars.length:=by omega
    rw [<- (B2.out.cell (p:=⟨b1,o1+k,none⟩) hb1)] at x1
    generalize vars[k]=v at *
    go_wp2
    exact ⟨⟨k+1,by omega,by go_num,hD trivial⟩,by simp [intOf];omega⟩
   ·go_wp2
    go_ret
    exact ⟨B2.out.mono hWl,Stay.of_below B2.out,.inr ⟨rfl,rfl⟩⟩
 | some o =>
  obtain ⟨hol2,hNo,_,_,_⟩:=once_spec rel C was hN (coef.zip vars) (fun q hq=>by have:=hg.vars _ (List.of_mem_zip hq).2;omega) o hres
  have CO:Hid (∀ W1,Below W.heap.size W W1->Calls Tryz.prog 157 #[.agg #[.slice a0 coef.length c0,.slice a1 vars.length c1,.int .i64 rel,.int .i64 C],.slice a2 was.length c2] W1 fun e w'=>∃ ao cap,e=.returned (.tuple #[.slice ao o.length cap,.bool true])/\DsAt w' (.slice ao o.length cap) o/\(∀ b,(Value.slice ao o.length cap).ownBlock=some b->W1.heap.size<=b)/\Below W1.heap.size W1 w'):=fun W1 h =>
   (CO0.out W1 h).mono fun e w' ⟨hb,hx⟩=>by
    rcases hx with ⟨ds,ao,cap,he,he2,hd2,hn2⟩ | ⟨he,_⟩
    ·rw [hres] at he;injection he with he;subst he;exact ⟨ao,cap,he2,hd2,hn2,hb⟩
    ·rw [hres] at he;cases he
  simp only [Option.map_some]
  have HNo:Hid (∀ n,(hn:n<o.length)->o[n].length<=201):=fun n hn=>normal_len (allN_at hNo hn)
  have hol3:out.length=o.length:=by rw [hol,hol2]
  clear h0 h1 hd hg ho hW hres CO0 hnz hN hNo hvb
  go_enter Tryz.func155,Tryz.ntmps155
  go_wp2_with (go_at_call 157;(with_reducible refine (CO.out _ (HZ.out _)).mono ?_);rintro e W2 ⟨ao,cap,rfl,d2,n2,bb⟩;have y1:=bb.cell (p:=⟨W.heap.size,1,none⟩) (by simp);simp at y1;have B2:=hD ((HZ.out _).trans (bb.mono (HZ.out _).size));have D2:=hD d2;have N2:Hid (∀ b,(Value.slice ao o.length cap).ownBlock=some b->W.heap.size<b+1):=(fun b hb=>by have:=n2 b hb;simp at this;omega);clear bb d2 n2)
  have HG:Hid (g<W.heap.size):=by
   obtain ⟨us,_,ow,_⟩:=HO.out.own
   exact (ow.lt g rfl).2
  have HO2:=hD (HO.out.below B2.out)
  have E0:Hid (out.length=was.length):=hol
  have E1:Hid (out.length=o.length):=hol3
  have E2:Hid (o.length=was.length):=hol2
  clear hol hol2 hol3
  go_loopw [22] (fun s wr=>∃ k:Nat,k<=vars.length/\s=.int .i64 k/\Hid (OutAt wr w0.heap.size bo g (keepsL ((vars.take k).map fun v=>(v,domOf o v)) out))/\Hid (Stay W2 wr g)/\Hid (Below w0.heap.size W2 wr)) (fun s _=>vars.length - (intOf s).toNat)
  case atStart=>exact ⟨0,by omega,rfl,HO2,Stay.refl _ _,Below.refl _ _⟩
  case round =>
   obtain ⟨k,hk,rfl,HOk,HSk,HBk⟩:=hrel
   have HBB:=hD (HW.out.trans ((B2.out.mono hWl).trans HBk.out))
   by_cases hlt:k<vars.length
   ·obtain ⟨b1,o1,rfl,_,hb1,x1⟩:=H1.out.get k hlt
    have j1:(k:Int)<vars.length:=by omega
    rw [<- (B2.out.cell (p:=⟨b1,o1+k,none⟩) hb1),<- HSk.out.cell (p:=⟨b1,o1+k,none⟩) (Nat.lt_of_lt_of_le hb1 B2.out.size) (HVB.out (by omega) b1 rfl)] at x1
    obtain ⟨n,e1,hn,_⟩:=domOf_in was vars[k] (HV.out _ (List.getElem_mem hlt))
    have hno:n<o.length:=by have:=E2.out;omega
    obtain ⟨b2,o2,ao',cap',rfl,q2,l2,_,x2,x3⟩:=D2.out.get n hno
    have hne:b2≠g:=by have:=N2.out b2 rfl;have:=HG.out;omega
    rw [<- HSk.out.cell (p:=⟨b2,o2+n,none⟩) l2 hne] at x2
    have HR:=hD (x3.stay HO2.out HSk.out)
    have hl4:=HNo.out n hno
    have j3:(n:Int)<o.length:=by omega
    have hst:(vars.take (k+1)).map (fun v=>(v,domOf o v))=(vars.take k).map (fun v=>(v,domOf o v))++[((n:Int),o[n])]:=by
     rw [List.take_succ_eq_append_getElem hlt,List.map_append,e1]
     simp [domOf_nat hno]
    have HST:=hD hst
    rw [e1] at x1
    have hkl:(keepsL ((vars.take k).map fun v=>(v,domOf o v)) out).length=o.length:=by rw [keepsL_len];exact E1.out
    have CK:Hid (Calls Tryz.prog 92 #[.int .i64 n,.slice ao' o[n].length cap',.pointer (some ⟨bo,0,none⟩)] wr fun e W'=>(∃ u,e=.returned u)/\OutAt W' w0.heap.size bo g (keepsL ((vars.take (k+1)).map fun v=>(v,domOf o v)) out)/\Below w0.heap.size wr W'/\Stay wr W' g):=by
     rw [HST.out,keepsL_snoc]
     exact keep_c w0.heap.size bo g n _ o[n] _ wr HOk.out (by rw [hkl];exact hno) HR.out (by omega) HBB.out.size (by rw [hkl];have:=E2.out;omega)
    clear hst x3 hkl e1
    generalize o[n].length=on at *
    go_wp2_with (go_at_call 92;(with_reducible refine CK.out.mono ?_);rintro e W3 ⟨⟨u,rfl⟩,o3,b3,s3⟩;have O3:=hD o3;have B3:=hD (HBk.out.trans b3);have S3:=hD (HSk.out.trans s3);clear o3 b3 s3)
    exact ⟨⟨k+1,by omega,by go_num,O3,S3,B3⟩,by simp [intOf];omega⟩
   ·obtain rfl:k=vars.length:=by omega
    have HF:Hid (OutAt wr w0.heap.size bo g (keepsL (vars.map fun v=>(v,domOf o v)) out)):=by have:=HOk.out;rwa [List.take_length] at this
    go_wp2
    go_ret
    exact ⟨(B2.out.mono hWl).trans HBk.out,(Stay.of_below B2.out).trans HSk.out,.inl ⟨_,rfl,rfl,HF.out⟩⟩
end
end Go.Proofs.YtaekdgikgbdnnaaGreat
