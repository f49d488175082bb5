/-
  OPTIONS AND LISTS OF INTEGERS THAT COME IN.
  PLAIN LAWS of layer 19's choosing and parting. No program.
  label.Check, rank, and the reference's Check, domain, better, weight, walked.
-/
import Derived.Test.YtaekdgikgbdnnaaGreatKlin1
import Derived.Test.YtaekdgikgbdnnaaGreatKlib1
import Derived.Test.YtaekdgikgbdnnaaGreatKdom3
namespace Go.Proofs.YtaekdgikgbdnnaaGreat
section
open Go.RowKit Go.ChangeShapes Go.WideShapes Go.ChangeAt
set_option maxRecDepth 100000
theorem open_ints' {H:Type} {enc:TypeId×Value->H} {w:World} {sp:Nat->Bool} {held:Bool} {base:Nat} {v:Value} {d:DataW H} {ps:List MemPlace}
  (hval:Value.okWide Tryz.prog w .any base 26 v) (h0:DataW.Trod enc Tryz.prog w 0 sp held 26 v d ps):∃ zs:List Int,IsAt w v zs/\∀ z∈zs,-9223372036854775808<=z/\z<=9223372036854775807:=by
 obtain ⟨a0,l0,c0,rfl⟩:=okWide_slice Tryz.underlying26 hval
 obtain ⟨fuel,h⟩:=Joins.field_of_Trod h0 rfl
 exact open_isL h
theorem cellsOptO:Tryz.prog.cellsOf 28=4:=by kernel_rfl
theorem open_opt {H:Type} {enc:TypeId×Value->H} {w:World} {base:Nat} {sp:Nat->Bool} {held:Bool} {v:Value} {d:DataW H} {ps:List MemPlace}
  (hval:Value.okWide Tryz.prog w .any base 28 v) (h:DataW.Trod enc Tryz.prog w 0 sp held 28 v d ps) :
  ∃ sel ord br vw,∃ ws:List Int,v=.agg #[.int .i64 sel,.int .i64 ord,.int .i64 br,vw]/\IsAt w vw ws/\∀ z∈ws,-9223372036854775808<=z/\z<=9223372036854775807:=by
 obtain ⟨c0,c1,c2,c3,y0,y1,y2,y3,m,rfl,rfl,rfl,h0,h1,h2,h3⟩:=Joins.open_agg4 Tryz.underlying28 (by kernel_rfl) cellsOptO hval h
 obtain ⟨x0,e0,_,w0⟩:=DataW.trod_int Tryz.underlying3 h0
 obtain ⟨x1,e1,_,w1⟩:=DataW.trod_int Tryz.underlying3 h1
 obtain ⟨x2,e2,_,w2⟩:=DataW.trod_int Tryz.underlying3 h2
 obtain ⟨ws,i3,b3⟩:=open_isL h3
 simp at e0 e1 e2
 subst e0 e1 e2
 exact ⟨x0,x1,x2,c3,ws,rfl,i3,b3⟩
end
section
def domAt (ds:Ds) (v:Int):List Rg:=if v<0 then [] else ds.getD v.toNat []
def labChk (sel ord br:Int) (n:Nat):Int:=if sel<0\/4<sel\/ord<0\/1<ord\/br<0\/1<br\/64<n then 190 else 0
def rankL (sel:Int) (ws:List Int) (d:List Rg) (i:Nat):Int :=
 if sel=1 then sizeL (norm d) else if sel=2 then (endsL (norm d)).1 else if sel=3 then -(endsL (norm d)).2.1 else if sel=4 then ws.getD i 0 else 0
def chooseL (ds:Ds) (vars:List Int) (sel:Int) (ws:List Int):Nat->Option Nat
 | 0=>none
 | k+1 =>
  if sizeL (norm (domAt ds (vars.getD k 0)))<2 then chooseL ds vars sel ws k
  else match chooseL ds vars sel ws k with
   | none=>some k
   | some b=>if rankL sel ws (domAt ds (vars.getD k 0)) k<rankL sel ws (domAt ds (vars.getD b 0)) b then some k else some b
theorem chooseL_lt (ds:Ds) (vars:List Int) (sel:Int) (ws:List Int):∀ (k b:Nat),chooseL ds vars sel ws k=some b->b<k
 | 0,b,h=>by simp [chooseL] at h
 | k+1,b,h=>by
  have ih:=chooseL_lt ds vars sel ws k
  unfold chooseL at h
  split at h
  ·have:=ih b h;omega
  ·split at h
   ·cases h;omega
   ·rename_i b' hb
    have:=ih b' hb
    split at h <;> cases h <;> omega
def betterL (sel:Int) (a b:List Rg):Bool:=if sel=1 then decide (sizeL (norm a)<sizeL (norm b)) else if sel=2 then decide ((endsL (norm a)).1<(endsL (norm b)).1) else if sel=3 then decide ((endsL (norm b)).2.1<(endsL (norm a)).2.1) else false
theorem better_rank (sel:Int) (ws:List Int) (a b:List Rg) (i j:Nat):(betterL sel a b||(decide (sel=4)&&decide (ws.getD i 0<ws.getD j 0)))=decide (rankL sel ws a i<rankL sel ws b j):=by
 unfold betterL rankL
 by_cases h1:sel=1
 ·subst h1;simp
 ·by_cases h2:sel=2
  ·subst h2;simp
  ·by_cases h3:sel=3
   ·subst h3;simp
   ·by_cases h4:sel=4
    ·subst h4;simp
    ·simp [h1,h2,h3,h4]
def cutAt (ord br lo hi:Int):Int:=if br=1 then (lo+hi) / 2 else if ord=1 then hi - 1 else lo
def splitL (d:List Rg) (ord br:Int):List Rg×List Rg :=
 if sizeL (norm d)<2 then ([],[])
 else
  let lo:=(endsL (norm d)).1
  let hi:=(endsL (norm d)).2.1
  let A:=meetL d [(lo,cutAt ord br lo hi)]
  let B:=minusL d [(lo,cutAt ord br lo hi)]
  if ord=1 then (B,A) else (A,B)
theorem two_okT (d:List Rg) (h:¬ sizeL (norm d)<2):okT d=true:=by
 rw [okT_nil]
 by_cases hn:norm d=[]
 ·rw [hn] at h;simp [sizeL] at h
 ·simp [hn]
theorem two_ends (d:List Rg) (h:¬ sizeL (norm d)<2):(endsL (norm d)).1<(endsL (norm d)).2.1:=by
 obtain ⟨a,b⟩:=ends_in d (two_okT d h)
 have h1:=(ends_mem d _ a).2.1
 rcases (show (endsL (norm d)).1<(endsL (norm d)).2.1\/(endsL (norm d)).1=(endsL (norm d)).2.1 by omega) with h2 | h2
 ·exact h2
 ·exfalso
  have e:norm d=[((endsL (norm d)).1,(endsL (norm d)).1)]:=by
   have hb:=ends_bnd d
   refine normal_unique (norm_normal d) (show Normal _ from ⟨by dsimp only;omega,Int.le_refl _,by dsimp only;omega,trivial⟩) (fun n=>?_)
   rw [Bool.eq_iff_iff]
   constructor
   ·intro hn
    have:=ends_mem d n hn
    simp [memL];omega
   ·intro hn
    simp [memL] at hn
    have:n=(endsL (norm d)).1:=by omega
    rw [this];exact a
  rw [e] at h;simp [sizeL] at h
theorem mem_ends (d:List Rg) (n:Int) (h1:-200<=n) (h2:n<=200) (h:memL d n=true):(endsL (norm d)).1<=n/\n<=(endsL (norm d)).2.1:=by
 have:memL (norm d) n=true:=by rw [memL_norm,h];simp [inD,h1,h2]
 have:=ends_mem d n this
 exact ⟨this.1,this.2.1⟩
def firstR (d:List Rg) (ord br:Int):List Rg :=
 let lo:=(endsL (norm d)).1
 let hi:=(endsL (norm d)).2.1
 if br=1 then (if ord=1 then meetL d [((lo+hi) / 2+1,hi)] else meetL d [(lo,(lo+hi) / 2)]) else if ord=1 then [(hi,hi)] else [(lo,lo)]
theorem mem1 (a b n:Int):memL [(a,b)] n=(decide (a<=n)&&decide (n<=b)):=by simp [memL]
theorem split_ref (d:List Rg) (ord br:Int) (h:¬ sizeL (norm d)<2) (ho:ord=0\/ord=1) (hb:br=0\/br=1):splitL d ord br=(firstR d ord br,minusL d (firstR d ord br)):=by
 have hle:=two_ends d h
 have hbd:=ends_bnd d
 obtain ⟨e1,e2⟩:=ends_in d (two_okT d h)
 rw [memL_norm,Bool.and_eq_true] at e1 e2
 have key:=mem_ends d
 unfold splitL firstR cutAt
 rw [if_neg h]
 generalize (endsL (norm d)).1=lo at *
 generalize (endsL (norm d)).2.1=hi at *
 have hN1:∀ x:Int,-200<=x->x<=200->Normal [(x,x)]:=fun x a b=>show NormFrom _ _ from ⟨a,Int.le_refl _,b,trivial⟩
 rcases ho with rfl | rfl <;> rcases hb with rfl | rfl <;> simp only [show ((0:Int)=1)=False by simp,if_true,if_false]
 ·refine Prod.ext ?_ rfl
  show meetL d [(lo,lo)]=[(lo,lo)]
  refine (is_canon (hN1 lo (by omega) (by omega)) (fun n h1 h2=>?_)).symm
  rw [mem1]
  by_cases hn:n=lo
  ·subst hn;simp [e1.2]
  ·have:(decide (lo<=n)&&decide (n<=lo))=false:=by simp;omega
   rw [this];simp
 ·refine Prod.ext rfl ?_
  show minusL d [(lo,(lo+hi) / 2)]=minusL d (meetL d [(lo,(lo+hi) / 2)])
  refine canon_congr fun n h1 h2=>?_
  have hmm:memL (meetL d [(lo,(lo+hi) / 2)]) n=(memL d n&&memL [(lo,(lo+hi) / 2)] n):=by
   unfold meetL;rw [canon_mem];simp [h1,h2]
  rw [hmm]
  cases memL d n <;> cases memL [(lo,(lo+hi) / 2)] n <;> rfl
 ·refine Prod.ext ?_ ?_
  ·show minusL d [(lo,hi - 1)]=[(hi,hi)]
   refine (is_canon (hN1 hi (by omega) (by omega)) (fun n h1 h2=>?_)).symm
   rw [mem1,mem1]
   by_cases hn:n=hi
   ·subst hn;simp [e2.2];omega
   ·have:(decide (hi<=n)&&decide (n<=hi))=false:=by simp;omega
    rw [this]
    cases hm:memL d n with
    | false=>rfl
    | true =>
     have:=key n h1 h2 hm
     simp;omega
  ·show meetL d [(lo,hi - 1)]=minusL d [(hi,hi)]
   refine canon_congr fun n h1 h2=>?_
   rw [mem1,mem1]
   cases hm:memL d n with
   | false=>rfl
   | true =>
    have:=key n h1 h2 hm
    rw [Bool.eq_iff_iff];simp;omega
 ·refine Prod.ext ?_ ?_
  ·show minusL d [(lo,(lo+hi) / 2)]=meetL d [((lo+hi) / 2+1,hi)]
   refine canon_congr fun n h1 h2=>?_
   rw [mem1,mem1]
   cases hm:memL d n with
   | false=>rfl
   | true =>
    have:=key n h1 h2 hm
    rw [Bool.eq_iff_iff];simp;omega
  ·show meetL d [(lo,(lo+hi) / 2)]=minusL d (meetL d [((lo+hi) / 2+1,hi)])
   refine canon_congr fun n h1 h2=>?_
   have hmm:memL (meetL d [((lo+hi) / 2+1,hi)]) n=(memL d n&&(decide ((lo+hi) / 2+1<=n)&&decide (n<=hi))):=by
    unfold meetL;rw [canon_mem,mem1];simp [h1,h2]
   rw [hmm,mem1]
   cases hm:memL d n with
   | false=>rfl
   | true =>
    have:=key n h1 h2 hm
    rw [Bool.eq_iff_iff];simp;omega
theorem split_parts (d:List Rg) (ord br:Int) (h:¬ sizeL (norm d)<2) (ho:ord=0\/ord=1) (hb:br=0\/br=1) :
  (splitL d ord br).1≠[]/\(splitL d ord br).2≠[]/\meetL (splitL d ord br).1 (splitL d ord br).2=[]/\joinL (splitL d ord br).1 (splitL d ord br).2=norm d:=by
 have hle:=two_ends d h
 have hbd:=ends_bnd d
 obtain ⟨e1,e2⟩:=ends_in d (two_okT d h)
 rw [memL_norm,Bool.and_eq_true] at e1 e2
 have hc:(endsL (norm d)).1<=cutAt ord br (endsL (norm d)).1 (endsL (norm d)).2.1/\cutAt ord br (endsL (norm d)).1 (endsL (norm d)).2.1<(endsL (norm d)).2.1:=by
  unfold cutAt
  rcases ho with rfl | rfl <;> rcases hb with rfl | rfl <;> simp <;> omega
 unfold splitL
 rw [if_neg h]
 dsimp only
 generalize (endsL (norm d)).1=lo at *
 generalize (endsL (norm d)).2.1=hi at *
 generalize cutAt ord br lo hi=c at *
 have hA:memL (meetL d [(lo,c)]) lo=true:=by unfold meetL;rw [canon_mem,mem1,e1.2];simp;omega
 have hB:memL (minusL d [(lo,c)]) hi=true:=by unfold minusL;rw [canon_mem,mem1,e2.2];simp;omega
 have mA:∀ n,-200<=n->n<=200->memL (meetL d [(lo,c)]) n=(memL d n&&memL [(lo,c)] n):=fun n h1 h2=>by unfold meetL;rw [canon_mem];simp [h1,h2]
 have mB:∀ n,-200<=n->n<=200->memL (minusL d [(lo,c)]) n=(memL d n&&!memL [(lo,c)] n):=fun n h1 h2=>by unfold minusL;rw [canon_mem];simp [h1,h2]
 generalize meetL d [(lo,c)]=A at *
 generalize minusL d [(lo,c)]=B at *
 have hN:Normal ([]:List Rg):=trivial
 by_cases o1:ord=1
 ·simp only [if_pos o1]
  refine ⟨mem_ne_nil hB,mem_ne_nil hA,?_,?_⟩
  ·refine (is_canon hN (fun n h1 h2=>?_)).symm
   rw [mA n h1 h2,mB n h1 h2,memL_nil]
   cases memL d n <;> cases memL [(lo,c)] n <;> rfl
  ·refine canon_congr fun n h1 h2=>?_
   rw [mA n h1 h2,mB n h1 h2]
   cases memL d n <;> cases memL [(lo,c)] n <;> rfl
 ·simp only [if_neg o1]
  refine ⟨mem_ne_nil hA,mem_ne_nil hB,?_,?_⟩
  ·refine (is_canon hN (fun n h1 h2=>?_)).symm
   rw [mA n h1 h2,mB n h1 h2,memL_nil]
   cases memL d n <;> cases memL [(lo,c)] n <;> rfl
  ·refine canon_congr fun n h1 h2=>?_
   rw [mA n h1 h2,mB n h1 h2]
   cases memL d n <;> cases memL [(lo,c)] n <;> rfl
end
section
open Go.RowKit
theorem IsAt.shape' {w:World} {v:Value} {zs:List Int} (h:IsAt w v zs):∃ ao cap,v=.slice ao zs.length cap/\zs.length<=cap/\cap<=maxLen:=SlAt.shape h
theorem IsAt.get' {w:World} {ao:Option Addr} {n cap:Nat} {zs:List Int} (h:IsAt w (.slice ao n cap) zs) (k:Nat) (hk:k<zs.length) :
  ∃ b off,ao=some ⟨b,off,none⟩/\zs.length<=cap/\b<w.heap.size/\w.cell? ⟨b,off+k,none⟩=some (.int .i64 zs[k]):=by
 obtain ⟨b,off,c',he,hc,hb,hx⟩:=IsAt.at h (by omega)
 simp only [Value.slice.injEq] at he
 obtain ⟨rfl,rfl,rfl⟩:=he
 exact ⟨b,off,rfl,hc,hb,hx k hk⟩
theorem boxZ (w:World) (a b c d:Value) (T:TypeId):Below w.heap.size w (w.alloc (.cells #[a,b,c,d] T)):=bA _
set_option maxHeartbeats 1600000
theorem labCheck_c (sel ord br:Int) (aw:Option Addr) (n cw:Nat) (w:World) :
  Calls Tryz.prog 12 #[.agg #[.int .i64 sel,.int .i64 ord,.int .i64 br,.slice aw n cw]] w fun e w'=>e=.returned (.int .i64 (labChk sel ord br n))/\Below w.heap.size w w':=by
 have HZ:=hD (boxZ w (.int .i64 sel) (.int .i64 ord) (.int .i64 br) (.slice aw n cw) 28)
 have fin:∀ (h:sel<0\/4<sel\/ord<0\/1<ord\/br<0\/1<br\/64<n),labChk sel ord br n=190:=fun h=>by unfold labChk;rw [if_pos h]
 have HF:=hD fin
 clear fin
 by_cases h1:sel<0
 ·have HQ:=hD (HF.out (.inl h1))
  go_enter Tryz.func12,Tryz.ntmps12
  go_wp2
  go_ret
  exact ⟨ret_int HQ.out.symm,HZ.out⟩
 by_cases h2:4<sel
 ·have HQ:=hD (HF.out (.inr (.inl h2)))
  go_enter Tryz.func12,Tryz.ntmps12
  go_wp2
  go_ret
  exact ⟨ret_int HQ.out.symm,HZ.out⟩
 by_cases h3:ord<0
 ·have HQ:=hD (HF.out (.inr (.inr (.inl h3))))
  go_enter Tryz.func12,Tryz.ntmps12
  go_wp2
  go_ret
  exact ⟨ret_int HQ.out.symm,HZ.out⟩
 by_cases h4:1<ord
 ·have HQ:=hD (HF.out (.inr (.inr (.inr (.inl h4)))))
  go_enter Tryz.func12,Tryz.ntmps12
  go_wp2
  go_ret
  exact ⟨ret_int HQ.out.symm,HZ.out⟩
 by_cases h5:br<0
 ·have HQ:=hD (HF.out (.inr (.inr (.inr (.inr (.inl h5))))))
  go_enter Tryz.func12,Tryz.ntmps12
  go_wp2
  go_ret
  exact ⟨ret_int HQ.out.symm,HZ.out⟩
 by_cases h6:1<br
 ·have HQ:=hD (HF.out (.inr (.inr (.inr (.inr (.inr (.inl h6)))))))
  go_enter Tryz.func12,Tryz.ntmps12
  go_wp2
  go_ret
  exact ⟨ret_int HQ.out.symm,HZ.out⟩
 by_cases h7:64<n
 ·have HQ:=hD (HF.out (.inr (.inr (.inr (.inr (.inr (.inr h7)))))))
  go_enter Tryz.func12,Tryz.ntmps12
  go_wp2
  go_ret
  exact ⟨ret_int HQ.out.symm,HZ.out⟩
 have HQ:Hid (labChk sel ord br n=0):=by show _=_;unfold labChk;rw [if_neg (by omega)]
 go_enter Tryz.func12,Tryz.ntmps12
 go_wp2
 go_ret
 exact ⟨ret_int HQ.out.symm,HZ.out⟩
theorem within19_any (n lo hi:Int) (w:World):Calls Tryz.prog 25 #[.int .i64 n,.int .i64 lo,.int .i64 hi] w fun e w'=>e=.returned (.bool (decide (lo<=n)&&decide (n<=hi)))/\w=w':=by
 by_cases h1:lo<=n
 ·by_cases h2:n<=hi
  ·go_enter Tryz.func25,Tryz.ntmps25
   go_wp2
   go_ret
   exact ⟨ret_bool (by simp [h1,h2]),rfl⟩
  ·go_enter Tryz.func25,Tryz.ntmps25
   go_wp2
   go_ret
   exact ⟨ret_bool (by simp [h2]),rfl⟩
 ·go_enter Tryz.func25,Tryz.ntmps25
  go_wp2
  go_ret
  exact ⟨ret_bool (by simp;omega),rfl⟩
theorem refLabCheck_c (sel ord br:Int) (aw:Option Addr) (n cw:Nat) (w:World) :
  Calls Tryz.prog 11 #[.agg #[.int .i64 sel,.int .i64 ord,.int .i64 br,.slice aw n cw]] w fun e w'=>e=.returned (.int .i64 (labChk sel ord br n))/\Below w.heap.size w w':=by
 have HZ:=hD (boxZ w (.int .i64 sel) (.int .i64 ord) (.int .i64 br) (.slice aw n cw) 28)
 have hq:∃ b1 b2 b3 b4:Bool,(decide ((0:Int)<=sel)&&decide (sel<=4))=b1/\(decide ((0:Int)<=ord)&&decide (ord<=1))=b2/\(decide ((0:Int)<=br)&&decide (br<=1))=b3/\decide (64<n)=b4/\labChk sel ord br n=if b1=true/\b2=true/\b3=true/\b4=false then 0 else 190:=by
  refine ⟨_,_,_,_,rfl,rfl,rfl,rfl,?_⟩
  unfold labChk
  by_cases h:sel<0\/4<sel\/ord<0\/1<ord\/br<0\/1<br\/64<n
  ·rw [if_pos h,if_neg]
   simp;omega
  ·rw [if_neg h,if_pos]
   simp;omega
 obtain ⟨b1,b2,b3,b4,e1,e2,e3,e4,e5⟩:=hq
 have CW:Hid (∀ W,Calls Tryz.prog 25 #[.int .i64 sel,.int .i64 0,.int .i64 4] W fun e w'=>e=.returned (.bool b1)/\W=w'):=fun W=>by have:=within19_any sel 0 4 W;rwa [e1] at this
 have CO:Hid (∀ W,Calls Tryz.prog 25 #[.int .i64 ord,.int .i64 0,.int .i64 1] W fun e w'=>e=.returned (.bool b2)/\W=w'):=fun W=>by have:=within19_any ord 0 1 W;rwa [e2] at this
 have CB:Hid (∀ W,Calls Tryz.prog 25 #[.int .i64 br,.int .i64 0,.int .i64 1] W fun e w'=>e=.returned (.bool b3)/\W=w'):=fun W=>by have:=within19_any br 0 1 W;rwa [e3] at this
 rw [e5]
 clear e1 e2 e3 e5
 by_cases h4:64<n
 ·obtain rfl:b4=true:=by rw [<- e4];simpa using h4
  clear e4
  cases b1 <;> cases b2 <;> cases b3
  all_goals
   go_enter Tryz.func11,Tryz.ntmps11
   go_wp2_with (first
    | (go_at_call 25;(with_reducible refine (CW.out _).mono ?_);rintro e w' ⟨rfl,rfl⟩)
    | (go_at_call 25;(with_reducible refine (CO.out _).mono ?_);rintro e w' ⟨rfl,rfl⟩)
    | (go_at_call 25;(with_reducible refine (CB.out _).mono ?_);rintro e w' ⟨rfl,rfl⟩))
   go_ret
   exact ⟨ret_int (by simp),HZ.out⟩
 ·obtain rfl:b4=false:=by rw [<- e4];simpa using h4
  clear e4
  cases b1 <;> cases b2 <;> cases b3
  all_goals
   go_enter Tryz.func11,Tryz.ntmps11
   go_wp2_with (first
    | (go_at_call 25;(with_reducible refine (CW.out _).mono ?_);rintro e w' ⟨rfl,rfl⟩)
    | (go_at_call 25;(with_reducible refine (CO.out _).mono ?_);rintro e w' ⟨rfl,rfl⟩)
    | (go_at_call 25;(with_reducible refine (CB.out _).mono ?_);rintro e w' ⟨rfl,rfl⟩))
   go_ret
   exact ⟨ret_int (by simp),HZ.out⟩
theorem rank_c (vd vw:Value) (sel ord br:Int) (i:Nat) (d:List Rg) (ws:List Int) (w:World) (hd:RgAt w vd d) (hl:d.length<=4096) (hw:IsAt w vw ws) (_hi:i<=4096) (hs:sel=0\/sel=1\/sel=2\/sel=3\/sel=4) :
  Calls Tryz.prog 69 #[vd,.int .i64 i,.agg #[.int .i64 sel,.int .i64 ord,.int .i64 br,vw]] w fun e w'=>e=.returned (.int .i64 (rankL sel ws d i))/\Below w.heap.size w w':=by
 obtain ⟨ao,cap,rfl,_⟩:=hd.shape
 obtain ⟨aw,cw,rfl,_⟩:=hw.shape'
 have HZ:=hD (boxZ w (.int .i64 sel) (.int .i64 ord) (.int .i64 br) (.slice aw ws.length cw) 28)
 have HB:=hD (BoxL.mk' w #[.int .i64 sel,.int .i64 ord,.int .i64 br,.slice aw ws.length cw] 28)
 have CE:Hid (∀ W,Below w.heap.size w W->Calls Tryz.prog 45 #[.slice ao d.length cap] W fun e w'=>e=.returned (.tuple #[.int .i64 (endsL (norm d)).1,.int .i64 (endsL (norm d)).2.1,.bool (endsL (norm d)).2.2])/\Below W.heap.size W w'):=fun W h=>ends_c _ d W (hd.below h) hl
 have CS:Hid (∀ W,Below w.heap.size w W->Calls Tryz.prog 68 #[.slice ao d.length cap] W fun e w'=>e=.returned (.int .i64 (sizeL (norm d)))/\Below W.heap.size W w'):=fun W h=>size_c _ d W (hd.below h) hl
 obtain ⟨b1,b2,b3,b4⟩:=ends_bnd d
 have HW:=hD hw
 clear hd hw
 unfold rankL
 generalize (endsL (norm d)).1=lo at *
 generalize (endsL (norm d)).2.1=hi at *
 generalize (endsL (norm d)).2.2=ok at *
 generalize sizeL (norm d)=sz at *
 have CE1:=hD (CE.out _ HZ.out)
 clear CE
 rcases hs with rfl | rfl | rfl | rfl | rfl
 ·go_enter Tryz.func69,Tryz.ntmps69
  go_wp2_with (go_at_call 45;(with_reducible refine CE1.out.mono ?_);rintro e W1 ⟨rfl,bb⟩;have B1:=hD (bT HZ.out bb);obtain ⟨l0,_⟩:=(HB.out.below bb (by simp)).get 0 rfl;clear bb)
  go_ret
  exact ⟨rfl,B1.out⟩
 ·go_enter Tryz.func69,Tryz.ntmps69
  go_wp2_with (first
   | (go_at_call 45;(with_reducible refine CE1.out.mono ?_);rintro e W1 ⟨rfl,bb⟩;have B1:=hD (bT HZ.out bb);obtain ⟨l0,_⟩:=(HB.out.below bb (by simp)).get 0 rfl;clear bb)
   | (go_at_call 68;(with_reducible refine (CS.out _ B1.out).mono ?_);rintro e W2 ⟨rfl,bb⟩;have B2:=hD (bT B1.out bb);clear bb))
  go_ret
  exact ⟨rfl,B2.out⟩
 ·go_enter Tryz.func69,Tryz.ntmps69
  go_wp2_with (go_at_call 45;(with_reducible refine CE1.out.mono ?_);rintro e W1 ⟨rfl,bb⟩;have B1:=hD (bT HZ.out bb);obtain ⟨l0,_⟩:=(HB.out.below bb (by simp)).get 0 rfl;clear bb)
  go_ret
  exact ⟨rfl,B1.out⟩
 ·go_enter Tryz.func69,Tryz.ntmps69
  go_wp2_with (go_at_call 45;(with_reducible refine CE1.out.mono ?_);rintro e W1 ⟨rfl,bb⟩;have B1:=hD (bT HZ.out bb);obtain ⟨l0,_⟩:=(HB.out.below bb (by simp)).get 0 rfl;clear bb)
  go_ret
  exact ⟨rfl,B1.out⟩
 ·by_cases hlt:i<ws.length
  ·obtain ⟨b,off,rfl,q1,q2,x0⟩:=HW.out.get' i hlt
   have hg:Hid (ws.getD i 0=ws[i]):=by show _=_;rw [List.getD_eq_getElem?_getD,List.getElem?_eq_getElem hlt];rfl
   have j1:(i:Int)<ws.length:=by omega
   generalize ws[i]=x at *
   generalize ws.getD i 0=y at *
   go_enter Tryz.func69,Tryz.ntmps69
   go_wp2_with (go_at_call 45;(with_reducible refine CE1.out.mono ?_);rintro e W1 ⟨rfl,bb⟩;have B1:=hD (bT HZ.out bb);obtain ⟨l0,_⟩:=(HB.out.below bb (by simp)).get 0 rfl;obtain ⟨l3,_⟩:=(HB.out.below bb (by simp)).get 3 rfl;have x1:=(B1.out.cell (p:=⟨b,off+i,none⟩) q2).trans x0;clear bb)
   go_ret
   exact ⟨ret_int (by rw [hg.out]),B1.out⟩
  ·have hg:Hid (ws.getD i 0=0):=by show _=_;rw [List.getD_eq_getElem?_getD,List.getElem?_eq_none (by omega)];rfl
   generalize ws.getD i 0=y at *
   go_enter Tryz.func69,Tryz.ntmps69
   go_wp2_with (go_at_call 45;(with_reducible refine CE1.out.mono ?_);rintro e W1 ⟨rfl,bb⟩;have B1:=hD (bT HZ.out bb);obtain ⟨l0,_⟩:=(HB.out.below bb (by simp)).get 0 rfl;obtain ⟨l3,_⟩:=(HB.out.below bb (by simp)).get 3 rfl;clear bb)
   go_ret
   exact ⟨ret_int (by rw [hg.out]),B1.out⟩
theorem labWeight_c (vw:Value) (sel ord br:Int) (i:Nat) (ws:List Int) (w:World) (hw:IsAt w vw ws) (_hi:i<=4096) :
  Calls Tryz.prog 78 #[.agg #[.int .i64 sel,.int .i64 ord,.int .i64 br,vw],.int .i64 i] w fun e w'=>e=.returned (.int .i64 (ws.getD i 0))/\Below w.heap.size w w':=by
 obtain ⟨aw,cw,rfl,_⟩:=hw.shape'
 have HZ:=hD (boxZ w (.int .i64 sel) (.int .i64 ord) (.int .i64 br) (.slice aw ws.length cw) 28)
 by_cases hlt:i<ws.length
 ·obtain ⟨b,off,rfl,q1,q2,x0⟩:=hw.get' i hlt
  have hg:Hid (ws.getD i 0=ws[i]):=by show _=_;rw [List.getD_eq_getElem?_getD,List.getElem?_eq_getElem hlt];rfl
  have j1:(i:Int)<ws.length:=by omega
  have hne:b≠w.heap.size:=by omega
  clear hw
  generalize ws[i]=x at *
  generalize ws.getD i 0=y at *
  go_enter Tryz.func78,Tryz.ntmps78
  go_wp2
  go_ret
  exact ⟨ret_int (by rw [hg.out]),HZ.out⟩
 ·have hg:Hid (ws.getD i 0=0):=by show _=_;rw [List.getD_eq_getElem?_getD,List.getElem?_eq_none (by omega)];rfl
  clear hw
  generalize ws.getD i 0=y at *
  go_enter Tryz.func78,Tryz.ntmps78
  go_wp2
  go_ret
  exact ⟨ret_int (by rw [hg.out]),HZ.out⟩
theorem domain_c (vds:Value) (v:Int) (ds:Ds) (w:World) (hd:DsAt w vds ds) :
  ∃ ao cap,RgAt w (.slice ao (domAt ds v).length cap) (domAt ds v)/\∀ W,Below w.heap.size w W->Calls Tryz.prog 76 #[vds,.int .i64 v] W fun e w'=>e=.returned (.slice ao (domAt ds v).length cap)/\W=w':=by
 obtain ⟨ao,cap,rfl,_⟩:=hd.shape
 unfold domAt
 by_cases h1:v<0
 ·rw [if_pos h1]
  refine ⟨none,0,RgAt.nil,fun W hW=>?_⟩
  go_enter Tryz.func76,Tryz.ntmps76
  go_wp2
  go_ret
  exact ⟨rfl,rfl⟩
 ·rw [if_neg h1]
  obtain ⟨n,rfl⟩:=Int.eq_ofNat_of_zero_le (show 0<=v by omega)
  rw [Int.toNat_natCast]
  by_cases h2:n<ds.length
  ·have hg:ds.getD n []=ds[n]:=by rw [List.getD_eq_getElem?_getD,List.getElem?_eq_getElem h2];rfl
   rw [hg]
   obtain ⟨b,off,a2,c2,rfl,q1,q2,_,hc,hr⟩:=hd.get n h2
   have j1:(n:Int)<ds.length:=by omega
   refine ⟨a2,c2,hr,fun W hW=>?_⟩
   have hcW:=(hW.cell (p:=⟨b,off+n,none⟩) q2).trans hc
   clear hr hg hd hc hW
   generalize ds[n]=d at *
   go_enter Tryz.func76,Tryz.ntmps76
   go_wp2
   go_ret
   exact ⟨rfl,rfl⟩
  ·have hg:ds.getD n []=[]:=by rw [List.getD_eq_getElem?_getD,List.getElem?_eq_none (by omega)];rfl
   rw [hg]
   refine ⟨none,0,RgAt.nil,fun W hW=>?_⟩
   clear hg hd
   go_enter Tryz.func76,Tryz.ntmps76
   go_wp2
   go_ret
   exact ⟨rfl,rfl⟩
theorem better_c (va vb:Value) (sel:Int) (a b:List Rg) (w:World) (ha:RgAt w va a) (hb:RgAt w vb b) (hla:a.length<=4096) (hlb:b.length<=4096) (hs:sel=0\/sel=1\/sel=2\/sel=3\/sel=4) :
  Calls Tryz.prog 77 #[va,vb,.int .i64 sel] w fun e w'=>e=.returned (.bool (betterL sel a b))/\Below w.heap.size w w':=by
 obtain ⟨ao,cap,rfl,_⟩:=ha.shape
 obtain ⟨ao2,cap2,rfl,_⟩:=hb.shape
 have CA:Hid (∀ W,Below w.heap.size w W->Calls Tryz.prog 51 #[.slice ao a.length cap] W fun e w'=>e=.returned (.tuple #[.int .i64 (endsL (norm a)).1,.int .i64 (endsL (norm a)).2.1,.bool (endsL (norm a)).2.2])/\Below W.heap.size W w'):=fun W h=>refEnds_c _ a W (ha.below h) hla
 have CB:Hid (∀ W,Below w.heap.size w W->Calls Tryz.prog 51 #[.slice ao2 b.length cap2] W fun e w'=>e=.returned (.tuple #[.int .i64 (endsL (norm b)).1,.int .i64 (endsL (norm b)).2.1,.bool (endsL (norm b)).2.2])/\Below W.heap.size W w'):=fun W h=>refEnds_c _ b W (hb.below h) hlb
 have SA:Hid (∀ W,Below w.heap.size w W->Calls Tryz.prog 28 #[.slice ao a.length cap] W fun e w'=>e=.returned (.int .i64 (sizeL (norm a)))/\Below W.heap.size W w'):=fun W h=>refSize_c _ a W (ha.below h) hla
 have SB:Hid (∀ W,Below w.heap.size w W->Calls Tryz.prog 28 #[.slice ao2 b.length cap2] W fun e w'=>e=.returned (.int .i64 (sizeL (norm b)))/\Below W.heap.size W w'):=fun W h=>refSize_c _ b W (hb.below h) hlb
 have CA1:=hD (CA.out w (Below.refl _ _))
 clear ha hb CA
 unfold betterL
 generalize (endsL (norm a)).1=la at *
 generalize (endsL (norm a)).2.1=ha at *
 generalize (endsL (norm a)).2.2=oa at *
 generalize (endsL (norm b)).1=lb at *
 generalize (endsL (norm b)).2.1=hb at *
 generalize (endsL (norm b)).2.2=ob at *
 generalize sizeL (norm a)=sa at *
 generalize sizeL (norm b)=sb at *
 rcases hs with rfl | rfl | rfl | rfl | rfl
 all_goals
  go_enter Tryz.func77,Tryz.ntmps77
  go_wp2_with (first
   | (go_at_call 51;(with_reducible refine CA1.out.mono ?_);rintro e W1 ⟨rfl,bb⟩;have B1:=hD bb;clear bb)
   | (go_at_call 51;(with_reducible refine (CB.out _ B1.out).mono ?_);rintro e W2 ⟨rfl,bb⟩;have B2:=hD (bT B1.out bb);clear bb)
   | (go_at_call 28;(with_reducible refine (SA.out _ B2.out).mono ?_);rintro e W3 ⟨rfl,bb⟩;have B3:=hD (bT B2.out bb);clear bb)
   | (go_at_call 28;(with_reducible refine (SB.out _ B3.out).mono ?_);rintro e W4 ⟨rfl,bb⟩;have B4:=hD (bT B3.out bb);clear bb))
  go_ret
  first
   | exact ⟨ret_bool (by simp),B2.out⟩
   | exact ⟨ret_bool (by simp),B4.out⟩
end
end Go.Proofs.YtaekdgikgbdnnaaGreat
