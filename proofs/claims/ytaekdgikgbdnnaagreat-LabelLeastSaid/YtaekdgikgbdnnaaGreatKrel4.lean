/-
  coneyref16.Check, coneylaw16.sameInts and the law RelChecks, walked.
-/
import Derived.Test.YtaekdgikgbdnnaaGreatKrel3
import Derived.Test.YtaekdgikgbdnnaaGreatKlin2
namespace Go.Proofs.YtaekdgikgbdnnaaGreat
section
open Go.RowKit
theorem outB_lo {n v:Int} (h:v<0):outB n v=true:=by simp [outB,h]
theorem outB_hi {n v:Int} (h:n<=v):outB n v=true:=by simp [outB,h]
theorem outB_in {n v:Int} (h1:¬ v<0) (h2:¬ n<=v):outB n v=false:=by simp [outB];omega
theorem any_at (p:Int->Bool) (zs:List Int) (k:Nat) (hk:k<zs.length) (h:p zs[k]=true):zs.any p=true:=by rw [List.any_eq_true];exact ⟨zs[k],List.getElem_mem hk,h⟩
theorem box9 {w W:World} {v0 v1 v2 v3 v4 v5 v6 v7 v8:Value} {T:TypeId} (bb:Below (w.alloc (.cells #[v0,v1,v2,v3,v4,v5,v6,v7,v8] T)).heap.size (w.alloc (.cells #[v0,v1,v2,v3,v4,v5,v6,v7,v8] T)) W) :
  W.cell? ⟨w.heap.size,0,none⟩=some v0/\W.cell? ⟨w.heap.size,1,none⟩=some v1/\W.cell? ⟨w.heap.size,2,none⟩=some v2/\W.cell? ⟨w.heap.size,3,none⟩=some v3/\W.cell? ⟨w.heap.size,4,none⟩=some v4/\W.cell? ⟨w.heap.size,5,none⟩=some v5/\W.cell? ⟨w.heap.size,6,none⟩=some v6/\W.cell? ⟨w.heap.size,7,none⟩=some v7/\W.cell? ⟨w.heap.size,8,none⟩=some v8:=by
 have h:∀ k,W.cell? ⟨w.heap.size,k,none⟩=(w.alloc (.cells #[v0,v1,v2,v3,v4,v5,v6,v7,v8] T)).cell? ⟨w.heap.size,k,none⟩:=fun k=>bb.cell (p:=⟨w.heap.size,k,none⟩) (by simp)
 refine ⟨?_,?_,?_,?_,?_,?_,?_,?_,?_⟩ <;> (rw [h];simp)
set_option maxRecDepth 100000
set_option maxHeartbeats 1600000
theorem refRelCheck_c (kind:Int) (va vb vv:Value) (rel c x y z n:Int) (coef vars vs:List Int) (w:World) (h0:IsAt w va coef) (h1:IsAt w vb vars) (h2:IsAt w vv vs) (hl0:coef.length<=4096) (hl1:vars.length<=4095) (hl2:vs.length<=4095) :
  Calls Tryz.prog 38 #[propV kind va vb rel c x y z vv,.int .i64 n] w fun e w'=>e=.returned (.int .i64 (relChk kind rel c x y z coef vars vs n))/\Below w.heap.size w w':=by
 have hal:(allL kind vars x y z vs).length<=4096:=by
  unfold allL;split
  ·omega
  ·split
   ·simp
   ·split
    ·omega
    ·split <;> simp;omega
 have ha3:kind=3->(allL kind vars x y z vs).length=vs.length:=by rintro rfl;simp [allL]
 obtain ⟨a0,c0,rfl,_⟩:=SlAt.shape h0
 obtain ⟨a1,c1,rfl,_⟩:=SlAt.shape h1
 obtain ⟨a2,c2,rfl,_⟩:=SlAt.shape h2
 have HZ:Hid (Below w.heap.size w (w.alloc (.cells #[.int .i64 kind,.slice a0 coef.length c0,.slice a1 vars.length c1,.int .i64 rel,.int .i64 c,.int .i64 x,.int .i64 y,.int .i64 z,.slice a2 vs.length c2] 67))):=bA _
 have CA:Hid (∀ W,Below w.heap.size w W->Calls Tryz.prog 59 #[.agg #[.int .i64 kind,.slice a0 coef.length c0,.slice a1 vars.length c1,.int .i64 rel,.int .i64 c,.int .i64 x,.int .i64 y,.int .i64 z,.slice a2 vs.length c2]] W fun e w'=>∃ ao cap,e=.returned (.slice ao (allL kind vars x y z vs).length cap)/\IsAt w' (.slice ao (allL kind vars x y z vs).length cap) (allL kind vars x y z vs)/\Below W.heap.size W w'):=fun W h=>all_c kind _ _ _ rel c x y z coef vars vs W (h0.below h) (h1.below h) (h2.below h) (by omega) (by omega)
 have CL:Hid (∀ W,Below w.heap.size w W->Calls Tryz.prog 58 #[.agg #[.slice a0 coef.length c0,.slice a1 vars.length c1,.int .i64 rel,.int .i64 c],.int .i64 n] W fun e w'=>e=.returned (.int .i64 (linChk coef vars rel c n))/\Below W.heap.size W w'):=fun W h=>refCheck_any _ _ rel c n coef vars W (h0.below h) (h1.below h) hl0 (by omega)
 unfold relChk
 by_cases k1:kind<1
 ·rw [if_pos (by omega)]
  clear h0 h1 h2 CA CL ha3
  unfold propV
  go_enter Tryz.func38,Tryz.ntmps38
  go_wp2
  go_ret
  exact ⟨rfl,HZ.out⟩
 by_cases k2:4<kind
 ·rw [if_pos (by omega)]
  clear h0 h1 h2 CA CL ha3
  unfold propV
  go_enter Tryz.func38,Tryz.ntmps38
  go_wp2
  go_ret
  exact ⟨rfl,HZ.out⟩
 rw [if_neg (by omega)]
 generalize linChk coef vars rel c n=L at *
 by_cases kl:(kind=1\/kind=4)/\L≠0
 ·rw [if_pos kl]
  obtain ⟨kk,hL⟩:=kl
  have hL2:(L != 0)=true:=by simpa using hL
  have hL3:(L==0)=false:=by simpa using hL
  clear h0 h1 h2 CA ha3 hL
  unfold propV
  rcases kk with rfl | rfl
  ·go_enter Tryz.func38,Tryz.ntmps38
   go_wp2_with (go_at_call 58;(with_reducible refine (CL.out _ HZ.out).mono ?_);rintro e W2 ⟨rfl,bb⟩;have BL:=hD (bT HZ.out bb);have BB:=hD bb;obtain ⟨f0,f1,f2,f3,f4,f5,f6,f7,f8⟩:=box9 bb;clear bb)
   go_ret
   exact ⟨rfl,BL.out⟩
  ·go_enter Tryz.func38,Tryz.ntmps38
   go_wp2_with (go_at_call 58;(with_reducible refine (CL.out _ HZ.out).mono ?_);rintro e W2 ⟨rfl,bb⟩;have BL:=hD (bT HZ.out bb);have BB:=hD bb;obtain ⟨f0,f1,f2,f3,f4,f5,f6,f7,f8⟩:=box9 bb;clear bb)
   go_ret
   exact ⟨rfl,BL.out⟩
 rw [if_neg kl]
 generalize hA:allL kind vars x y z vs=A at *
 clear hA
 have hkind:kind=1/\L=0\/kind=4/\L=0\/kind=2\/kind=3:=by
  rcases Classical.em (L=0) with h | h
  ·have:kind=1\/kind=2\/kind=3\/kind=4:=by omega
   rcases this with h1 | h1 | h1 | h1 <;> simp [h1,h]
  ·have:¬ (kind=1\/kind=4):=fun hh=>kl ⟨hh,h⟩
   have:kind=2\/kind=3:=by omega
   rcases this with h1 | h1 <;> simp [h1]
 clear kl k1 k2
 by_cases k3:kind=3/\64<vs.length
 ·rw [if_pos k3]
  obtain ⟨rfl,hv⟩:=k3
  have hA64:(64:Int)<A.length:=by rw [ha3 rfl];omega
  clear h0 h1 h2 CL ha3 hkind
  unfold propV
  go_enter Tryz.func38,Tryz.ntmps38
  go_wp2_with (go_at_call 59;(with_reducible refine (CA.out _ HZ.out).mono ?_);rintro e W1 ⟨a3,c3,rfl,i3,bb⟩;have B1:=hD (bT HZ.out bb);have I3:=hD i3;obtain ⟨g0,_⟩:=box9 bb;clear bb i3)
  go_ret
  exact ⟨rfl,B1.out⟩
 rw [if_neg k3]
 have hA64:kind=3->¬ (64:Int)<A.length:=fun h=>by rw [ha3 h];have:¬ 64<vs.length:=fun hh=>k3 ⟨h,hh⟩;omega
 obtain ⟨R,hR⟩:∃ R:Int,R=if A.any (outB n)=true then 160 else 0:=⟨_,rfl⟩
 rw [<- hR]
 have HR:=hD hR
 clear k3 ha3 hR
 have HT:Hid (∀ W1 a3 c3,IsAt W1 (.slice a3 A.length c3) A->True):=fun _ _ _ _=>trivial
 clear h0 h1 h2 HT
 unfold propV
 rcases hkind with ⟨rfl,rfl⟩ | ⟨rfl,rfl⟩ | rfl | rfl
 ·skip
  clear hA64
  go_enter Tryz.func38,Tryz.ntmps38
  go_wp2_with (first | (go_at_call 58;(with_reducible refine (CL.out _ HZ.out).mono ?_);rintro e W2 ⟨rfl,bb⟩;have BL:=hD (bT HZ.out bb);have BB:=hD bb;obtain ⟨f0,f1,f2,f3,f4,f5,f6,f7,f8⟩:=box9 bb;clear bb) | (go_at_call 59;(with_reducible refine (CA.out _ BL.out).mono ?_);rintro e W1 ⟨a3,c3,rfl,i3,bb⟩;have B1:=hD (bT BL.out bb);have I3:=hD i3;obtain ⟨g0,_⟩:=box9 (bT BB.out bb);clear bb i3))
  go_loop [7] (fun s=>∃ i:Nat,i<=A.length/\s=.int .i64 i/\Hid ((A.take i).any (outB n)=false)) (fun s=>A.length - (intOf s).toNat)
  case atStart=>exact ⟨0,by omega,rfl,rfl⟩
  case round =>
   obtain ⟨i,hil,rfl,HN⟩:=hrel
   by_cases hlt:i<A.length
   ·obtain ⟨b1,o1,rfl,q1,q2,x1⟩:=I3.out.getR i hlt
    have j1:(i:Int)<A.length:=by omega
    by_cases hb1:A[i]<0
    ·have HF:Hid (A.any (outB n)=true):=any_at _ A i hlt (outB_lo hb1)
     generalize A[i]=v at *
     go_wp2
     go_ret
     exact ⟨ret_int (by rw [HR.out,HF.out];rfl),B1.out⟩
    by_cases hb2:n<=A[i]
    ·have HF:Hid (A.any (outB n)=true):=any_at _ A i hlt (outB_hi hb2)
     generalize A[i]=v at *
     go_wp2
     go_ret
     exact ⟨ret_int (by rw [HR.out,HF.out];rfl),B1.out⟩
    have HF:Hid ((A.take (i+1)).any (outB n)=false):=any_take_step _ A i hlt HN.out (outB_in hb1 hb2)
    generalize A[i]=v at *
    go_wp2
    go_round
    case rel=>exact ⟨i+1,by omega,by go_num,HF⟩
    case measure=>simp [intOf];omega
   ·obtain rfl:i=A.length:=by omega
    have HF:Hid (A.any (outB n)=false):=by have:=HN.out;rwa [List.take_length] at this
    go_wp2
    go_ret
    exact ⟨ret_int (by rw [HR.out,HF.out];rfl),B1.out⟩
 ·skip
  clear hA64
  go_enter Tryz.func38,Tryz.ntmps38
  go_wp2_with (first | (go_at_call 58;(with_reducible refine (CL.out _ HZ.out).mono ?_);rintro e W2 ⟨rfl,bb⟩;have BL:=hD (bT HZ.out bb);have BB:=hD bb;obtain ⟨f0,f1,f2,f3,f4,f5,f6,f7,f8⟩:=box9 bb;clear bb) | (go_at_call 59;(with_reducible refine (CA.out _ BL.out).mono ?_);rintro e W1 ⟨a3,c3,rfl,i3,bb⟩;have B1:=hD (bT BL.out bb);have I3:=hD i3;obtain ⟨g0,_⟩:=box9 (bT BB.out bb);clear bb i3))
  go_loop [7] (fun s=>∃ i:Nat,i<=A.length/\s=.int .i64 i/\Hid ((A.take i).any (outB n)=false)) (fun s=>A.length - (intOf s).toNat)
  case atStart=>exact ⟨0,by omega,rfl,rfl⟩
  case round =>
   obtain ⟨i,hil,rfl,HN⟩:=hrel
   by_cases hlt:i<A.length
   ·obtain ⟨b1,o1,rfl,q1,q2,x1⟩:=I3.out.getR i hlt
    have j1:(i:Int)<A.length:=by omega
    by_cases hb1:A[i]<0
    ·have HF:Hid (A.any (outB n)=true):=any_at _ A i hlt (outB_lo hb1)
     generalize A[i]=v at *
     go_wp2
     go_ret
     exact ⟨ret_int (by rw [HR.out,HF.out];rfl),B1.out⟩
    by_cases hb2:n<=A[i]
    ·have HF:Hid (A.any (outB n)=true):=any_at _ A i hlt (outB_hi hb2)
     generalize A[i]=v at *
     go_wp2
     go_ret
     exact ⟨ret_int (by rw [HR.out,HF.out];rfl),B1.out⟩
    have HF:Hid ((A.take (i+1)).any (outB n)=false):=any_take_step _ A i hlt HN.out (outB_in hb1 hb2)
    generalize A[i]=v at *
    go_wp2
    go_round
    case rel=>exact ⟨i+1,by omega,by go_num,HF⟩
    case measure=>simp [intOf];omega
   ·obtain rfl:i=A.length:=by omega
    have HF:Hid (A.any (outB n)=false):=by have:=HN.out;rwa [List.take_length] at this
    go_wp2
    go_ret
    exact ⟨ret_int (by rw [HR.out,HF.out];rfl),B1.out⟩
 ·skip
  clear hA64
  go_enter Tryz.func38,Tryz.ntmps38
  go_wp2_with (go_at_call 59;(with_reducible refine (CA.out _ HZ.out).mono ?_);rintro e W1 ⟨a3,c3,rfl,i3,bb⟩;have B1:=hD (bT HZ.out bb);have I3:=hD i3;obtain ⟨g0,_⟩:=box9 bb;clear bb i3)
  go_loop [7] (fun s=>∃ i:Nat,i<=A.length/\s=.int .i64 i/\Hid ((A.take i).any (outB n)=false)) (fun s=>A.length - (intOf s).toNat)
  case atStart=>exact ⟨0,by omega,rfl,rfl⟩
  case round =>
   obtain ⟨i,hil,rfl,HN⟩:=hrel
   by_cases hlt:i<A.length
   ·obtain ⟨b1,o1,rfl,q1,q2,x1⟩:=I3.out.getR i hlt
    have j1:(i:Int)<A.length:=by omega
    by_cases hb1:A[i]<0
    ·have HF:Hid (A.any (outB n)=true):=any_at _ A i hlt (outB_lo hb1)
     generalize A[i]=v at *
     go_wp2
     go_ret
     exact ⟨ret_int (by rw [HR.out,HF.out];rfl),B1.out⟩
    by_cases hb2:n<=A[i]
    ·have HF:Hid (A.any (outB n)=true):=any_at _ A i hlt (outB_hi hb2)
     generalize A[i]=v at *
     go_wp2
     go_ret
     exact ⟨ret_int (by rw [HR.out,HF.out];rfl),B1.out⟩
    have HF:Hid ((A.take (i+1)).any (outB n)=false):=any_take_step _ A i hlt HN.out (outB_in hb1 hb2)
    generalize A[i]=v at *
    go_wp2
    go_round
    case rel=>exact ⟨i+1,by omega,by go_num,HF⟩
    case measure=>simp [intOf];omega
   ·obtain rfl:i=A.length:=by omega
    have HF:Hid (A.any (outB n)=false):=by have:=HN.out;rwa [List.take_length] at this
    go_wp2
    go_ret
    exact ⟨ret_int (by rw [HR.out,HF.out];rfl),B1.out⟩
 ·have hA3:=hA64 rfl
  clear hA64
  go_enter Tryz.func38,Tryz.ntmps38
  go_wp2_with (go_at_call 59;(with_reducible refine (CA.out _ HZ.out).mono ?_);rintro e W1 ⟨a3,c3,rfl,i3,bb⟩;have B1:=hD (bT HZ.out bb);have I3:=hD i3;obtain ⟨g0,_⟩:=box9 bb;clear bb i3)
  go_loop [7] (fun s=>∃ i:Nat,i<=A.length/\s=.int .i64 i/\Hid ((A.take i).any (outB n)=false)) (fun s=>A.length - (intOf s).toNat)
  case atStart=>exact ⟨0,by omega,rfl,rfl⟩
  case round =>
   obtain ⟨i,hil,rfl,HN⟩:=hrel
   by_cases hlt:i<A.length
   ·obtain ⟨b1,o1,rfl,q1,q2,x1⟩:=I3.out.getR i hlt
    have j1:(i:Int)<A.length:=by omega
    by_cases hb1:A[i]<0
    ·have HF:Hid (A.any (outB n)=true):=any_at _ A i hlt (outB_lo hb1)
     generalize A[i]=v at *
     go_wp2
     go_ret
     exact ⟨ret_int (by rw [HR.out,HF.out];rfl),B1.out⟩
    by_cases hb2:n<=A[i]
    ·have HF:Hid (A.any (outB n)=true):=any_at _ A i hlt (outB_hi hb2)
     generalize A[i]=v at *
     go_wp2
     go_ret
     exact ⟨ret_int (by rw [HR.out,HF.out];rfl),B1.out⟩
    have HF:Hid ((A.take (i+1)).any (outB n)=false):=any_take_step _ A i hlt HN.out (outB_in hb1 hb2)
    generalize A[i]=v at *
    go_wp2
    go_round
    case rel=>exact ⟨i+1,by omega,by go_num,HF⟩
    case measure=>simp [intOf];omega
   ·obtain rfl:i=A.length:=by omega
    have HF:Hid (A.any (outB n)=false):=by have:=HN.out;rwa [List.take_length] at this
    go_wp2
    go_ret
    exact ⟨ret_int (by rw [HR.out,HF.out];rfl),B1.out⟩
end
end Go.Proofs.YtaekdgikgbdnnaaGreat
