/-
  container/heap's up, walked: what waits is moved about, nothing is lost.
  container/heap's down, walked.
  container/heap's Push and Pop, walked.
  (*fix.queue).wait and next, walked: the queue with its map.
  WHICH CONSTRAINTS NAME A VARIABLE: a list of rows of integers, each row of its own, grown by append.
-/
import Derived.Test.YtaekdgikgbdnnaaGreatKonce4
namespace Go.Proofs.YtaekdgikgbdnnaaGreat
section
open Go.RowKit
theorem swapL_perm (L:List Int) (i k:Nat) (hi:i<L.length) (hk:k<L.length):(swapL L i k).Perm L:=by
 rw [List.perm_iff_count]
 intro a
 unfold swapL
 rw [List.getD_eq_getElem?_getD,List.getD_eq_getElem?_getD,List.getElem?_eq_getElem hi,List.getElem?_eq_getElem hk,Option.getD_some,Option.getD_some]
 have e1:k<(L.set i L[k]).length:=by simpa using hk
 have p1:0<L.count L[i]:=List.count_pos_iff.mpr (List.getElem_mem hi)
 have p2:0<L.count L[k]:=List.count_pos_iff.mpr (List.getElem_mem hk)
 rw [List.count_set e1,List.count_set hi,List.getElem_set]
 by_cases e:i=k
 ·subst e
  simp
  by_cases h:L[i]=a
  ·subst h;simp
  ·simp [h]
 ·simp only [e,if_false]
  by_cases h1:L[i]=a <;> by_cases h2:L[k]=a <;> simp [h1,h2] <;> (try subst h1) <;> (try subst h2) <;> (try omega)
  all_goals (try (simp_all <;> omega))
theorem InPs.perm {L L':List Int} {ps:List PL} (h:InPs L ps) (p:L'.Perm L):InPs L' ps:=fun i hi=>h i (p.mem_iff.mp hi)
def Kept (qb:Nat) (w:World) (pl:Value) (P:World->Prop):Prop:=∀ w' pl',QSt qb w pl w' pl'->P w'
theorem Kept.here {qb:Nat} {w:World} {pl:Value} {P:World->Prop} (h:Kept qb w pl P):P w:=h w pl (QSt.refl _ _ _)
theorem Kept.on {qb:Nat} {w w':World} {pl pl':Value} {P:World->Prop} (h:Kept qb w pl P) (g:QSt qb w pl w' pl'):Kept qb w' pl' P:=fun _ _ q=>h _ _ (g.trans q)
theorem me_less (p : Option Addr) (n : Nat) (w : World) : (method (n + 1) 99 (.pointer p) "Less").run Tryz.prog w = .ok (149, .pointer p) w := by kernel_rfl
theorem me_push (qb : Nat) (n : Nat) (w : World) : (method (n + 1) 99 (.pointer (some ⟨qb, 0, none⟩)) "Push").run Tryz.prog w = .ok (151, .pointer (some ⟨qb, 0, none⟩)) w := by kernel_rfl
theorem me_pop (qb : Nat) (n : Nat) (w : World) : (method (n + 1) 99 (.pointer (some ⟨qb, 0, none⟩)) "Pop").run Tryz.prog w = .ok (150, .pointer (some ⟨qb, 0, none⟩)) w := by kernel_rfl
theorem me_len (qb : Nat) (n : Nat) (w : World) (v : Value) (h : w.cell? ⟨qb, 0, none⟩ = some v) : (method (n + 1) 99 (.pointer (some ⟨qb, 0, none⟩)) "Len").run Tryz.prog w = .ok (64, v) w := by
 have e : (method (n + 1) 99 (.pointer (some ⟨qb, 0, none⟩)) "Len").run Tryz.prog w = (load ⟨qb, 0, none⟩ >>= fun v => pure (64, v)).run Tryz.prog w := by kernel_rfl
 rw [e]
 simp [go_sem,h]
theorem me_swap (qb : Nat) (n : Nat) (w : World) (v : Value) (h : w.cell? ⟨qb, 0, none⟩ = some v) : (method (n + 1) 99 (.pointer (some ⟨qb, 0, none⟩)) "Swap").run Tryz.prog w = .ok (152, v) w := by
 have e : (method (n + 1) 99 (.pointer (some ⟨qb, 0, none⟩)) "Swap").run Tryz.prog w = (load ⟨qb, 0, none⟩ >>= fun v => pure (152, v)).run Tryz.prog w := by kernel_rfl
 rw [e]
 simp [go_sem,h]
theorem QAt.swapped {w w':World} {qb mb B:Nat} {pl vp:Value} {L:List Int} {i k:Nat} (h:QAt w qb mb B pl vp L) (hl:0<L.length) (ho:w'.ownsRow B 3 1 pl L.length ((swapL L i k).map (Value.int .i64))) (hs:∀ q,pl.ownBlock≠some q->QSt q w pl w' pl):QAt w' qb mb B pl vp (swapL L i k)/\QSt qb w pl w' pl:=by
 obtain ⟨g,cap,rfl,hgb,hcells⟩:=owns_pos h.own (by omega)
 have hg:∀ q,q<B->(Value.slice (some ⟨g,0,none⟩) L.length cap).ownBlock≠some q:=fun q hq e=>by
  simp [Value.ownBlock] at e
  omega
 have x0:=hcells 0 (by omega)
 have hgs:=World.block_lt_of_cell? w ⟨g,0,none⟩ (x0.trans (by rw [List.getElem?_eq_getElem (by simpa using hl)]))
 have hgs:g<w.heap.size:=hgs
 have s1:=hs (w.heap.size) (fun e=>by simp [Value.ownBlock] at e;omega)
 have e:=s1.blk qb h.lt (by have:=h.lt;omega) (hg qb h.lq)
 refine ⟨⟨(World.cell?_of_block (a:=⟨qb,0,none⟩) e).trans h.c0,(World.cell?_of_block (a:=⟨qb,1,none⟩) e).trans h.c1,(World.cell?_of_block (a:=⟨qb,2,none⟩) e).trans h.c2,(World.frozen?_of_block (a:=⟨qb,0,none⟩) e).trans h.f0,?_,h.lq,h.lm⟩,hs qb (hg qb h.lq)⟩
 rw [swapL_len]
 exact ho
set_option maxRecDepth 100000
set_option maxHeartbeats 1600000
theorem qup_c (qb mb B:Nat) (pl vp:Value) (L:List Int) (ps:List PL) (j:Nat) (w:World) (h:QAt w qb mb B pl vp L) (hp:Kept qb w pl (fun W=>PsAt W vp ps)) (hps:∀ p∈ps,p.vs.length<=4096) (hpl:ps.length<=4096) (hin:InPs L ps) (hj:j<L.length) (hl:L.length<=4097) :
  Calls Tryz.prog 102 #[.iface 99 (.pointer (some ⟨qb,0,none⟩)),.int .i64 j] w
   fun e w'=>(∃ u,e=.returned u)/\∃ L',L'.Perm L/\QAt w' qb mb B pl vp L'/\QSt qb w pl w' pl:=by
 have H:=hD h
 have HP:=hD hp
 have HI:=hD hin
 have HS:=hD hps
 have ml:=fun n W=>me_less (some ⟨qb,0,none⟩) n W
 clear h hp hin hps
 go_enter Tryz.func102,Tryz.ntmps102
 go_wp2
 go_loopw [1] (fun s wr=>∃ (j:Nat) (L':List Int),s=.int .i64 j/\j<L.length/\Hid (L'.Perm L/\QAt wr qb mb B pl vp L'/\QSt qb w pl wr pl)) (fun s _=>(intOf s).toNat)
 case atStart=>exact ⟨j,L,rfl,hj,List.Perm.refl _,H.out,QSt.refl _ _ _⟩
 case round =>
  obtain ⟨j,L1,rfl,hj,HR⟩:=hrel
  have hj64:(j:Int)<4097:=by omega
  by_cases j0:j=0
  ·subst j0
   go_wp2
   go_end0
   exact ⟨⟨_,rfl⟩,L1,HR.out⟩
  obtain ⟨m,hm⟩:∃ m,m=(j - 1) / 2:=⟨_,rfl⟩
  have e1:((j:Int) - 1).tdiv 2=m:=by rw [Int.tdiv_eq_ediv_of_nonneg (by omega)];omega
  have e2:((m:Int)==j)=false:=by rw [beq_eq_false_iff_ne];omega
  have hmj:m<j:=by omega
  clear hm
  have hl1:Hid (L1.length=L.length):=HR.out.1.length_eq
  have CL:=hD (qless_c qb mb B pl vp L1 ps j m wr HR.out.2.1 (HP.out.on HR.out.2.2).here HS.out hpl (HI.out.perm HR.out.1) (by rw [hl1.out];exact hj) (by rw [hl1.out];omega) (by rw [hl1.out];exact hl))
  cases hb:qLess ps L1 j m
  ·rw [hb] at CL
   go_wp2_with (go_at_call 149;(with_reducible refine CL.out.mono ?_);rintro e W1 ⟨rfl,bb⟩;have B1:=hD bb;clear bb)
   go_end0
   exact ⟨⟨_,rfl⟩,L1,HR.out.1,HR.out.2.1.below B1.out,HR.out.2.2.trans (QSt.of_below B1.out)⟩
  ·rw [hb] at CL
   go_wp2_with (first | (go_at_call 149;(with_reducible refine CL.out.mono ?_);rintro e W1 ⟨rfl,bb⟩;have B1:=hD bb;clear bb;have Q1:=hD (HR.out.2.1.below B1.out);have ms:=fun n=>me_swap qb n W1 pl Q1.out.c0;have CS:=hD (qswap_c B pl L1 m j W1 Q1.out.own (by rw [hl1.out];omega) (by rw [hl1.out];exact hj) (by rw [hl1.out];exact hl))) | (go_at_call 152;(with_reducible refine CS.out.mono ?_);rintro e W2 ⟨⟨u,rfl⟩,bo,bs⟩;have Q2:=hD (Q1.out.swapped (by rw [hl1.out];omega) bo bs);clear bo bs))
   exact ⟨⟨m,swapL L1 m j,rfl,by omega,(swapL_perm L1 m j (by rw [hl1.out];omega) (by rw [hl1.out];exact hj)).trans HR.out.1,Q2.out.1,(HR.out.2.2.trans (QSt.of_below B1.out)).trans Q2.out.2⟩,by simp [intOf];omega⟩
theorem qdown_c (qb mb B:Nat) (pl vp:Value) (L:List Int) (ps:List PL) (i0 n:Nat) (w:World) (h:QAt w qb mb B pl vp L) (hp:Kept qb w pl (fun W=>PsAt W vp ps)) (hps:∀ p∈ps,p.vs.length<=4096) (hpl:ps.length<=4096) (hin:InPs L ps) (hi:i0<=n) (hn:n<=L.length) (hl:L.length<=4097) :
  Calls Tryz.prog 103 #[.iface 99 (.pointer (some ⟨qb,0,none⟩)),.int .i64 i0,.int .i64 n] w
   fun e w'=>(∃ u,e=.returned u)/\∃ L',L'.Perm L/\QAt w' qb mb B pl vp L'/\QSt qb w pl w' pl:=by
 have H:=hD h
 have HP:=hD hp
 have HI:=hD hin
 have HS:=hD hps
 have ml:=fun n W=>me_less (some ⟨qb,0,none⟩) n W
 clear h hp hin hps
 go_enter Tryz.func103,Tryz.ntmps103
 go_wp2
 go_loopw [7] (fun s wr=>∃ (i:Nat) (L':List Int),s=.int .i64 i/\i<=n/\Hid (L'.Perm L/\QAt wr qb mb B pl vp L'/\QSt qb w pl wr pl)) (fun s _=>n - (intOf s).toNat)
 case atStart=>exact ⟨i0,L,rfl,hi,List.Perm.refl _,H.out,QSt.refl _ _ _⟩
 case round =>
  obtain ⟨i,L1,rfl,hin,HR⟩:=hrel
  have hi64:(i:Int)<4098:=by omega
  have hn64:(n:Int)<4098:=by omega
  by_cases h1:n<=2 * i+1
  ·have g1:(n:Int)<=2 * i+1:=by omega
   clear h1
   go_wp2
   go_ret
   exact ⟨⟨_,rfl⟩,L1,HR.out⟩
  have g1:(2:Int) * i+1<n:=by omega
  have hl1:Hid (L1.length=L.length):=HR.out.1.length_eq
  have CL:Hid (∀ a b:Nat,a<n->b<n->∀ W,Below wr.heap.size wr W->Calls Tryz.prog 149 #[.pointer (some ⟨qb,0,none⟩),.int .i64 a,.int .i64 b] W fun e w'=>e=.returned (.bool (qLess ps L1 a b))/\Below W.heap.size W w'):=fun a b ha hb W hW =>
   qless_c qb mb B pl vp L1 ps a b W (HR.out.2.1.below hW) ((HP.out.on HR.out.2.2).on (QSt.of_below hW)).here HS.out hpl (HI.out.perm HR.out.1) (by rw [hl1.out];omega) (by rw [hl1.out];omega) (by rw [hl1.out];exact hl)
  have CS:Hid (∀ a b:Nat,a<n->b<n->∀ W,Below wr.heap.size wr W->Calls Tryz.prog 152 #[pl,.int .i64 a,.int .i64 b] W fun e w'=>(∃ u,e=.returned u)/\QAt w' qb mb B pl vp (swapL L1 a b)/\QSt qb w pl w' pl):=fun a b ha hb W hW =>
   (qswap_c B pl L1 a b W (HR.out.2.1.below hW).own (by rw [hl1.out];omega) (by rw [hl1.out];omega) (by rw [hl1.out];exact hl)).mono (fun e w' ⟨hu,bo,bs⟩ =>
    have q:=(HR.out.2.1.below hW).swapped (by rw [hl1.out];omega) bo bs
    ⟨hu,q.1,(HR.out.2.2.trans (QSt.of_below hW)).trans q.2⟩)
  have HZ:Hid (Below wr.heap.size wr wr):=Below.refl _ _
  have m1:((2 * i+1:Nat):Int)=2 * i+1:=by omega
  have m2:((2 * i+2:Nat):Int)=2 * i+1+1:=by omega
  by_cases h2:n<=2 * i+2
  ·have g2:(n:Int)<=2 * i+1+1:=by omega
   have D:=hD (CL.out (2 * i+1) i (by omega) (by omega))
   have E:=hD (CS.out i (2 * i+1) (by omega) (by omega))
   rw [m1] at D E
   cases hc:qLess ps L1 (2 * i+1) i
   ·rw [hc] at D
    go_wp2_with ((go_at_call 149;(with_reducible refine (D.out _ HZ.out).mono ?_);rintro e W2 ⟨rfl,bb⟩;have B2:=hD (bT HZ.out bb);clear bb))
    go_ret
    exact ⟨⟨_,rfl⟩,L1,HR.out.1,HR.out.2.1.below B2.out,HR.out.2.2.trans (QSt.of_below B2.out)⟩
   ·rw [hc] at D
    go_wp2_with (first | (go_at_call 149;(with_reducible refine (D.out _ HZ.out).mono ?_);rintro e W2 ⟨rfl,bb⟩;have B2:=hD (bT HZ.out bb);clear bb;have ms:=fun n=>me_swap qb n W2 pl (HR.out.2.1.below B2.out).c0) | (go_at_call 152;(with_reducible refine (E.out _ B2.out).mono ?_);rintro e W3 ⟨⟨u,rfl⟩,qa,qs⟩;have Q:=hD (And.intro qa qs);clear qa qs))
    exact ⟨⟨2 * i+1,swapL L1 i (2 * i+1),by go_num,by omega,(swapL_perm L1 i (2 * i+1) (by rw [hl1.out];omega) (by rw [hl1.out];omega)).trans HR.out.1,Q.out.1,Q.out.2⟩,by simp [intOf];omega⟩
  have g2:(2:Int) * i+1+1<n:=by omega
  cases hb:qLess ps L1 (2 * i+2) (2 * i+1)
  ·have D:=hD (CL.out (2 * i+1) i (by omega) (by omega))
   have E:=hD (CS.out i (2 * i+1) (by omega) (by omega))
   rw [m1] at D E
   have C:=hD (CL.out (2 * i+2) (2 * i+1) (by omega) (by omega) wr HZ.out)
   rw [m1,m2,hb] at C
   cases hc:qLess ps L1 (2 * i+1) i
   ·rw [hc] at D
    go_wp2_with (first | (go_at_call 149;(with_reducible refine C.out.mono ?_);rintro e W1 ⟨rfl,bb⟩;have B1:=hD bb;clear bb C) | (go_at_call 149;(with_reducible refine (D.out _ B1.out).mono ?_);rintro e W2 ⟨rfl,bb⟩;have B2:=hD (bT B1.out bb);clear bb))
    go_ret
    exact ⟨⟨_,rfl⟩,L1,HR.out.1,HR.out.2.1.below B2.out,HR.out.2.2.trans (QSt.of_below B2.out)⟩
   ·rw [hc] at D
    go_wp2_with (first | (go_at_call 149;(with_reducible refine C.out.mono ?_);rintro e W1 ⟨rfl,bb⟩;have B1:=hD bb;clear bb C) | (go_at_call 149;(with_reducible refine (D.out _ B1.out).mono ?_);rintro e W2 ⟨rfl,bb⟩;have B2:=hD (bT B1.out bb);clear bb;have ms:=fun n=>me_swap qb n W2 pl (HR.out.2.1.below B2.out).c0) | (go_at_call 152;(with_reducible refine (E.out _ B2.out).mono ?_);rintro e W3 ⟨⟨u,rfl⟩,qa,qs⟩;have Q:=hD (And.intro qa qs);clear qa qs))
    exact ⟨⟨2 * i+1,swapL L1 i (2 * i+1),by go_num,by omega,(swapL_perm L1 i (2 * i+1) (by rw [hl1.out];omega) (by rw [hl1.out];omega)).trans HR.out.1,Q.out.1,Q.out.2⟩,by simp [intOf];omega⟩
  ·have D:=hD (CL.out (2 * i+2) i (by omega) (by omega))
   have E:=hD (CS.out i (2 * i+2) (by omega) (by omega))
   rw [m2] at D E
   have C:=hD (CL.out (2 * i+2) (2 * i+1) (by omega) (by omega) wr HZ.out)
   rw [m1,m2,hb] at C
   cases hc:qLess ps L1 (2 * i+2) i
   ·rw [hc] at D
    go_wp2_with (first | (go_at_call 149;(with_reducible refine C.out.mono ?_);rintro e W1 ⟨rfl,bb⟩;have B1:=hD bb;clear bb C) | (go_at_call 149;(with_reducible refine (D.out _ B1.out).mono ?_);rintro e W2 ⟨rfl,bb⟩;have B2:=hD (bT B1.out bb);clear bb))
    go_ret
    exact ⟨⟨_,rfl⟩,L1,HR.out.1,HR.out.2.1.below B2.out,HR.out.2.2.trans (QSt.of_below B2.out)⟩
   ·rw [hc] at D
    go_wp2_with (first | (go_at_call 149;(with_reducible refine C.out.mono ?_);rintro e W1 ⟨rfl,bb⟩;have B1:=hD bb;clear bb C) | (go_at_call 149;(with_reducible refine (D.out _ B1.out).mono ?_);rintro e W2 ⟨rfl,bb⟩;have B2:=hD (bT B1.out bb);clear bb;have ms:=fun n=>me_swap qb n W2 pl (HR.out.2.1.below B2.out).c0) | (go_at_call 152;(with_reducible refine (E.out _ B2.out).mono ?_);rintro e W3 ⟨⟨u,rfl⟩,qa,qs⟩;have Q:=hD (And.intro qa qs);clear qa qs))
    exact ⟨⟨2 * i+2,swapL L1 i (2 * i+2),by go_num,by omega,(swapL_perm L1 i (2 * i+2) (by rw [hl1.out];omega) (by rw [hl1.out];omega)).trans HR.out.1,Q.out.1,Q.out.2⟩,by simp [intOf];omega⟩
theorem slice_len {B e n:Nat} {w:World} {pl:Value} {xs:List Value} (h:w.ownsRow B e 1 pl n xs):∃ ao cap,pl=.slice ao n cap:=by
 obtain ⟨ao,cap,he,_⟩:=(SlAt.of_own h).shape
 exact ⟨ao,cap,he⟩
theorem last_split {L:List Int} {m:Nat} (h:L.length=m+1):∃ L' x,L=L'++[x]/\L'.length=m:=by
 have hne:L≠[]:=fun e=>by rw [e] at h;simp at h
 exact ⟨L.dropLast,L.getLast hne,(List.dropLast_concat_getLast hne).symm,by rw [List.length_dropLast,h];omega⟩
theorem hpush_c (qb mb B:Nat) (pl vp:Value) (L:List Int) (ps:List PL) (i:Int) (w:World) (h:QAt w qb mb B pl vp L) (hp:Kept qb w pl (fun W=>PsAt W vp ps)) (hps:∀ p∈ps,p.vs.length<=4096) (hpl:ps.length<=4096) (hin:InPs (L++[i]) ps) (hl:L.length<=4096) (hB:B<=w.heap.size) :
  Calls Tryz.prog 87 #[.iface 99 (.pointer (some ⟨qb,0,none⟩)),.iface 3 (.int .i64 i)] w
   fun e w'=>(∃ u,e=.returned u)/\∃ pl' L',L'.Perm (L++[i])/\QAt w' qb mb B pl' vp L'/\QSt qb w pl w' pl':=by
 have HP:=hD hp
 have HI:=hD hin
 have HS:=hD hps
 have CP:=hD (qpush_c qb mb B pl vp L i w h hl hB)
 have ml:=fun n W=>me_push qb n W
 obtain ⟨M,hM⟩:∃ M,M=L++[i]:=⟨_,rfl⟩
 have hML:Hid (M.length=L.length+1):=by show _=_;rw [hM];simp
 rw [<- hM] at CP HI |-
 clear hp hin hps h hM hB
 go_enter Tryz.func87,Tryz.ntmps87
 go_wp2_with (first
  | (go_at_call 151;(with_reducible refine CP.out.mono ?_);rintro e W1 ⟨⟨u,rfl⟩,pl1,q1,s1⟩;have Q1:=hD q1;have S1:=hD s1;clear q1 s1;obtain ⟨ao,cap,rfl⟩:=slice_len Q1.out.own;rw [hML.out] at Q1 S1;have m1:=fun n=>me_len qb n W1 _ Q1.out.c0)
  | (go_at_call 64;(with_reducible refine (qlen_c _ _ _ _).mono ?_);rintro e W2 ⟨rfl,rfl⟩;have CU:=hD (qup_c qb mb B _ vp M ps L.length W1 Q1.out (HP.out.on S1.out) HS.out hpl HI.out (by rw [hML.out];omega) (by rw [hML.out];omega)))
  | (go_at_call 102;(with_reducible refine CU.out.mono ?_);rintro e W3 ⟨⟨u3,rfl⟩,L3,p3,q3,s3⟩;have Q3:=hD q3;have S3:=hD s3;have P3:=hD p3;clear q3 s3 p3))
 go_end0
 exact ⟨⟨_,rfl⟩,_,L3,P3.out,Q3.out,S1.out.trans S3.out⟩
theorem hpop_c (qb mb B:Nat) (pl vp:Value) (L:List Int) (ps:List PL) (m:Nat) (w:World) (h:QAt w qb mb B pl vp L) (hp:Kept qb w pl (fun W=>PsAt W vp ps)) (hps:∀ p∈ps,p.vs.length<=4096) (hpl:ps.length<=4096) (hin:InPs L ps) (hm:L.length=m+1) (hl:m<=4095) :
  Calls Tryz.prog 89 #[.iface 99 (.pointer (some ⟨qb,0,none⟩))] w
   fun e w'=>∃ x,e=.returned (.iface 3 (.int .i64 x))/\∃ pl' L',(x::L').Perm L/\QAt w' qb mb B pl' vp L'/\QSt qb w pl w' pl':=by
 have H:=hD h
 have HP:=hD hp
 have HI:=hD hin
 have HS:=hD hps
 have HM:=hD hm
 have ml:=fun n W=>me_pop qb n W
 have m1:=fun n=>me_len qb n w _ h.c0
 have m2:=fun n=>me_swap qb n w _ h.c0
 have z0:((0:Nat):Int)=0:=rfl
 have CS:=hD (qswap_c B pl L 0 m w h.own (by omega) (by omega) (by omega))
 rw [z0] at CS
 obtain ⟨ao,cap,rfl⟩:=slice_len h.own
 rw [hm] at m1 m2
 clear h hp hin hps hm
 go_enter Tryz.func89,Tryz.ntmps89
 go_wp2_with (first
  | (go_at_call 64;(with_reducible refine (qlen_c _ _ _ _).mono ?_);rintro e W2 ⟨rfl,rfl⟩;rw [HM.out] at CS)
  | (go_at_call 152;(with_reducible refine CS.out.mono ?_);rintro e W2 ⟨⟨u,rfl⟩,bo,bs⟩;have Q1:=hD (H.out.swapped (by rw [HM.out];omega) (by rw [HM.out];exact bo) (by rw [HM.out];exact bs));clear bo bs;have P1:=hD (swapL_perm L 0 m (by rw [HM.out];omega) (by rw [HM.out];omega));have CD:=hD (qdown_c qb mb B _ vp (swapL L 0 m) ps 0 m W2 Q1.out.1 (HP.out.on Q1.out.2) HS.out hpl (HI.out.perm P1.out) (by omega) (by rw [swapL_len,HM.out];omega) (by rw [swapL_len,HM.out];omega));rw [z0] at CD)
  | (go_at_call 103;(with_reducible refine CD.out.mono ?_);rintro e W3 ⟨⟨u3,rfl⟩,L3,p3,q3,s3⟩;have S3:=hD s3;obtain ⟨L4,x,rfl,h4⟩:=last_split ((p3.trans P1.out).length_eq.trans HM.out);have P3:=hD (p3.trans P1.out);have CQ:=hD (qpop_c qb mb B _ vp L4 x W3 q3 (by omega));clear q3 s3 p3 h4)    | (go_at_call 150;(with_reducible refine CQ.out.mono ?_);rintro e W4 ⟨rfl,pl5,q5,s5⟩;have Q5:=hD q5;have S5:=hD s5;clear q5 s5))
 go_ret
 exact ⟨x,rfl,pl5,L4,(List.perm_append_comm (l₁:=[x]) (l₂:=L4)).trans P3.out,Q5.out,(Q1.out.2.trans S3.out).trans S5.out⟩
structure QSm (qb mb:Nat) (w:World) (pl:Value) (w':World) (pl':Value):Prop where
 b0:Below 0 w w'
 blk:∀ b,b<w.heap.size->b≠qb->b≠mb->pl.ownBlock≠some b->w'.heap[b]?=w.heap[b]?
 row:∀ b,pl'.ownBlock=some b->pl.ownBlock=some b\/w.heap.size<=b
theorem QSm.refl (qb mb:Nat) (w:World) (pl:Value):QSm qb mb w pl w pl:=⟨Below.refl _ _,fun _ _ _ _ _=>rfl,fun _ h=>.inl h⟩
theorem QSm.trans {qb mb:Nat} {w1 w2 w3:World} {p1 p2 p3:Value} (h:QSm qb mb w1 p1 w2 p2) (g:QSm qb mb w2 p2 w3 p3):QSm qb mb w1 p1 w3 p3 where
 b0:=h.b0.trans g.b0
 blk:=fun b hb hq hm hp=>by
  refine (g.blk b (Nat.lt_of_lt_of_le hb h.b0.size) hq hm (fun e=>?_)).trans (h.blk b hb hq hm hp)
  rcases h.row b e with h1 | h1
  ·exact hp h1
  ·omega
 row:=fun b hb=>by
  rcases g.row b hb with h1 | h1
  ·exact h.row b h1
  ·exact .inr (Nat.le_trans h.b0.size h1)
theorem QSt.toM {qb mb:Nat} {w w':World} {pl pl':Value} (h:QSt qb w pl w' pl'):QSm qb mb w pl w' pl':=⟨h.b0,fun b h1 h2 _ h3=>h.blk b h1 h2 h3,h.row⟩
theorem QSm.of_grown {qb mb:Nat} {w w':World} {pl:Value} (h:w.grownBy w' (some mb)):QSm qb mb w pl w' pl:=⟨⟨h.os,h.tape,h.output,h.size,fun k hk=>absurd hk (Nat.not_lt_zero _)⟩,fun b hb _ hm _=>h.block b hb (fun e=>hm (by injection e)),fun _ h=>.inl h⟩
theorem QSm.below {qb mb B:Nat} {w w':World} {pl pl':Value} (h:QSm qb mb w pl w' pl') (hq:B<=qb) (hm:B<=mb) (hp:∀ b,pl.ownBlock=some b->B<=b) (hB:B<=w.heap.size):Below B w w' :=
 ⟨h.b0.os,h.b0.tape,h.b0.output,h.b0.size,fun k hk=>h.blk k (by omega) (by omega) (by omega) (fun e=>by have:=hp k e;omega)⟩
def KeptM (qb mb:Nat) (w:World) (pl:Value) (P:World->Prop):Prop:=∀ w' pl',QSm qb mb w pl w' pl'->P w'
theorem KeptM.here {qb mb:Nat} {w:World} {pl:Value} {P:World->Prop} (h:KeptM qb mb w pl P):P w:=h w pl (QSm.refl _ _ _ _)
theorem KeptM.on {qb mb:Nat} {w w':World} {pl pl':Value} {P:World->Prop} (h:KeptM qb mb w pl P) (g:QSm qb mb w pl w' pl'):KeptM qb mb w' pl' P:=fun _ _ q=>h _ _ (g.trans q)
theorem KeptM.st {qb mb:Nat} {w:World} {pl:Value} {P:World->Prop} (h:KeptM qb mb w pl P):Kept qb w pl P:=fun _ _ q=>h _ _ q.toM
theorem own_apart {w:World} {B e size n:Nat} {v:Value} {xs:List Value} (h:w.ownsRow B e size v n xs) {b:Nat} (hb:b<B):v.ownBlock≠some b:=by
 rcases h.2 with ⟨rfl,_⟩ | ⟨g,cap,cur,rfl,hg,hgg,rest⟩
 ·simp [Value.ownBlock]
 ·intro e
  simp [Value.ownBlock] at e
  omega
theorem own_grown {w w':World} {B e size n mb:Nat} {v:Value} {xs:List Value} (h:w.ownsRow B e size v n xs) (hb:w.grownBy w' (some mb)) (hm:mb<B):w'.ownsRow B e size v n xs:=by
 refine ⟨h.1,?_⟩
 rcases h.2 with hn | ⟨g,cap,cur,rfl,hg,hgg,rest⟩
 ·exact .inl hn
 ·exact .inr ⟨g,cap,cur,rfl,hg,by rw [hb.block g (Array.getElem?_eq_some_iff.1 hgg).1 (fun e=>by injection e with e;omega)];exact hgg,rest⟩
theorem QAt.grown {w w':World} {qb mb B:Nat} {pl vp:Value} {L:List Int} (h:QAt w qb mb B pl vp L) (hb:w.grownBy w' (some mb)) (hq:qb≠mb):QAt w' qb mb B pl vp L :=
 have e:=hb.block qb h.lt (fun e=>hq (by injection e))
 ⟨(World.cell?_of_block (a:=⟨qb,0,none⟩) e).trans h.c0,(World.cell?_of_block (a:=⟨qb,1,none⟩) e).trans h.c1,(World.cell?_of_block (a:=⟨qb,2,none⟩) e).trans h.c2,(World.frozen?_of_block (a:=⟨qb,0,none⟩) e).trans h.f0,own_grown h.own hb h.lm,h.lq,h.lm⟩
structure QF (w:World) (qb mb B:Nat) (pl vp:Value) (L:List Int) (n:Nat):Prop where
 q:QAt w qb mb B pl vp L
 s:SetAt Tryz.prog 3 4 w mb n (fun i=>decide (i∈L))
 nd:L.Nodup
 ne:qb≠mb
theorem wait_c (qb mb B:Nat) (pl vp:Value) (L:List Int) (ps:List PL) (i:Int) (n:Nat) (w:World) (h:QF w qb mb B pl vp L n) (hp:KeptM qb mb w pl (fun W=>PsAt W vp ps)) (hps:∀ p∈ps,p.vs.length<=4096) (hpl:ps.length<=4096) (hin:InPs L ps) (hi:0<=i/\i.toNat<ps.length) (hl:L.length<=4096) (hn:n<maxLen) (hB:B<=w.heap.size) :
  Calls Tryz.prog 62 #[.pointer (some ⟨qb,0,none⟩),.int .i64 i] w
   fun e w'=>(∃ u,e=.returned u)/\∃ pl' L',L'.Perm (if i∈L then L else L++[i])/\QF w' qb mb B pl' vp L' (if i∈L then n else n+1)/\QSm qb mb w pl w' pl':=by
 have H:=hD h
 have HP:=hD hp
 have HS:=hD hps
 have c2:=h.q.c2
 by_cases hm:i∈L
 ·rw [if_pos hm,if_pos hm]
  have hd:Hid (decide (i∈L)=true):=decide_eq_true hm
  clear h hp hps hm hn hin
  go_enter Tryz.func62,Tryz.ntmps62
  go_wp2_with (at_lookup;refine wpList_lookup_set _ rfl _ _ 100 rfl 3 4 Tryz.underlying3 Tryz.underlying100 Tryz.underlying4 (Tryz.zeroValue4 _) mb n _ rfl H.out.s i rfl (by omega) ?_;rw [hd.out])
  go_end0
  exact ⟨⟨_,rfl⟩,pl,L,List.Perm.refl _,H.out,QSm.refl _ _ _ _⟩
 ·rw [if_neg hm,if_neg hm]
  have hd:Hid (decide (i∈L)=false):=decide_eq_false hm
  have HM:=hD hm
  have HI:Hid (InPs (L++[i]) ps):=fun k hk=>by
   rcases List.mem_append.mp hk with h1 | h1
   ·exact hin k h1
   ·rw [List.mem_singleton.mp h1];exact hi
  have HN:=hD hn
  clear h hp hps hm hin hn
  go_enter Tryz.func62,Tryz.ntmps62
  go_wp2_with (first
   | (at_lookup;refine wpList_lookup_set _ rfl _ _ 100 rfl 3 4 Tryz.underlying3 Tryz.underlying100 Tryz.underlying4 (Tryz.zeroValue4 _) mb n _ rfl H.out.s i rfl (by omega) ?_;rw [hd.out])
   | (at_mapUpdate;refine wpList_mapUpdate_set _ rfl _ _ _ 100 rfl 3 4 Tryz.underlying3 Tryz.underlying100 Tryz.underlying4 mb n _ rfl H.out.s HN.out i rfl (by omega) true rfl ?_;intro w5 hs5 hg5;have S5:=hD hs5;have G5:=hD hg5;have CH:=hD (hpush_c qb mb B pl vp L ps i w5 (H.out.q.grown hg5 H.out.ne) (HP.out.on (QSm.of_grown hg5)).st HS.out hpl HI.out hl (Nat.le_trans hB hg5.size));clear hs5 hg5)
   | (go_at_call 87;(with_reducible refine CH.out.mono ?_);rintro e W1 ⟨⟨u,rfl⟩,pl1,L1,p1,q1,s1⟩;have Q1:=hD q1;have S1:=hD s1;have P1:=hD p1;clear q1 s1 p1))
  go_end0
  refine ⟨⟨_,rfl⟩,pl1,L1,P1.out,⟨Q1.out,?_,?_,H.out.ne⟩,(QSm.of_grown G5.out).trans S1.out.toM⟩
  ·have hb:=S1.out.blk mb S5.out.lt (Ne.symm H.out.ne) (own_apart H.out.q.own H.out.q.lm)
   refine (S5.out.block hb).congr (fun j=>?_)
   have hmem:j∈L1↔j∈L\/j=i:=by rw [P1.out.mem_iff];simp
   by_cases e:j=i
   ·subst e;simp [hmem]
   ·simp [hmem,e]
  ·rw [P1.out.nodup_iff]
   exact List.nodup_append.mpr ⟨H.out.nd,by simp,fun a ha b hb=>by rw [List.mem_singleton.mp hb];exact fun e=>HM.out (e ▸ ha)⟩
theorem next_c (qb mb B:Nat) (pl vp:Value) (L:List Int) (ps:List PL) (m n:Nat) (w:World) (h:QF w qb mb B pl vp L n) (hp:KeptM qb mb w pl (fun W=>PsAt W vp ps)) (hps:∀ p∈ps,p.vs.length<=4096) (hpl:ps.length<=4096) (hin:InPs L ps) (hm:L.length=m+1) (hl:m<=4095) :
  Calls Tryz.prog 65 #[.pointer (some ⟨qb,0,none⟩)] w
   fun e w'=>∃ x,e=.returned (.int .i64 x)/\∃ pl' L',(x::L').Perm L/\QF w' qb mb B pl' vp L' n/\QSm qb mb w pl w' pl':=by
 have H:=hD h
 have HI:=hD hin
 have CP:=hD (hpop_c qb mb B pl vp L ps m w h.q hp.st hps hpl hin hm hl)
 clear h hp hps hin hm
 go_enter Tryz.func65,Tryz.ntmps65
 go_wp2_with (first
  | (go_at_call 89;(with_reducible refine CP.out.mono ?_);rintro e W1 ⟨x,rfl,pl1,L1,p1,q1,s1⟩;have c2:=q1.c2;have Q1:=hD q1;have S1:=hD s1;have P1:=hD p1;have hx:=HI.out x (p1.mem_iff.mp List.mem_cons_self);have T1:=hD (H.out.s.block (s1.blk mb H.out.s.lt (Ne.symm H.out.ne) (own_apart H.out.q.own H.out.q.lm)));clear q1 s1 p1)
  | (at_delete;refine wpList_delete_set _ rfl _ _ 100 3 rfl 4 Tryz.underlying3 Tryz.underlying100 mb n _ rfl T1.out x rfl (by omega) ?_;intro w5 hs5 hg5;have S5:=hD hs5;have G5:=hD hg5;clear hs5 hg5))
 go_ret
 have nd:=P1.out.nodup_iff.mpr H.out.nd
 rw [List.nodup_cons] at nd
 refine ⟨x,rfl,pl1,L1,P1.out,⟨Q1.out.grown G5.out H.out.ne,S5.out.congr (fun j=>?_),nd.2,H.out.ne⟩,S1.out.toM.trans (QSm.of_grown G5.out)⟩
 have hmem:j∈L↔j=x\/j∈L1:=by rw [<- P1.out.mem_iff];simp
 by_cases e:j=x
 ·subst e;simp [nd.1]
 ·simp [hmem,e]
structure UsAt (w:World) (ub B n:Nat) (vals:Nat->Value) (us:Nat->List Int):Prop where
 cell:∀ v,v<n->w.cell? ⟨ub,v,none⟩=some (vals v)
 fz:∀ v,v<n->w.frozen? ⟨ub,v,none⟩=false
 own:∀ v,v<n->w.ownsRow B 3 1 (vals v) (us v).length ((us v).map (Value.int .i64))
 ap:∀ u v b,u<n->v<n->u≠v->(vals u).ownBlock=some b->(vals v).ownBlock≠some b
 lu:ub<B
theorem own_lt {w:World} {B e size n:Nat} {v:Value} {xs:List Value} (h:w.ownsRow B e size v n xs) {b:Nat} (hb:v.ownBlock=some b):b<w.heap.size/\B<=b:=by
 rcases h.2 with ⟨rfl,_⟩ | ⟨g,cap,cur,rfl,hg,hgg,rest⟩
 ·simp [Value.ownBlock] at hb
 ·simp [Value.ownBlock] at hb
  subst hb
  exact ⟨(Array.getElem?_eq_some_iff.1 hgg).1,hg⟩
theorem own_block {w w':World} {B e size n:Nat} {v:Value} {xs:List Value} (h:w.ownsRow B e size v n xs) (hb:∀ b,v.ownBlock=some b->w'.heap[b]?=w.heap[b]?):w'.ownsRow B e size v n xs:=by
 refine ⟨h.1,?_⟩
 rcases h.2 with hn | ⟨g,cap,cur,rfl,hg,hgg,rest⟩
 ·exact .inl hn
 ·exact .inr ⟨g,cap,cur,rfl,hg,by rw [hb g rfl];exact hgg,rest⟩
theorem UsAt.frame {w w':World} {ub B n:Nat} {vals:Nat->Value} {us:Nat->List Int} (h:UsAt w ub B n vals us) (hu:w'.heap[ub]?=w.heap[ub]?) (hb:∀ v b,v<n->(vals v).ownBlock=some b->w'.heap[b]?=w.heap[b]?):UsAt w' ub B n vals us :=
 ⟨fun v hv=>(World.cell?_of_block (a:=⟨ub,v,none⟩) hu).trans (h.cell v hv),fun v hv=>(World.frozen?_of_block (a:=⟨ub,v,none⟩) hu).trans (h.fz v hv),fun v hv=>own_block (h.own v hv) (fun b=>hb v b hv),h.ap,h.lu⟩
theorem UsAt.below {w w':World} {ub B n:Nat} {vals:Nat->Value} {us:Nat->List Int} (h:UsAt w ub B n vals us) (hl:ub<w.heap.size) (hb:Below w.heap.size w w'):UsAt w' ub B n vals us :=
 h.frame (hb.block ub hl) (fun v b hv e=>hb.block b (own_lt (h.own v hv) e).1)
def UsAp (n:Nat) (vals:Nat->Value) (pl:Value):Prop:=∀ v b,v<n->(vals v).ownBlock=some b->pl.ownBlock≠some b
theorem UsAt.turn {w w':World} {ub B n qb mb:Nat} {vals:Nat->Value} {us:Nat->List Int} {pl pl':Value} (h:UsAt w ub B n vals us) (hl:ub<w.heap.size) (hs:QSm qb mb w pl w' pl') (hq:ub≠qb) (hm:ub≠mb) (hqB:qb<B) (hmB:mb<B) (hp:pl.ownBlock≠some ub) (ha:UsAp n vals pl):UsAt w' ub B n vals us/\UsAp n vals pl':=by
 refine ⟨h.frame (hs.blk ub hl hq hm hp) (fun v b hv e=>?_),fun v b hv e e'=>?_⟩
 ·have:=own_lt (h.own v hv) e
  exact hs.blk b this.1 (by omega) (by omega) (ha v b hv e)
 ·rcases hs.row b e' with h1 | h1
  ·exact ha v b hv e h1
  ·have:=own_lt (h.own v hv) e
   omega
theorem UsAt.push {w w1:World} {ub B n:Nat} {vals:Nat->Value} {us:Nat->List Int} (h:UsAt w ub B n vals us) (_hB:B<=w.heap.size) {v:Nat} (hv:v<n) {i:Int} {r:Value} {k:Nat} (hk:k=(us v).length+1) (ow:w1.ownsRow B 3 1 r k ((us v++[i]).map (Value.int .i64))) (bw:Below B w w1)
  (kw:∀ b,b<w.heap.size->(vals v).ownBlock≠some b->w1.heap[b]?=w.heap[b]?) (aw:∀ b,r.ownBlock=some b->(vals v).ownBlock=some b\/w.heap.size<=b) :
  UsAt (w1.setCell ⟨ub,v,none⟩ r) ub B n (fun u=>if u=v then r else vals u) (fun u=>if u=v then us v++[i] else us u) where
 cell:=fun u hu=>by
  have hub:=bw.block ub h.lu
  by_cases e:u=v
  ·subst e
   rw [if_pos rfl]
   exact World.cell?_setCell_same _ _ _ ((World.cell?_of_block (a:=⟨ub,u,none⟩) hub).trans (h.cell u hu))
  ·rw [if_neg e,World.cell?_setCell_other _ _ _ _ (fun he=>e (by injection he with _ h2 _;exact h2.symm))]
   exact (World.cell?_of_block (a:=⟨ub,u,none⟩) hub).trans (h.cell u hu)
 fz:=fun u hu=>by
  rw [World.frozen?_setCell]
  exact (World.frozen?_of_block (a:=⟨ub,u,none⟩) (bw.block ub h.lu)).trans (h.fz u hu)
 own:=fun u hu=>by
  by_cases e:u=v
  ·subst e
   rw [if_pos rfl,if_pos rfl,List.length_append,List.length_singleton,<- hk]
   exact own_setCell ow h.lu _
  ·rw [if_neg e,if_neg e]
   exact own_setCell (own_block (h.own u hu) (fun b hb=>kw b (own_lt (h.own u hu) hb).1 (h.ap u v b hu hv e hb))) h.lu _
 ap:=fun u1 u2 b h1 h2 hne e=>by
  by_cases e1:u1=v
  ·rw [if_pos e1] at e
   have e2:¬ u2=v:=fun e2=>hne (e1.trans e2.symm)
   rw [if_neg e2]
   rcases aw b e with hb | hb
   ·exact h.ap v u2 b hv h2 (fun e=>e2 e.symm) hb
   ·exact fun e'=>by have:=own_lt (h.own u2 h2) e';omega
  ·rw [if_neg e1] at e
   by_cases e2:u2=v
   ·rw [if_pos e2]
    intro e'
    rcases aw b e' with hb | hb
    ·exact h.ap u1 v b h1 hv (fun x=>e1 x) e hb
    ·have:=own_lt (h.own u1 h1) e;omega
   ·rw [if_neg e2]
    exact h.ap u1 u2 b h1 h2 hne e
 lu:=h.lu
theorem UsAp.push {w:World} {ub B n:Nat} {vals:Nat->Value} {us:Nat->List Int} (_h:UsAt w ub B n vals us) {pl:Value} (hp:∀ b,pl.ownBlock=some b->b<w.heap.size) (ha:UsAp n vals pl) {v:Nat} (hv:v<n) {r:Value} (aw:∀ b,r.ownBlock=some b->(vals v).ownBlock=some b\/w.heap.size<=b):UsAp n (fun u=>if u=v then r else vals u) pl:=by
 intro u b hu e e'
 dsimp only at e
 by_cases e1:u=v
 ·rw [if_pos e1] at e
  rcases aw b e with hb | hb
  ·exact ha v b hv hb e'
  ·have:=hp b e';omega
 ·rw [if_neg e1] at e
  exact ha u b hu e e'
theorem QF.frame {w w':World} {qb mb B:Nat} {pl vp:Value} {L:List Int} {n:Nat} (h:QF w qb mb B pl vp L n) (hq:w'.heap[qb]?=w.heap[qb]?) (hm:w'.heap[mb]?=w.heap[mb]?) (hp:∀ b,pl.ownBlock=some b->w'.heap[b]?=w.heap[b]?):QF w' qb mb B pl vp L n :=
 ⟨⟨(World.cell?_of_block (a:=⟨qb,0,none⟩) hq).trans h.q.c0,(World.cell?_of_block (a:=⟨qb,1,none⟩) hq).trans h.q.c1,(World.cell?_of_block (a:=⟨qb,2,none⟩) hq).trans h.q.c2,(World.frozen?_of_block (a:=⟨qb,0,none⟩) hq).trans h.q.f0,own_block h.q.own hp,h.q.lq,h.q.lm⟩,h.s.block hm,h.nd,h.ne⟩
theorem QF.below {w w':World} {qb mb B:Nat} {pl vp:Value} {L:List Int} {n:Nat} (h:QF w qb mb B pl vp L n) (hb:Below w.heap.size w w'):QF w' qb mb B pl vp L n :=
 h.frame (hb.block qb h.q.lt) (hb.block mb h.s.lt) (fun b e=>hb.block b (own_lt h.q.own e).1)
end
end Go.Proofs.YtaekdgikgbdnnaaGreat
