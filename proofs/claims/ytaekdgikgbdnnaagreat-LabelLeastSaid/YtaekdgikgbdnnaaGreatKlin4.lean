/-
  lin.Says, walked.
-/
import Derived.Test.YtaekdgikgbdnnaaGreatKlin3
namespace Go.Proofs.YtaekdgikgbdnnaaGreat
section
open Go.RowKit
def sayV (rel C lo hi:Int):Int:=if yesL rel C lo hi=true then 1 else if noL rel C lo hi=true then -1 else 0
theorem saysL_eq (rel C:Int) (ds:Ds) (ps:Ps):saysL rel C ds ps=if allOk ds ps=true then sayV rel C (loS ds ps) (hiS ds ps) else 0:=rfl
theorem beqf {a b:Int} (h:¬ a=b):(a==b)=false:=beq_eq_false_iff_ne.2 h
set_option maxRecDepth 100000
set_option maxHeartbeats 1600000
theorem says_c (va vb vds:Value) (rel C:Int) (coef vars:List Int) (ds:Ds) (w:World) (h0:IsAt w va coef) (h1:IsAt w vb vars) (hd:DsAt w vds ds) (hg:GoodL coef vars ds) (hr:rel=1\/rel=2\/rel=3) :
  Calls Tryz.prog 159 #[.agg #[va,vb,.int .i64 rel,.int .i64 C],vds] w fun e w'=>e=.returned (.int .i64 (saysL rel C ds (coef.zip vars)))/\Below w.heap.size w w':=by
 have hZ:Below w.heap.size w (w.alloc (.cells #[va,vb,.int .i64 rel,.int .i64 C] 65)):=bA _
 obtain ⟨a0,c0,rfl,_⟩:=IsAt.shape h0
 obtain ⟨a1,c1,rfl,_⟩:=IsAt.shape h1
 obtain ⟨a2,c2,rfl,_⟩:=hd.shape
 rw [saysL_eq]
 have CP:=hD (sums_c _ _ _ rel C coef vars ds _ (h0.below hZ) (h1.below hZ) (hd.below hZ) hg)
 have HZ:=hD hZ
 unfold sLo sHi at CP
 have HLE:allOk ds (coef.zip vars)=true->loS ds (coef.zip vars)<=hiS ds (coef.zip vars):=fun h=>(sums_le_but ds _ h).1
 clear h0 h1 hd hg hZ
 cases hA:allOk ds (coef.zip vars) with
 | false =>
  rw [hA,if_neg (by simp),if_neg (by simp)] at CP
  rw [if_neg (by simp)]
  clear hA HLE
  go_enter Tryz.func159,Tryz.ntmps159
  go_wp2_with (go_at_call 162;(with_reducible refine CP.out.mono ?_);rintro e W ⟨rfl,bb⟩;have B1:=hD (bT HZ.out bb);clear bb)
  go_ret
  exact ⟨rfl,B1.out⟩
 | true =>
  rw [hA,if_pos rfl,if_pos rfl] at CP
  rw [if_pos rfl]
  have hle:=HLE hA
  clear hA HLE
  generalize loS ds (coef.zip vars)=lo at *
  generalize hiS ds (coef.zip vars)=hi at *
  rcases hr with rfl | rfl | rfl
  ·rcases (show (C<lo)\/(lo=C/\hi=C)\/(lo=C/\C<hi)\/(lo<C/\C<hi)\/(lo<C/\hi=C)\/(hi<C) by omega) with hc | ⟨rfl,rfl⟩ | ⟨rfl,hc⟩ | ⟨hc,hc2⟩ | ⟨hc,rfl⟩ | hc
   ·have g1:(lo==C)=false:=by simp;omega
    have g2:(hi==C)=false:=by simp;omega
    have g3:decide (C<lo)=true:=by simp;omega
    have g4:decide (hi<C)=false:=by simp;omega
    have g5:decide (hi<=C)=false:=by simp;omega
    have HV:sayV 1 C lo hi=-1:=by unfold sayV yesL noL;simp <;> omega
    rw [HV]
    clear HV
    go_enter Tryz.func159,Tryz.ntmps159
    go_wp2_with (go_at_call 162;(with_reducible refine CP.out.mono ?_);rintro e W ⟨rfl,bb⟩;have B1:=hD (bT HZ.out bb);have y0:=bb.cell (p:=⟨w.heap.size,2,none⟩) (by simp);have y1:=bb.cell (p:=⟨w.heap.size,3,none⟩) (by simp);simp at y0 y1;clear bb)
    go_quiet (fail)
    go_wp2
    go_quiet (fail)
    go_wp2
    go_ret
    exact ⟨rfl,by first | exact B1.out | exact below_drewN B1.out _⟩
   ·have HV:sayV 1 hi hi hi=1:=by unfold sayV yesL noL;simp <;> omega
    rw [HV]
    clear HV
    go_enter Tryz.func159,Tryz.ntmps159
    go_wp2_with (go_at_call 162;(with_reducible refine CP.out.mono ?_);rintro e W ⟨rfl,bb⟩;have B1:=hD (bT HZ.out bb);have y0:=bb.cell (p:=⟨w.heap.size,2,none⟩) (by simp);have y1:=bb.cell (p:=⟨w.heap.size,3,none⟩) (by simp);simp at y0 y1;clear bb)
    go_quiet (fail)
    go_wp2
    go_quiet (fail)
    go_wp2
    go_ret
    exact ⟨rfl,by first | exact B1.out | exact below_drewN B1.out _⟩
   ·have g2:(hi==lo)=false:=by simp;omega
    have g4:decide (hi<lo)=false:=by simp;omega
    have g5:decide (hi<=lo)=false:=by simp;omega
    have HV:sayV 1 lo lo hi=0:=by unfold sayV yesL noL;simp <;> omega
    rw [HV]
    clear HV
    go_enter Tryz.func159,Tryz.ntmps159
    go_wp2_with (go_at_call 162;(with_reducible refine CP.out.mono ?_);rintro e W ⟨rfl,bb⟩;have B1:=hD (bT HZ.out bb);have y0:=bb.cell (p:=⟨w.heap.size,2,none⟩) (by simp);have y1:=bb.cell (p:=⟨w.heap.size,3,none⟩) (by simp);simp at y0 y1;clear bb)
    go_quiet (fail)
    go_wp2
    go_quiet (fail)
    go_wp2
    go_ret
    exact ⟨rfl,by first | exact B1.out | exact below_drewN B1.out _⟩
   ·have g1:(lo==C)=false:=by simp;omega
    have g2:(hi==C)=false:=by simp;omega
    have g3:decide (C<lo)=false:=by simp;omega
    have g4:decide (hi<C)=false:=by simp;omega
    have g5:decide (hi<=C)=false:=by simp;omega
    have HV:sayV 1 C lo hi=0:=by unfold sayV yesL noL;simp <;> omega
    rw [HV]
    clear HV
    go_enter Tryz.func159,Tryz.ntmps159
    go_wp2_with (go_at_call 162;(with_reducible refine CP.out.mono ?_);rintro e W ⟨rfl,bb⟩;have B1:=hD (bT HZ.out bb);have y0:=bb.cell (p:=⟨w.heap.size,2,none⟩) (by simp);have y1:=bb.cell (p:=⟨w.heap.size,3,none⟩) (by simp);simp at y0 y1;clear bb)
    go_quiet (fail)
    go_wp2
    go_quiet (fail)
    go_wp2
    go_ret
    exact ⟨rfl,by first | exact B1.out | exact below_drewN B1.out _⟩
   ·have g1:(lo==hi)=false:=by simp;omega
    have g3:decide (hi<lo)=false:=by simp;omega
    have HV:sayV 1 hi lo hi=0:=by unfold sayV yesL noL;simp <;> omega
    rw [HV]
    clear HV
    go_enter Tryz.func159,Tryz.ntmps159
    go_wp2_with (go_at_call 162;(with_reducible refine CP.out.mono ?_);rintro e W ⟨rfl,bb⟩;have B1:=hD (bT HZ.out bb);have y0:=bb.cell (p:=⟨w.heap.size,2,none⟩) (by simp);have y1:=bb.cell (p:=⟨w.heap.size,3,none⟩) (by simp);simp at y0 y1;clear bb)
    go_quiet (fail)
    go_wp2
    go_quiet (fail)
    go_wp2
    go_ret
    exact ⟨rfl,by first | exact B1.out | exact below_drewN B1.out _⟩
   ·have g1:(lo==C)=false:=by simp;omega
    have g2:(hi==C)=false:=by simp;omega
    have g3:decide (C<lo)=false:=by simp;omega
    have g4:decide (hi<C)=true:=by simp;omega
    have g5:decide (hi<=C)=true:=by simp;omega
    have HV:sayV 1 C lo hi=-1:=by unfold sayV yesL noL;simp <;> omega
    rw [HV]
    clear HV
    go_enter Tryz.func159,Tryz.ntmps159
    go_wp2_with (go_at_call 162;(with_reducible refine CP.out.mono ?_);rintro e W ⟨rfl,bb⟩;have B1:=hD (bT HZ.out bb);have y0:=bb.cell (p:=⟨w.heap.size,2,none⟩) (by simp);have y1:=bb.cell (p:=⟨w.heap.size,3,none⟩) (by simp);simp at y0 y1;clear bb)
    go_quiet (fail)
    go_wp2
    go_quiet (fail)
    go_wp2
    go_ret
    exact ⟨rfl,by first | exact B1.out | exact below_drewN B1.out _⟩
  ·rcases (show (C<lo)\/(lo=C/\hi=C)\/(lo=C/\C<hi)\/(lo<C/\C<hi)\/(lo<C/\hi=C)\/(hi<C) by omega) with hc | ⟨rfl,rfl⟩ | ⟨rfl,hc⟩ | ⟨hc,hc2⟩ | ⟨hc,rfl⟩ | hc
   ·have g1:(lo==C)=false:=by simp;omega
    have g2:(hi==C)=false:=by simp;omega
    have g3:decide (C<lo)=true:=by simp;omega
    have g4:decide (hi<C)=false:=by simp;omega
    have g5:decide (hi<=C)=false:=by simp;omega
    have HV:sayV 2 C lo hi=1:=by unfold sayV yesL noL;simp <;> omega
    rw [HV]
    clear HV
    go_enter Tryz.func159,Tryz.ntmps159
    go_wp2_with (go_at_call 162;(with_reducible refine CP.out.mono ?_);rintro e W ⟨rfl,bb⟩;have B1:=hD (bT HZ.out bb);have y0:=bb.cell (p:=⟨w.heap.size,2,none⟩) (by simp);have y1:=bb.cell (p:=⟨w.heap.size,3,none⟩) (by simp);simp at y0 y1;clear bb)
    go_quiet (fail)
    go_wp2
    go_quiet (fail)
    go_wp2
    go_ret
    exact ⟨rfl,by first | exact B1.out | exact below_drewN B1.out _⟩
   ·have HV:sayV 2 hi hi hi=-1:=by unfold sayV yesL noL;simp <;> omega
    rw [HV]
    clear HV
    go_enter Tryz.func159,Tryz.ntmps159
    go_wp2_with (go_at_call 162;(with_reducible refine CP.out.mono ?_);rintro e W ⟨rfl,bb⟩;have B1:=hD (bT HZ.out bb);have y0:=bb.cell (p:=⟨w.heap.size,2,none⟩) (by simp);have y1:=bb.cell (p:=⟨w.heap.size,3,none⟩) (by simp);simp at y0 y1;clear bb)
    go_quiet (fail)
    go_wp2
    go_quiet (fail)
    go_wp2
    go_ret
    exact ⟨rfl,by first | exact B1.out | exact below_drewN B1.out _⟩
   ·have g2:(hi==lo)=false:=by simp;omega
    have g4:decide (hi<lo)=false:=by simp;omega
    have g5:decide (hi<=lo)=false:=by simp;omega
    have HV:sayV 2 lo lo hi=0:=by unfold sayV yesL noL;simp <;> omega
    rw [HV]
    clear HV
    go_enter Tryz.func159,Tryz.ntmps159
    go_wp2_with (go_at_call 162;(with_reducible refine CP.out.mono ?_);rintro e W ⟨rfl,bb⟩;have B1:=hD (bT HZ.out bb);have y0:=bb.cell (p:=⟨w.heap.size,2,none⟩) (by simp);have y1:=bb.cell (p:=⟨w.heap.size,3,none⟩) (by simp);simp at y0 y1;clear bb)
    go_quiet (fail)
    go_wp2
    go_quiet (fail)
    go_wp2
    go_ret
    exact ⟨rfl,by first | exact B1.out | exact below_drewN B1.out _⟩
   ·have g1:(lo==C)=false:=by simp;omega
    have g2:(hi==C)=false:=by simp;omega
    have g3:decide (C<lo)=false:=by simp;omega
    have g4:decide (hi<C)=false:=by simp;omega
    have g5:decide (hi<=C)=false:=by simp;omega
    have HV:sayV 2 C lo hi=0:=by unfold sayV yesL noL;simp <;> omega
    rw [HV]
    clear HV
    go_enter Tryz.func159,Tryz.ntmps159
    go_wp2_with (go_at_call 162;(with_reducible refine CP.out.mono ?_);rintro e W ⟨rfl,bb⟩;have B1:=hD (bT HZ.out bb);have y0:=bb.cell (p:=⟨w.heap.size,2,none⟩) (by simp);have y1:=bb.cell (p:=⟨w.heap.size,3,none⟩) (by simp);simp at y0 y1;clear bb)
    go_quiet (fail)
    go_wp2
    go_quiet (fail)
    go_wp2
    go_ret
    exact ⟨rfl,by first | exact B1.out | exact below_drewN B1.out _⟩
   ·have g1:(lo==hi)=false:=by simp;omega
    have g3:decide (hi<lo)=false:=by simp;omega
    have HV:sayV 2 hi lo hi=0:=by unfold sayV yesL noL;simp <;> omega
    rw [HV]
    clear HV
    go_enter Tryz.func159,Tryz.ntmps159
    go_wp2_with (go_at_call 162;(with_reducible refine CP.out.mono ?_);rintro e W ⟨rfl,bb⟩;have B1:=hD (bT HZ.out bb);have y0:=bb.cell (p:=⟨w.heap.size,2,none⟩) (by simp);have y1:=bb.cell (p:=⟨w.heap.size,3,none⟩) (by simp);simp at y0 y1;clear bb)
    go_quiet (fail)
    go_wp2
    go_quiet (fail)
    go_wp2
    go_ret
    exact ⟨rfl,by first | exact B1.out | exact below_drewN B1.out _⟩
   ·have g1:(lo==C)=false:=by simp;omega
    have g2:(hi==C)=false:=by simp;omega
    have g3:decide (C<lo)=false:=by simp;omega
    have g4:decide (hi<C)=true:=by simp;omega
    have g5:decide (hi<=C)=true:=by simp;omega
    have HV:sayV 2 C lo hi=1:=by unfold sayV yesL noL;simp <;> omega
    rw [HV]
    clear HV
    go_enter Tryz.func159,Tryz.ntmps159
    go_wp2_with (go_at_call 162;(with_reducible refine CP.out.mono ?_);rintro e W ⟨rfl,bb⟩;have B1:=hD (bT HZ.out bb);have y0:=bb.cell (p:=⟨w.heap.size,2,none⟩) (by simp);have y1:=bb.cell (p:=⟨w.heap.size,3,none⟩) (by simp);simp at y0 y1;clear bb)
    go_quiet (fail)
    go_wp2
    go_quiet (fail)
    go_wp2
    go_ret
    exact ⟨rfl,by first | exact B1.out | exact below_drewN B1.out _⟩
  ·rcases (show (C<lo)\/(lo=C/\hi=C)\/(lo=C/\C<hi)\/(lo<C/\C<hi)\/(lo<C/\hi=C)\/(hi<C) by omega) with hc | ⟨rfl,rfl⟩ | ⟨rfl,hc⟩ | ⟨hc,hc2⟩ | ⟨hc,rfl⟩ | hc
   ·have g1:(lo==C)=false:=by simp;omega
    have g2:(hi==C)=false:=by simp;omega
    have g3:decide (C<lo)=true:=by simp;omega
    have g4:decide (hi<C)=false:=by simp;omega
    have g5:decide (hi<=C)=false:=by simp;omega
    have HV:sayV 3 C lo hi=-1:=by unfold sayV yesL noL;simp <;> omega
    rw [HV]
    clear HV
    go_enter Tryz.func159,Tryz.ntmps159
    go_wp2_with (go_at_call 162;(with_reducible refine CP.out.mono ?_);rintro e W ⟨rfl,bb⟩;have B1:=hD (bT HZ.out bb);have y0:=bb.cell (p:=⟨w.heap.size,2,none⟩) (by simp);have y1:=bb.cell (p:=⟨w.heap.size,3,none⟩) (by simp);simp at y0 y1;clear bb)
    go_quiet (fail)
    go_wp2
    go_ret
    exact ⟨rfl,by first | exact B1.out | exact below_drewN B1.out _⟩
   ·have HV:sayV 3 hi hi hi=1:=by unfold sayV yesL noL;simp <;> omega
    rw [HV]
    clear HV
    go_enter Tryz.func159,Tryz.ntmps159
    go_wp2_with (go_at_call 162;(with_reducible refine CP.out.mono ?_);rintro e W ⟨rfl,bb⟩;have B1:=hD (bT HZ.out bb);have y0:=bb.cell (p:=⟨w.heap.size,2,none⟩) (by simp);have y1:=bb.cell (p:=⟨w.heap.size,3,none⟩) (by simp);simp at y0 y1;clear bb)
    go_quiet (fail)
    go_wp2
    go_ret
    exact ⟨rfl,by first | exact B1.out | exact below_drewN B1.out _⟩
   ·have g2:(hi==lo)=false:=by simp;omega
    have g4:decide (hi<lo)=false:=by simp;omega
    have g5:decide (hi<=lo)=false:=by simp;omega
    have HV:sayV 3 lo lo hi=0:=by unfold sayV yesL noL;simp <;> omega
    rw [HV]
    clear HV
    go_enter Tryz.func159,Tryz.ntmps159
    go_wp2_with (go_at_call 162;(with_reducible refine CP.out.mono ?_);rintro e W ⟨rfl,bb⟩;have B1:=hD (bT HZ.out bb);have y0:=bb.cell (p:=⟨w.heap.size,2,none⟩) (by simp);have y1:=bb.cell (p:=⟨w.heap.size,3,none⟩) (by simp);simp at y0 y1;clear bb)
    go_quiet (fail)
    go_wp2
    go_ret
    exact ⟨rfl,by first | exact B1.out | exact below_drewN B1.out _⟩
   ·have g1:(lo==C)=false:=by simp;omega
    have g2:(hi==C)=false:=by simp;omega
    have g3:decide (C<lo)=false:=by simp;omega
    have g4:decide (hi<C)=false:=by simp;omega
    have g5:decide (hi<=C)=false:=by simp;omega
    have HV:sayV 3 C lo hi=0:=by unfold sayV yesL noL;simp <;> omega
    rw [HV]
    clear HV
    go_enter Tryz.func159,Tryz.ntmps159
    go_wp2_with (go_at_call 162;(with_reducible refine CP.out.mono ?_);rintro e W ⟨rfl,bb⟩;have B1:=hD (bT HZ.out bb);have y0:=bb.cell (p:=⟨w.heap.size,2,none⟩) (by simp);have y1:=bb.cell (p:=⟨w.heap.size,3,none⟩) (by simp);simp at y0 y1;clear bb)
    go_quiet (fail)
    go_wp2
    go_ret
    exact ⟨rfl,by first | exact B1.out | exact below_drewN B1.out _⟩
   ·have g1:(lo==hi)=false:=by simp;omega
    have g3:decide (hi<lo)=false:=by simp;omega
    have HV:sayV 3 hi lo hi=1:=by unfold sayV yesL noL;simp <;> omega
    rw [HV]
    clear HV
    go_enter Tryz.func159,Tryz.ntmps159
    go_wp2_with (go_at_call 162;(with_reducible refine CP.out.mono ?_);rintro e W ⟨rfl,bb⟩;have B1:=hD (bT HZ.out bb);have y0:=bb.cell (p:=⟨w.heap.size,2,none⟩) (by simp);have y1:=bb.cell (p:=⟨w.heap.size,3,none⟩) (by simp);simp at y0 y1;clear bb)
    go_quiet (fail)
    go_wp2
    go_ret
    exact ⟨rfl,by first | exact B1.out | exact below_drewN B1.out _⟩
   ·have g1:(lo==C)=false:=by simp;omega
    have g2:(hi==C)=false:=by simp;omega
    have g3:decide (C<lo)=false:=by simp;omega
    have g4:decide (hi<C)=true:=by simp;omega
    have g5:decide (hi<=C)=true:=by simp;omega
    have HV:sayV 3 C lo hi=1:=by unfold sayV yesL noL;simp <;> omega
    rw [HV]
    clear HV
    go_enter Tryz.func159,Tryz.ntmps159
    go_wp2_with (go_at_call 162;(with_reducible refine CP.out.mono ?_);rintro e W ⟨rfl,bb⟩;have B1:=hD (bT HZ.out bb);have y0:=bb.cell (p:=⟨w.heap.size,2,none⟩) (by simp);have y1:=bb.cell (p:=⟨w.heap.size,3,none⟩) (by simp);simp at y0 y1;clear bb)
    go_quiet (fail)
    go_wp2
    go_ret
    exact ⟨rfl,by first | exact B1.out | exact below_drewN B1.out _⟩
end
end Go.Proofs.YtaekdgikgbdnnaaGreat
