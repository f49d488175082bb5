/-
  label's iterator over the answers of a problem, walked whole.
  label.begin, walked, where it may begin.
  label.Solve, walked, where it may begin.
-/
import Derived.Test.YtaekdgikgbdnnaaGreatKref10
import Derived.Deep.RegionHeld3
import Derived.Test.YtaekdgikgbdnnaaGreatKref9
import Derived.Test.YtaekdgikgbdnnaaGreatKonce3
import Derived.Test.YtaekdgikgbdnnaaGreatKsol2
import Derived.WalkKit
import Derived.TacticsInMore
import Derived.Maps.OwnIn
namespace Go.Proofs.YtaekdgikgbdnnaaGreat
section
open Go.RowKit
set_option maxRecDepth 1000000
set_option maxHeartbeats 6400000
theorem answers_seq (w0 W:World) (bd bs sb:Nat) (vd vps vv vw:Value) (D0:Ds) (ps:List PL) (vars:List Int) (o:SOpt) (k0:Nat) (M0:Nat->Prop)
  (h:AnsIn w0 W bd bs sb vd vps vv vw D0 ps vars o.ws o.sel o.ord o.br k0 M0) (n:Nat) :
  SeqM Fence.wide n Tryz.prog 42 #[.pointer (some ⟨bd,0,none⟩),.pointer (some ⟨bs,0,none⟩)] (fun x=>#[x.1]) (GotI w0.heap.size sb vars.length) ownI w0.heap.size (AnsDone ps vars o k0 D0 sb vps vv vw) (AnsStop ps vars o k0 D0 sb vps vv vw) M0 W:=by
 intro l J Jx hJ hJx hl hlx hY hj0
 refine callsIn_wide.2 ?_
 show Calls Tryz.prog 42 #[.func (.yield l) #[] #[],.pointer (some ⟨bd,0,none⟩),.pointer (some ⟨bs,0,none⟩)] W _
 obtain ⟨ap,cp,rfl,_⟩:=h.p.shape
 obtain ⟨av,cv,rfl,_⟩:=h.v.shape'
 obtain ⟨aw,cw,rfl,_⟩:=h.w.shape'
 obtain ⟨ad,cd,rfl,_⟩:=h.d.at.shape
 have b0:=h.bxd
 have H0:=hD (AnsW.start h hJ hl hj0)
 have HI:=hD h
 have HK:=h.k
 have HJ:=hD hJ
 have HJX:=hD hJx
 have HL:=hD hl
 have HY:=hD hY
 clear h hJ hJx hl hlx hY hj0
 go_enter Tryz.func42,Tryz.ntmps42
 go_wp2
 go_loopg [4] k0 (fun n s wr=>∃ (pre:List (Value×List Int)) (M:Nat->Prop) (g cap:Nat) (us:List Value) (st:List Ds),s=.slice (some ⟨g,0,none⟩) st.length cap/\Hid (AnsW J w0.heap.size W bs sb (.slice ap ps.length cp) (.slice av vars.length cv) (.slice aw o.ws.length cw) D0 ps o wr pre M g cap st us n)/\Hid (Stands ps vars o k0 D0 (pre.map Prod.snd) n st)/\Hid (st.length+n<=k0+1))
 case atStart=>exact ⟨[],M0,W.heap.size,1,_,[D0],rfl,H0,hD (Stands.start ps vars o k0 D0),hD (by show 1+k0<=k0+1;omega)⟩
 case round =>
  clear H0 b0
  obtain ⟨pre,M,g,cap,us,st,rfl,HA,HS,HN⟩:=hrel
  have hns:=HA.out.ns
  have x0:=HA.out.bx
  have f6:=HA.out.s.f6
  have f7:=HA.out.s.f7
  have hcap:=HA.out.stk.room
  have hlen:=HN.out
  have hlow:=HA.out.stk.lt.1
  rcases st with _ | ⟨D,st⟩
  ·have HD:Hid (AnsDone ps vars o k0 D0 sb (.slice ap ps.length cp) (.slice av vars.length cv) (.slice aw o.ws.length cw) pre wr):=⟨gk,gk,false,HA.out.s,fun _=>rfl,fun m=>by have:=Stands.done HS.out m;rwa [List.length_map] at this⟩
   have HJ1:=hD HA.out.j
   have HB1:=hD HA.out.b
   clear HA HS HN x0 f6 f7 hcap hlen hns hlow
   go_wp2
   go_end0
   exact ⟨⟨_,rfl⟩,HB1.out,M,.inl ⟨pre,HD.out,HJ1.out⟩⟩
  ·obtain ⟨ao,c,htop,hdq⟩:=HA.out.stk.top
   have HDQ:=hD hdq
   clear hdq
   rw [List.length_cons] at hcap hlen
   have hl1:st.length+1<=20002:=by omega
   have hcl:(st.length:Int)+1<=cap:=by omega
   have y0:∀ z,(wr.setCell ⟨sb,6,none⟩ (.int .i64 z)).cell? ⟨bs,0,none⟩=some (.pointer (some ⟨sb,0,none⟩)):=fun z=>(World.cell?_of_block (a:=⟨bs,0,none⟩) ((setCell_blk wr ⟨sb,6,none⟩ _).2 bs hns)).trans x0
   have y6:∀ z,(wr.setCell ⟨sb,6,none⟩ (.int .i64 z)).cell? ⟨sb,6,none⟩=some (.int .i64 z):=fun z=>(HA.out.s.left z).c6
   have y7:∀ z,(wr.setCell ⟨sb,6,none⟩ (.int .i64 z)).cell? ⟨sb,7,none⟩=some (.bool false):=fun z=>(HA.out.s.left z).c7
   have g7:∀ z,(wr.setCell ⟨sb,6,none⟩ (.int .i64 z)).frozen? ⟨sb,7,none⟩=false:=fun z=>(HA.out.s.left z).f7
   rcases gk with _ | k
   ·have x6:wr.cell? ⟨sb,6,none⟩=some (.int .i64 0):=HA.out.s.c6
    have HD:Hid (AnsDone ps vars o k0 D0 sb (.slice ap ps.length cp) (.slice av vars.length cv) (.slice aw o.ws.length cw) pre ((wr.setCell ⟨sb,6,none⟩ (.int .i64 (-1))).setCell ⟨sb,7,none⟩ (.bool true))):=⟨-1,0,true,(HA.out.s.left _).over _,fun h=>(by cases h),fun m=>by have:=Stands.over HS.out m;rwa [List.length_map] at this⟩
    have hbk:∀ b,b≠sb->((wr.setCell ⟨sb,6,none⟩ (.int .i64 (-1))).setCell ⟨sb,7,none⟩ (.bool true)).heap[b]?=wr.heap[b]?:=fun b hb=>((setCell_blk _ ⟨sb,7,none⟩ _).2 b hb).trans ((setCell_blk wr ⟨sb,6,none⟩ _).2 b hb)
    have HJ1:Hid (J pre M ((wr.setCell ⟨sb,6,none⟩ (.int .i64 (-1))).setCell ⟨sb,7,none⟩ (.bool true))):=HA.out.jset HJ.out (by rw [(setCell_blk _ _ _).1,(setCell_blk _ _ _).1];exact rN _) hbk
    have HB1:Hid (Below w0.heap.size W ((wr.setCell ⟨sb,6,none⟩ (.int .i64 (-1))).setCell ⟨sb,7,none⟩ (.bool true))):=(HA.out.b.setCell (p:=⟨sb,6,none⟩) HA.out.sl _).setCell (p:=⟨sb,7,none⟩) HA.out.sl _
    clear HA HS HN hbk hlow hlen HDQ
    go_wp2
    refine bodyPost_ret (results_none rfl _ _ _) rfl ?_
    exact ⟨⟨_,rfl⟩,HB1.out,M,.inl ⟨pre,HD.out,HJ1.out⟩⟩
   ·have x6:wr.cell? ⟨sb,6,none⟩=some (.int .i64 ((k:Int)+1)):=by have:=HA.out.s.c6;simpa using this
    have hk:k<=10000:=by omega
    have HA1:=hD (HA.out.dec HJ.out)
    have HDQ1:Hid (DsQ (fun b=>(¬ M b/\b≠sb)/\b≠g) (wr.setCell ⟨sb,6,none⟩ (.int .i64 k)) (.slice ao D.length c) D):=HDQ.out.on (by rw [(setCell_blk _ _ _).1];exact rN _) (fun b _ hq=>(setCell_blk wr ⟨sb,6,none⟩ _).2 b hq.1.2)
    have HFI:=hD (HA.out.fin D List.mem_cons_self)
    clear HA HDQ
    go_upto_region 7 with fail
    obtain ⟨W1,hW1⟩:∃ W1,W1=wr.setCell ⟨sb,6,none⟩ (.int .i64 k):=⟨_,rfl⟩
    rw [<- hW1] at HA1 HDQ1 |-
    have HW1:=hD hW1
    have hbw:=HA1.out.b
    have hR:=theFix_some HFI.out.1
    have PW:=HI.out.p.below (HI.out.b.trans hbw)
    have CF0:=fix_f HDQ1.out.at PW HFI.out.1 hR
    have z0:=HA1.out.bx
    have z1:W1.cell? ⟨sb,0,none⟩=some (.slice ap ps.length cp):=HA1.out.s.c0
    clear hW1 x0 x6 f6 f7 y0 y6 y7 g7 htop hbw PW
    generalize hth:theFix ps D=R at *
    have HTH:=hD hth
    clear hth
    rcases R with _ | now
    ·have CF:Hid (Calls Tryz.prog 43 #[.slice ao D.length c,.slice ap ps.length cp] W1 fun e W2=>e=.returned (.tuple #[.slice none 0 0,.bool false])/\Below W1.heap.size W1 W2):=CF0.mono fun e W2 ⟨hb,hh⟩=>by
      rcases hh with ⟨_,_,_,h1,_⟩ | ⟨_,h1⟩
      ·cases h1
      ·exact ⟨h1,hb⟩
     have HS1:=hD (HS.out.gone HTH.out)
     clear CF0 hR
     go_wp2_with (go_at_call 43;(with_reducible refine CF.out.mono ?_);rintro e W2 ⟨rfl,b2⟩;have B2:=hD b2;clear b2)
     go_roundg k
     case measure=>omega
     case rel=>exact ⟨pre,M,g,cap,_,st,rfl,HA1.out.below HJ.out HL.out B2.out,HS1,hD (by omega)⟩
    ·have HNL:Hid (now.length=D0.length):=hR.1.len.trans HFI.out.2
     have HFN:=hD (HFI.out.1.res hR)
     have HNN:=hD hR.1.nor
     have HNE:=hD hR.1.non
     have CF:Hid (Calls Tryz.prog 43 #[.slice ao D.length c,.slice ap ps.length cp] W1 fun e W2=>∃ an cn,e=.returned (.tuple #[.slice an now.length cn,.bool true])/\Below W1.heap.size W1 W2/\DsFrom W1.heap.size W2 (.slice an now.length cn) now):=CF0.mono fun e W2 ⟨hb,hh⟩=>by
      rcases hh with ⟨d,an,cn,h1,h2,h3⟩ | ⟨h1,_⟩
      ·cases h1;exact ⟨an,cn,h2,hb,h3⟩
      ·cases h1
     clear CF0 hR
     have HNEW:=hD (HA1.out.new HL.out)
     go_upto_region 9 with (go_at_call 43;(with_reducible refine CF.out.mono ?_);rintro e W2 ⟨an,cn,rfl,b2,d2⟩;have B2:=hD b2;have HND:Hid (DsQ (fun b=>(¬ M b/\b≠sb)/\b≠g) W2 (.slice an now.length cn) now):=d2.good HNEW.out;clear b2 d2)
     have HA2:=hD (HA1.out.below HJ.out HL.out B2.out)
     have hbw:=HA2.out.b
     have VW:=HI.out.v.below (HI.out.b.trans hbw)
     have WW:=HI.out.w.below (HI.out.b.trans hbw)
     have hnd:=HND.out.at
     have hns4:=allN_short' HNN.out
     have hse:=HI.out.sel
     have hvl:=HI.out.vl
     have CC0:∀ q:QG W2,Calls Tryz.prog 44 #[.slice an now.length cn,.slice av vars.length cv,.agg #[.int .i64 o.sel,.int .i64 o.ord,.int .i64 o.br,.slice aw o.ws.length cw]] q.1 fun e w'=>e=.returned (.int .i64 (bestI (chooseL now vars o.sel o.ws vars.length)))/\Below q.1.heap.size q.1 w':=fun q=>choose_c _ _ _ o.sel o.ord o.br now vars o.ws q.1 (hnd.below q.2) (VW.below q.2) (WW.below q.2) hns4 hse (by omega)
     have k0':=qb_cell HA2.out.bx
     have k1':=qb_cell HA2.out.s.c1
     have k2':=qb_cell HA2.out.s.c2
     have k3':=qb_cell HA2.out.s.c3
     have k4':=qb_cell HA2.out.s.c4
     have k5':=qb_cell HA2.out.s.c5
     clear z0 z1 HA1 HDQ1 VW WW hnd hns4 hse hbw CF HW1 HNEW
     cases hc:chooseL now vars o.sel o.ws vars.length with
     | none =>
      rw [hc] at CC0
      have CC:Hid (∀ q:QG W2,Calls Tryz.prog 44 #[.slice an now.length cn,.slice av vars.length cv,.agg #[.int .i64 o.sel,.int .i64 o.ord,.int .i64 o.br,.slice aw o.ws.length cw]] q.1 fun e w'=>e=.returned (.int .i64 (-1))/\Below q.1.heap.size q.1 w'):=CC0
      have HLF:=hD (HS.out.leaf HTH.out hc)
      clear CC0 hc
      refine wp_region_below (by kernel_rfl) (by kernel_rfl) ?_
      repeat (go_big_quiet_step ((go_at_call 44;with_reducible exact qb_call _ (CC.out _))))
      refine wpQuiet_nil ?_
      intro W3 hw3
      have B3:=hD hw3.below
      have HA3:=hD (HA2.out.below HJ.out HL.out B3.out)
      have HND3:=hD (HND.out.below B3.out)
      clear k0' k1' k2' k3' k4' k5' hw3 CC HA2 HND
      have hmk:=mk_ints vars.length (by have:=HI.out.vl;omega)
      have hvl:=HI.out.vl
      have z0:=HA3.out.bx
      have z1:W3.cell? ⟨sb,1,none⟩=some (.slice av vars.length cv):=HA3.out.s.c1
      have z0a:∀ o,(W3.alloc o).cell? ⟨bs,0,none⟩=some (.pointer (some ⟨sb,0,none⟩)):=fun o=>Lib.cell?_alloc_some o z0
      have z1a:∀ o,(W3.alloc o).cell? ⟨sb,1,none⟩=some (.slice av vars.length cv):=fun o=>Lib.cell?_alloc_some o z1
      obtain ⟨f,hf⟩:∃ f:Int->Int,f=fun v=>(endsL (norm (domOf now v))).1:=⟨_,rfl⟩
      have HFB:Hid (∀ v,-200<=f v/\f v<=200):=fun v=>by rw [hf];exact ⟨(ends_bnd _).1,(ends_bnd _).2.1⟩
      have HF:=hD hf
      have HX0:Hid ((W3.alloc (.cells (madeCells #[.int .i64 0] vars.length) 3)).ownsRow W3.heap.size 3 1 (.slice (some ⟨W3.heap.size,0,none⟩) vars.length vars.length) vars.length (fillL f vars 0)):=by
       have h3:=World.ownsRow_lit (base:=W3.heap.size) W3 (madeCells #[.int .i64 0] vars.length) vars.length (e:=3) (size:=1) (rN _) (by unfold maxLen;omega) (by simp [size_madeCells])
       rw [toList_madeCells_one] at h3
       show World.ownsRow _ _ _ _ _ _ _
       rw [fill_zero];exact h3
      have HV3:=hD (HI.out.v.below (HI.out.b.trans HA3.out.b))
      have HVI:=hD HI.out.vin
      have HBA:Hid (∀ o,Below W3.heap.size W3 (W3.alloc o)):=fun o=>(Below.refl _ _).alloc (rN _) o
      obtain ⟨BX,hBX⟩:∃ BX,BX=W3.heap.size:=⟨_,rfl⟩
      have HSX:=hD hBX.symm
      rw [<- hBX] at HX0
      clear hf
      go_wp2
      rw [HSX.out]
      clear z0 z1 z0a z1a hBX
      go_loopw [79] (fun s wr=>∃ j:Nat,j<=vars.length/\s=.int .i64 j/\Hid (wr.ownsRow BX 3 1 (.slice (some ⟨BX,0,none⟩) vars.length vars.length) vars.length (fillL f vars j))/\Hid (Below W3.heap.size W3 wr)) (fun s _=>vars.length - (intOf s).toNat)
      case atStart=>exact ⟨0,by omega,rfl,HX0,HBA.out _⟩
      case round =>
       clear HX0 HBA hmk
       obtain ⟨j,hj,rfl,HX,HB⟩:=hrel
       have hle:=HB.out.size
       by_cases hlt:j<vars.length
       ·obtain ⟨bv,ov,rfl,q1,q2,xv⟩:=IsAt.getR (HV3.out.below HB.out) j hlt
        have j1:(j:Int)<vars.length:=by omega
        have hvt:=HVI.out _ (List.getElem_mem hlt)
        have HST:=hD (fill_step f vars j hlt)
        obtain ⟨nv,hnv⟩:=Int.eq_ofNat_of_zero_le hvt.1
        rw [hnv] at xv HST hvt
        have hn1:nv<now.length:=by have:=hvt.2;have:=HNL.out;omega
        obtain ⟨b,off,a5,c5,hen,_,q5,hq5,hc5,r5⟩:=(HND3.out.below HB.out).at.get nv hn1
        clear hq5
        subst hen
        have j2:(nv:Int)<now.length:=by omega
        have hfv:f (nv:Int)=(endsL (norm now[nv])).1:=by rw [HF.out];dsimp only;rw [domOf_nat hn1]
        have CE:=hD (ends_c _ now[nv] wr r5 (allN_short' HNN.out _ (List.getElem_mem hn1)))
        rw [hfv] at HST
        clear hfv hvt hnv r5
        generalize now[nv]=d at *
        have hxc:∃ u,wr.cell? ⟨BX,j,none⟩=some u:=⟨_,by rw [HX.out.cellAt j (by omega)];exact List.getElem?_eq_getElem (by rw [HX.out.1];omega)⟩
        obtain ⟨ux,hxc⟩:=hxc
        have hfx:=HX.out.frozenAt j
        have hbx:=(own_lt HX.out (b:=BX) rfl).1
        have CE2:Hid (Calls Tryz.prog 45 #[.slice a5 d.length c5] wr fun e w'=>e=.returned (.tuple #[.int .i64 (endsL (norm d)).1,.int .i64 (endsL (norm d)).2.1,.bool (endsL (norm d)).2.2])/\Below wr.heap.size wr w'):=CE.out
        clear CE
        generalize (endsL (norm d)).2.2=ok at *
        generalize (endsL (norm d)).1=lo at *
        generalize (endsL (norm d)).2.1=hi at *
        go_wp2_with (go_at_call 45;(with_reducible refine CE2.out.mono ?_);rintro e W4 ⟨rfl,b4⟩;have HX4:=hD (own_below HX.out b4);have hxc4:=(b4.cell (p:=⟨BX,j,none⟩) hbx).trans hxc;have hfx4:=HX4.out.frozenAt j;have HB4:=hD (HB.out.trans (b4.mono hle));clear b4)
        refine ⟨⟨j+1,by omega,by go_num,?_,hD (HB4.out.setCell (p:=⟨BX,j,none⟩) (Nat.le_of_eq HSX.out) _)⟩,by simp [intOf];omega⟩
        have h5:=(HX4.out.stored j (.int .i64 lo)).1
        rw [HST.out] at h5
        exact hD h5
       ·obtain rfl:j=vars.length:=by omega
        have HA5:=hD (HA3.out.below HJ.out HL.out HB.out)
        have hX:=HX.out
        rw [fill_all] at hX
        have HXI:Hid (GotI w0.heap.size sb vars.length (.slice (some ⟨BX,0,none⟩) vars.length vars.length,vars.map f) wr):=by
         refine ⟨?_,fun b e=>?_,by simp,fun z hz=>?_⟩
         ·show SlAt _ _ _ _ _
          rw [List.length_map]
          exact SlAt.of_own hX
         ·have e1:some BX=some b:=e
          injection e1 with e1
          have h1:=HI.out.b.size
          have h2:=HA3.out.b.size
          have h5:=HSX.out
          have h6:=HI.out.s.lt
          omega
         ·obtain ⟨v,_,rfl⟩:=List.mem_map.1 hz
          exact HFB.out v
        have hbx:=(own_lt hX (b:=BX) rfl).1
        have hown:∀ b,ownI (.slice (some ⟨BX,0,none⟩) vars.length vars.length,vars.map f) b->b=BX:=fun b h=>by
         have:some BX=some b:=h
         injection this with this
         exact this.symm
        have HOWN:=hD hown
        have HNM:Hid (¬ M BX):=fun hm=>by have:=HL.out _ _ _ HA3.out.j _ hm;have:=HSX.out;omega
        obtain ⟨fn,tmps,assign,body,hy,hR⟩:=HY.out pre M _ wr HA5.out.b HA5.out.j HXI.out (fun b h=>by rw [hown b h];exact ⟨hbx,HNM.out⟩)
        dsimp only at hy
        have HR:=hD hR
        have HST5:Hid (StAt (fun b=>(¬ M b/\b≠sb)/\¬ ownI (.slice (some ⟨BX,0,none⟩) vars.length vars.length,vars.map f) b) wr w0.heap.size g cap st (us.take st.length)) :=
         StAt.below (HA3.out.stk.weaken (fun b hb hq=>⟨hq,fun e=>by rw [hown b e] at hb;have:=HSX.out;omega⟩)) HB.out
        have HXO:Hid (∀ b,ownI (.slice (some ⟨BX,0,none⟩) vars.length vars.length,vars.map f) b->w0.heap.size<=b/\b≠sb/\b≠bs):=fun b e=>by
         rw [hown b e]
         have h1:=HI.out.b.size
         have h2:=HA3.out.b.size
         have h3:=HA3.out.s.lt
         have h4:=World.block_lt_of_cell? W3 _ HA3.out.bx
         have h5:=HSX.out
         dsimp only at h4
         omega
        have HLF1:=HLF.out
        rw [<- HF.out] at HLF1
        have HLF2:=hD HLF1
        clear HLF HLF1 HX hX HXI HV3 HVI HSX hbx hown hR hlt hj
        go_upto_region 17 with fail
        refine (wpIn_wide (n:=n)).1 ?_
        gi_wp2
        refine ⟨fun h=>(by simp [Fence.wide] at h),HR.out.mono ?_⟩
        rintro e W6 ⟨M',hM',hA,(⟨rfl,hj6⟩ | ⟨rfl,hj6⟩)⟩
        ·have HA6:=hD (AnsW.round HA5.out HXO.out hM' hA hj6 HST5.out)
         clear hM' hA hj6 HA5 HST5 HXO HJX HOWN HNM
         dsimp only
         gi_wp2
         go_wp2
         go_roundg k
         case measure=>omega
         case rel=>exact ⟨_,M',g,cap,_,st,rfl,HA6,(by have:=HLF2.out.2;rw [List.map_append];exact this),hD (by omega)⟩
        ·have HA6:=hD (AnsW.round HA5.out HXO.out hM' hA hj6 HST5.out)
         have HSTP:Hid (AnsStop ps vars o k0 D0 sb (.slice ap ps.length cp) (.slice av vars.length cv) (.slice aw o.ws.length cw) (pre++[(.slice (some ⟨BX,0,none⟩) vars.length vars.length,vars.map f)]) W6):=⟨k,HA6.out.s,by have:=HLF2.out.1;rw [List.map_append];rw [List.length_append,List.length_map] at this;rw [List.length_append];exact this⟩
         clear hM' hA HA5 HST5 HXO HJ HL HOWN HNM
         have HJ6:=hD hj6
         clear hj6
         dsimp only
         gi_wp2
         go_wp2
         refine bodyPost_ret (results_none rfl _ _ _) rfl ?_
         exact ⟨⟨_,rfl⟩,HA6.out.b,M',.inr ⟨_,HSTP.out,HJ6.out⟩⟩
     | some i =>
      rw [hc] at CC0
      have CC:Hid (∀ q:QG W2,Calls Tryz.prog 44 #[.slice an now.length cn,.slice av vars.length cv,.agg #[.int .i64 o.sel,.int .i64 o.ord,.int .i64 o.br,.slice aw o.ws.length cw]] q.1 fun e w'=>e=.returned (.int .i64 i)/\Below q.1.heap.size q.1 w'):=CC0
      have hil:i<vars.length:=chooseL_lt _ _ _ _ _ _ hc
      have hsz:=choose_some hc
      have HPT:=hD (HS.out.part HTH.out hc)
      clear CC0 hc
      refine wp_region_below (by kernel_rfl) (by kernel_rfl) ?_
      repeat (go_big_quiet_step ((go_at_call 44;with_reducible exact qb_call _ (CC.out _))))
      refine wpQuiet_nil ?_
      intro W3 hw3
      have B3:=hD hw3.below
      have HA3:=hD (HA2.out.below HJ.out HL.out B3.out)
      have HND3:=hD (HND.out.below B3.out)
      clear k0' k1' k2' k3' k4' k5' hw3 CC HA2 HND
      have hvt:=HI.out.vin _ (List.getElem_mem hil)
      have hvl:=HI.out.vl
      obtain ⟨nv,hnv⟩:=Int.eq_ofNat_of_zero_le hvt.1
      rw [hnv] at hvt
      have hvd:(vars.getD i 0).toNat=nv:=by rw [List.getD_eq_getElem?_getD,List.getElem?_eq_getElem hil];show vars[i].toNat=nv;rw [hnv,Int.toNat_natCast]
      have hvd2:vars.getD i 0=(nv:Int):=by rw [List.getD_eq_getElem?_getD,List.getElem?_eq_getElem hil];exact hnv
      have hn1:nv<now.length:=by have:=hvt.2;have:=HNL.out;omega
      obtain ⟨bv,ov,rfl,q1,q2,xv⟩:=IsAt.getR (HI.out.v.below (HI.out.b.trans HA3.out.b)) i hil
      rw [hnv] at xv
      obtain ⟨b,off,a5,c5,hen,_,q5,hq5,hc5,r5⟩:=HND3.out.at.get nv hn1
      clear hq5
      subst hen
      have j1:(i:Int)<vars.length:=by omega
      have j2:(nv:Int)<now.length:=by omega
      have hgd:now.getD nv []=now[nv]:=by rw [List.getD_eq_getElem?_getD,List.getElem?_eq_getElem hn1];rfl
      have HPT2:=HPT.out
      rw [hvd] at HPT2
      unfold partAt at HPT2
      rw [hgd] at HPT2
      dsimp only at HPT2
      rw [hvd2,domAt_nat,hgd] at hsz
      have hdl:=allN_short' HNN.out _ (List.getElem_mem hn1)
      have HR5:=hD r5
      have HOR:=HI.out.ord
      have HBR:=HI.out.br
      obtain ⟨hnA,hnB⟩:=split_normal now[nv] o.ord o.br
      have HFA:=hD (HFN.out.set HNN.out hnA nv)
      have HFB:=hD (HFN.out.set HNN.out hnB nv)
      have HLA:Hid ((now.set nv (splitL now[nv] o.ord o.br).1).length=D0.length):=by show _=_;rw [List.length_set];exact HNL.out
      have HLB:Hid ((now.set nv (splitL now[nv] o.ord o.br).2).length=D0.length):=by show _=_;rw [List.length_set];exact HNL.out
      have CS:Hid (∀ W,Below W3.heap.size W3 W->Calls Tryz.prog 46 #[.slice a5 now[nv].length c5,.agg #[.int .i64 o.sel,.int .i64 o.ord,.int .i64 o.br,.slice aw o.ws.length cw]] W fun e W4=>∃ a1 c1 a2 c2,e=.returned (.tuple #[.slice a1 (splitL now[nv] o.ord o.br).1.length c1,.slice a2 (splitL now[nv] o.ord o.br).2.length c2])/\RgAt W4 (.slice a1 (splitL now[nv] o.ord o.br).1.length c1) (splitL now[nv] o.ord o.br).1/\RgAt W4 (.slice a2 (splitL now[nv] o.ord o.br).2.length c2) (splitL now[nv] o.ord o.br).2/\Below W3.heap.size W3 W4/\(∀ b,(Value.slice a1 (splitL now[nv] o.ord o.br).1.length c1).ownBlock=some b->W3.heap.size<=b)/\∀ b,(Value.slice a2 (splitL now[nv] o.ord o.br).2.length c2).ownBlock=some b->W3.heap.size<=b):=fun W h =>
       (split_c _ _ o.sel o.ord o.br now[nv] W (HR5.out.below h) hdl HOR HBR _ _ _ rfl).mono fun e W4 ⟨a1,c1,a2,c2,h1,h2,h3,h4,h5,h6⟩=>⟨a1,c1,a2,c2,h1,h2,h3,bT h h4,fun b e=>Nat.le_trans h.size (h5 b e),fun b e=>Nat.le_trans h.size (h6 b e)⟩
      have HPT3:=hD HPT2
      clear HPT HPT2 hnA hnB r5 hgd hvd hvd2 hnv hvt hsz hdl HOR HBR
      generalize (splitL now[nv] o.ord o.br).1=A at *
      generalize (splitL now[nv] o.ord o.br).2=B at *
      generalize now[nv]=d at *
      have z0:=HA3.out.bx
      have z1:W3.cell? ⟨sb,1,none⟩=some (.slice (some ⟨bv,ov,none⟩) vars.length cv):=HA3.out.s.c1
      have HSW:Hid (∀ W',Below W3.heap.size W3 W'->W'.cell? ⟨b,off+nv,none⟩=some (.slice a5 d.length c5)/\W'.cell? ⟨bs,0,none⟩=some (.pointer (some ⟨sb,0,none⟩))/\W'.cell? ⟨sb,2,none⟩=some (.int .i64 o.sel)/\W'.cell? ⟨sb,3,none⟩=some (.int .i64 o.ord)/\W'.cell? ⟨sb,4,none⟩=some (.int .i64 o.br)/\W'.cell? ⟨sb,5,none⟩=some (.slice aw o.ws.length cw)):=fun W' h =>
       have h1:=(HA3.out.below HJ.out HL.out h)
       ⟨(h.cell (p:=⟨b,off+nv,none⟩) q5).trans hc5,h1.bx,h1.s.c2,h1.s.c3,h1.s.c4,h1.s.c5⟩
      obtain ⟨s0,s1,s2,s3,s4,s5⟩:=HSW.out W3 (Below.refl _ _)
      clear hc5
      go_wp2
      go_region_held3 (fun W'=>W'.cell? ⟨b,off+nv,none⟩=some (.slice a5 d.length c5)/\W'.cell? ⟨bs,0,none⟩=some (.pointer (some ⟨sb,0,none⟩))/\W'.cell? ⟨sb,2,none⟩=some (.int .i64 o.sel)/\W'.cell? ⟨sb,3,none⟩=some (.int .i64 o.ord)/\W'.cell? ⟨sb,4,none⟩=some (.int .i64 o.br)/\W'.cell? ⟨sb,5,none⟩=some (.slice aw o.ws.length cw)) ((first | exact HSW.out _ P4.out | (refine HSW.out _ ?_;go_grown)))
       (first | (go_at_call 46;refine (CS.out _ ?_).mono ?_;(·go_grown);rintro e W4 ⟨a6,c6,a7,c7,rfl,r6,r7,bw,n6,n7⟩;have P4:=hD bw;have R6:=hD r6;have R7:=hD r7;have N6:=hD n6;have N7:=hD n7;clear bw r6 r7 n6 n7))
      clear s0 s1 s2 s3 s4 s5 HSW CS HR5
      obtain ⟨i0,hi,hz0',hz1',hz2'⟩:=info_parts Tryz.infoRgss
      have HA4:=hD (HA3.out.below HJ.out HL.out P4.out)
      have HND4:=hD (HND3.out.below P4.out)
      have HNW:=hD (HA3.out.new HL.out)
      have RA:Hid (RgQ (fun b=>(¬ M b/\b≠sb)/\b≠g) W4 (.slice a6 A.length c6) A):=RgQ.of_new R6.out N6.out HNW.out
      have RB:Hid (RgQ (fun b=>(¬ M b/\b≠sb)/\b≠g) W4 (.slice a7 B.length c7) B):=RgQ.of_new R7.out N7.out HNW.out
      have hnl4:now.length<=4096:=by have:=HFN.out.n;omega
      have CWB:Hid (Calls Tryz.prog 33 #[.slice (some ⟨b,off,none⟩) now.length cn,.int .i64 nv,.slice a7 B.length c7] W4 (RetDn (fun b=>(¬ M b/\b≠sb)/\b≠g) now.length (now.set nv B) W4)):=with_n _ _ nv _ now B W4 HND4.out RB.out hn1 hnl4
      have CWA:Hid (∀ W,Below W4.heap.size W4 W->Calls Tryz.prog 33 #[.slice (some ⟨b,off,none⟩) now.length cn,.int .i64 nv,.slice a6 A.length c6] W (RetDn (fun b=>(¬ M b/\b≠sb)/\b≠g) now.length (now.set nv A) W)):=fun W h=>with_n _ _ nv _ now A W (HND4.out.below h) (RA.out.below h) hn1 hnl4
      have HUL:Hid ((us.take st.length).length=st.length):=HA4.out.stk.len
      have HNW4:=hD (HA4.out.new HL.out)
      have hn0:w0.heap.size<=W4.heap.size:=Nat.le_trans HA4.out.nl HA4.out.b.size
      have HAL:Hid (∀ (W:World) (o:Obj),Below W.heap.size W (W.alloc o)):=fun W o=>(Below.refl _ _).alloc (rN _) o
      clear HNW HND3 RA RB R6 R7 N6 N7 HND4 P4 HA3 xv z0 z1 hnl4 j2
      go_wp2_with (first
       | (go_at_call 33;(with_reducible refine CWB.out.mono ?_);rintro e W5 ⟨g5,c5',u5',rfl,i5,b5⟩;have I5:=hD i5;have B5:=hD b5;clear i5 b5)
       | (go_at_call 33;(with_reducible refine (CWA.out _ B5.out).mono ?_);rintro e W6 ⟨g6,c6',u6',rfl,i6,b6⟩;have I6:=hD (DsQ.below (i6.q (fun b hb=>HNW4.out b (Nat.le_trans B5.out.size hb))) (HAL.out W6 (.cells #[.slice (some ⟨g5,0,none⟩) now.length c5',.slice (some ⟨g6,0,none⟩) now.length c6'] 22)));have B6:=hD ((bT B5.out b6).trans ((HAL.out W6 (.cells #[.slice (some ⟨g5,0,none⟩) now.length c5',.slice (some ⟨g6,0,none⟩) now.length c6'] 22)).mono (Nat.le_trans B5.out.size b6.size)));have I5':=hD (DsQ.below (DsQ.below (I5.out.q HNW4.out) b6) (HAL.out W6 (.cells #[.slice (some ⟨g5,0,none⟩) now.length c5',.slice (some ⟨g6,0,none⟩) now.length c6'] 22)));have hsz6:=b6.size;clear i6 b6;have HA6:=hD (HA4.out.below HJ.out HL.out B6.out);have hown6:=HA6.out.stk.own)
       | (at_builtin;refine wpList_appendTwo rfl (.tmp 120) (.tmp 129) 83 rfl w0.heap.size 22 i0 (.slice none 0 0) 24 Tryz.underlying83 hi hz0' hz1' hz2' rfl _ st.length (us.take st.length) rfl (.slice (some ⟨g5,0,none⟩) now.length c5') (.slice (some ⟨g6,0,none⟩) now.length c6') hown6 rfl rfl rfl (by omega) (Nat.le_trans hn0 (Nat.le_trans B5.out.size hsz6)) ?_;intro g7 cap7 W7 ow7 gr7 ly7))
      have HA7:=hD (AnsW.push HA4.out HJ.out HL.out B6.out I6.out I5'.out ⟨HFA.out,HLA.out⟩ ⟨HFB.out,HLB.out⟩ ow7 gr7 (ly7.imp (fun e=>Option.some.inj (show some g7=some g from e.symm)) id) hlow)
      go_roundg k
      case measure=>omega
      case rel=>exact ⟨pre,M,g7,cap7,_,_,rfl,HA7,HPT3,hD (by simp only [List.length_cons];omega)⟩
def labOdd (n:Nat) (v:Int):Bool:=decide (v<0)||decide ((n:Int)<=v)
theorem labOdd_any (bx:Nat) (ao:Option Addr) (n cap:Nat) (v:Int) (w:World) (hc:w.cell? ⟨bx,0,none⟩=some (.slice ao n cap)) :
  Calls Tryz.prog 40 #[.int .i64 v,.pointer (some ⟨bx,0,none⟩)] w fun e w'=>e=.returned (.bool (labOdd n v))/\w=w':=by
 unfold labOdd
 by_cases h:v<0
 ·go_enter Tryz.func40,Tryz.ntmps40
  go_wp2
  go_ret
  exact ⟨ret_bool (by simp [h]),rfl⟩
 ·go_enter Tryz.func40,Tryz.ntmps40
  go_wp2
  go_ret
  exact ⟨ret_bool (by simp;omega),rfl⟩
theorem idxLabOdd_any (bx:Nat) (ao:Option Addr) (n cap:Nat) (v:Value) (zs:List Int) (w:World) (hc:w.cell? ⟨bx,0,none⟩=some (.slice ao n cap)) (h:IsAt w v zs) (hl:zs.length<=4097) :
  Calls Tryz.prog 61 #[v,.func (.func 40) #[] #[.pointer (some ⟨bx,0,none⟩)]] w fun e w'=>e=.returned (.int .i64 (findI (labOdd n) zs))/\w=w':=by
 obtain ⟨av,cv,rfl,_⟩:=IsAt.shape' h
 have H:=hD h
 have HC:=hD hc
 clear h hc
 go_enter Tryz.func61,Tryz.ntmps61
 go_wp2
 go_loop [8] (fun i=>∃ k:Nat,k<=zs.length/\i=.int .i64 k/\(zs.take k).any (labOdd n)=false) (fun i=>zs.length - (intOf i).toNat)
 case atStart=>exact ⟨0,by omega,rfl,by simp⟩
 case round =>
  obtain ⟨k,hk,rfl,hnot⟩:=hrel
  have HN:=hD hnot
  clear hnot
  by_cases hlt:k<zs.length
  ·obtain ⟨b,off,rfl,_,_,hcell⟩:=IsAt.getR H.out k hlt
   obtain ⟨z,hz⟩:∃ z,z=zs[k]:=⟨_,rfl⟩
   rw [<- hz] at hcell
   cases ho:labOdd n z with
   | true =>
    have HF:=hD (findIdx_hit (labOdd n) zs k hlt HN.out (by rw [<- hz];exact ho))
    have CO:Hid (Calls Tryz.prog 40 #[.int .i64 z,.pointer (some ⟨bx,0,none⟩)] w fun e w'=>e=.returned (.bool true)/\w=w'):=by rw [<- ho];exact labOdd_any bx ao n cap z w HC.out
    clear hz ho
    go_wp2_with (first | (go_at_call 40;((with_reducible refine CO.out.mono ?_);rintro e w' ⟨rfl,rfl⟩)))
    go_ret
    exact ⟨ret_int HF.out.symm,rfl⟩
   | false =>
    have HF:=hD (any_take_step (labOdd n) zs k hlt HN.out (by rw [<- hz];exact ho))
    have CO:Hid (Calls Tryz.prog 40 #[.int .i64 z,.pointer (some ⟨bx,0,none⟩)] w fun e w'=>e=.returned (.bool false)/\w=w'):=by rw [<- ho];exact labOdd_any bx ao n cap z w HC.out
    clear hz ho
    go_wp2_with (first | (go_at_call 40;((with_reducible refine CO.out.mono ?_);rintro e w' ⟨rfl,rfl⟩)))
    go_round
    case rel=>exact ⟨k+1,by omega,by go_num,HF.out⟩
    case measure=>simp [intOf];omega
  ·have HF:Hid (findI (labOdd n) zs=-1):=findIdx_none (labOdd n) zs (by have:=HN.out;rwa [List.take_of_length_le (by omega)] at this)
   go_wp2
   go_ret
   exact ⟨ret_int HF.out.symm,rfl⟩
theorem containsLabOdd_any (bx:Nat) (ao:Option Addr) (n cap:Nat) (v:Value) (zs:List Int) (w:World) (hc:w.cell? ⟨bx,0,none⟩=some (.slice ao n cap)) (h:IsAt w v zs) (hl:zs.length<=4097) :
  Calls Tryz.prog 41 #[v,.func (.func 40) #[] #[.pointer (some ⟨bx,0,none⟩)]] w fun e w'=>e=.returned (.bool (zs.any (labOdd n)))/\w=w':=by
 have CI:=hD (idxLabOdd_any bx ao n cap v zs w hc h hl)
 clear h hc
 go_enter Tryz.func41,Tryz.ntmps41
 go_wp2_with (first | (go_at_call 61;((with_reducible refine CI.out.mono ?_);rintro e w' ⟨rfl,rfl⟩)))
 go_ret
 exact ⟨ret_bool (findI_nonneg _ _),rfl⟩
theorem srch_made (W:World) (vps vv vw:Value) (sel ord br k:Int) (T:TypeId):Srch (W.alloc (.cells #[vps,vv,.int .i64 sel,.int .i64 ord,.int .i64 br,vw,.int .i64 k,.bool false] T)) W.heap.size vps vv sel ord br vw k false:=by
 have h:=BoxL.mk' W #[vps,vv,.int .i64 sel,.int .i64 ord,.int .i64 br,vw,.int .i64 k,.bool false] T
 exact ⟨(h.get 0 rfl).1,(h.get 1 rfl).1,(h.get 2 rfl).1,(h.get 3 rfl).1,(h.get 4 rfl).1,(h.get 5 rfl).1,(h.get 6 rfl).1,(h.get 7 rfl).1,(h.get 6 rfl).2,(h.get 7 rfl).2⟩
theorem begin_ok (vds vps vv vw:Value) (sel ord br:Int) (ds:Ds) (ps:List PL) (vars ws:List Int) (most nodes:Int) (w:World) (hd:DsAt w vds ds) (hp:PsAt w vps ps) (hv:IsAt w vv vars) (hw:IsAt w vw ws)
  (hok:∀ p∈ps,p.ok) (hlc:labChk sel ord br ws.length=0) (hfc:fixChk ds.length ps=0) (hvl:vars.length<=64) (hvi:∀ v∈vars,0<=v/\v.toNat<ds.length) (h1:1<=most) (h2:most<=1000) (h3:1<=nodes) (h4:nodes<=10000) :
  Calls Tryz.prog 26 #[vds,vps,vv,.agg #[.int .i64 sel,.int .i64 ord,.int .i64 br,vw],.int .i64 most,.int .i64 nodes] w fun e w' =>
   ∃ sb,e=.returned (.tuple #[.pointer (some ⟨sb,0,none⟩),.int .i64 0])/\w.heap.size<=sb/\Srch w' sb vps vv sel ord br vw nodes false/\Below w.heap.size w w':=by
 obtain ⟨a0,c0,rfl,_⟩:=hd.shape
 obtain ⟨a1,c1,rfl,_⟩:=hp.shape
 obtain ⟨a2,c2,rfl,_⟩:=hv.shape'
 obtain ⟨a3,c3,rfl,_⟩:=hw.shape'
 have hany:vars.any (labOdd ds.length)=false:=by
  rw [List.any_eq_false]
  intro v hm
  have:=hvi v hm
  unfold labOdd;simp;omega
 have HA1:Hid (Below w.heap.size w (w.alloc (.cells #[.slice a0 ds.length c0] 22))):=bA _
 obtain ⟨W0,hW0⟩:∃ W0,W0=(w.alloc (.cells #[.slice a0 ds.length c0] 22)).alloc (.cells #[.int .i64 sel,.int .i64 ord,.int .i64 br,.slice a3 ws.length c3] 28):=⟨_,rfl⟩
 have B0:Hid (Below w.heap.size w W0):=by rw [hW0];exact bL HA1.out _
 have hB1:BoxL W0 (w.heap.size+1) [.int .i64 sel,.int .i64 ord,.int .i64 br,.slice a3 ws.length c3]:=by
  have:=BoxL.mk' (w.alloc (.cells #[.slice a0 ds.length c0] 22)) #[.int .i64 sel,.int .i64 ord,.int .i64 br,.slice a3 ws.length c3] 28
  rw [hW0]
  rwa [show (w.alloc (.cells #[.slice a0 ds.length c0] 22)).heap.size=w.heap.size+1 by simp] at this
 have HB1:=hD hB1
 have hbl1:=hB1.lt (by simp)
 have hx0:W0.cell? ⟨w.heap.size,0,none⟩=some (.slice a0 ds.length c0):=by
  rw [hW0]
  exact Lib.cell?_alloc_some _ ((BoxL.mk' w #[.slice a0 ds.length c0] 22).get 0 rfl).1
 have HX0:=hD hx0
 have CL:=hD (labCheck_c sel ord br a3 ws.length c3 W0)
 have CF:Hid (∀ W,Below W0.heap.size W0 W->Calls Tryz.prog 39 #[.slice a0 ds.length c0,.slice a1 ps.length c1] W fun e w'=>e=.returned (.int .i64 0)/\Below W.heap.size W w'):=fun W h=>by
  have hb:=bT B0.out h
  have:=fixCheck_c (.slice a0 ds.length c0) (.slice a1 ps.length c1) ds ps W (hd.below hb) (hp.below hb) (fun j hj=>hok _ (List.getElem_mem hj))
  rwa [hfc] at this
 have CO:Hid (∀ W,Below W0.heap.size W0 W->Calls Tryz.prog 41 #[.slice a2 vars.length c2,.func (.func 40) #[] #[.pointer (some ⟨w.heap.size,0,none⟩)]] W fun e w'=>e=.returned (.bool false)/\W=w'):=fun W h=>by
  have:=containsLabOdd_any w.heap.size a0 ds.length c0 (.slice a2 vars.length c2) vars W ((h.cell (p:=⟨w.heap.size,0,none⟩) (by dsimp only;omega)).trans HX0.out) (hv.below (bT B0.out h)) (by omega)
  rwa [hany] at this
 rw [hlc] at CL
 obtain ⟨l0,_⟩:=hB1.get 0 rfl
 obtain ⟨l1,_⟩:=hB1.get 1 rfl
 obtain ⟨l2,_⟩:=hB1.get 2 rfl
 obtain ⟨l3,_⟩:=hB1.get 3 rfl
 have HWE:=hD hW0
 clear hd hp hv hw hok hlc hfc hvi hany hW0 HA1 hB1
 go_enter Tryz.func26,Tryz.ntmps26
 go_upto_region 1 with fail
 rw [<- HWE.out]
 go_wp2_with (first
  | (go_at_call 12;(with_reducible refine CL.out.mono ?_);rintro e W1 ⟨rfl,b1⟩;have B1:=hD b1;have y0:=(b1.cell (p:=⟨w.heap.size,0,none⟩) (by dsimp only;omega)).trans hx0;clear b1)
  | (go_at_call 39;(with_reducible refine (CF.out _ B1.out).mono ?_);rintro e W2 ⟨rfl,b2⟩;have B2:=hD (bT B1.out b2);obtain ⟨m0,_⟩:=(HB1.out.below B2.out hbl1).get 0 rfl;obtain ⟨m1,_⟩:=(HB1.out.below B2.out hbl1).get 1 rfl;obtain ⟨m2,_⟩:=(HB1.out.below B2.out hbl1).get 2 rfl;obtain ⟨m3,_⟩:=(HB1.out.below B2.out hbl1).get 3 rfl;clear b2)
  | (go_at_call 41;(with_reducible refine (CO.out _ B2.out).mono ?_);rintro e w' ⟨rfl,rfl⟩))
 go_ret2
 have hb:=bT B0.out B2.out
 exact ⟨W2.heap.size,rfl,hb.size,srch_made W2 _ _ _ sel ord br nodes _,bL hb _⟩
theorem answers_c (sb:Nat) (vds:Value) (w:World) (ao:Option Addr) (n cap:Nat) (hv:vds=.slice ao n cap) :
  Calls Tryz.prog 27 #[.pointer (some ⟨sb,0,none⟩),vds] w fun e w'=>e=.returned (.func (.func 42) #[] #[.pointer (some ⟨w.heap.size+1,0,none⟩),.pointer (some ⟨w.heap.size,0,none⟩)]) /\
   w'.cell? ⟨w.heap.size,0,none⟩=some (.pointer (some ⟨sb,0,none⟩))/\w'.cell? ⟨w.heap.size+1,0,none⟩=some vds/\Below w.heap.size w w'/\w'.heap.size=w.heap.size+2:=by
 subst hv
 go_enter Tryz.func27,Tryz.ntmps27
 go_wp2
 go_ret
 refine ⟨rfl,Lib.cell?_alloc_some _ ((BoxL.mk' w #[.pointer (some ⟨sb,0,none⟩)] _).get 0 rfl).1,?_,((Below.refl _ w).alloc (rN _) _).alloc (by simp) _,by simp⟩
 have h:∀ T,((w.alloc (.cells #[.pointer (some ⟨sb,0,none⟩)] T)).alloc (.cells #[.slice ao n cap] 22)).cell? ⟨w.heap.size+1,0,none⟩=some (.slice ao n cap):=fun T=>by
  have h:=((BoxL.mk' (w.alloc (.cells #[.pointer (some ⟨sb,0,none⟩)] T)) #[.slice ao n cap] 22).get 0 rfl).1
  rw [show (w.alloc (.cells #[.pointer (some ⟨sb,0,none⟩)] T)).heap.size=w.heap.size+1 by simp] at h
  exact h
 exact h _
structure OutW (n0 ob bm:Nat) (most:Int) (W:World) (pre:List (Value×List Int)) (M:Nat->Prop):Prop where
 row:∃ v,W.cell? ⟨ob,0,none⟩=some v/\W.frozen? ⟨ob,0,none⟩=false/\W.ownsRow (ob+1) 26 1 v pre.length (pre.map Prod.fst)/\(∀ b,v.ownBlock=some b->M b) /\
  ∀ x∈pre,IsAt W x.1 x.2/\∀ b,x.1.ownBlock=some b->(M b/\v.ownBlock≠some b/\b≠ob)/\n0<=b
 mc:W.cell? ⟨bm,0,none⟩=some (.int .i64 most)
 mo:M ob
 mb:M bm
 lo:bm<ob
 nb:n0<=bm
 lt:∀ b,M b->b<W.heap.size
theorem OutW.rest {n0 ob bm:Nat} {most:Int} {W W':World} {pre:List (Value×List Int)} {M:Nat->Prop} (h:OutW n0 ob bm most W pre M) (hs:W.heap.size<=W'.heap.size) (hb:∀ b,M b->W'.heap[b]?=W.heap[b]?):OutW n0 ob bm most W' pre M:=by
 obtain ⟨v,h1,h2,h3,h4,h5⟩:=h.row
 exact { h with
  row:=⟨v,(World.cell?_of_block (a:=⟨ob,0,none⟩) (hb ob h.mo)).trans h1,(World.frozen?_of_block (a:=⟨ob,0,none⟩) (hb ob h.mo)).trans h2,own_block h3 (fun b e=>hb b (h4 b e)),h4,
   fun x hx=>⟨SlAt.ownB (h5 x hx).1 hs (fun b _ e=>hb b ((h5 x hx).2 b e).1.1),(h5 x hx).2⟩⟩
  mc:=(World.cell?_of_block (a:=⟨bm,0,none⟩) (hb bm h.mb)).trans h.mc
  lt:=fun b hm=>Nat.lt_of_lt_of_le (h.lt b hm) hs }
theorem OutW.ls {n0 ob bm:Nat} {most:Int} {W:World} {pre:List (Value×List Int)} {M:Nat->Prop} (h:OutW n0 ob bm most W pre M):∃ ao cap,W.cell? ⟨ob,0,none⟩=some (.slice ao pre.length cap)/\LsFrom n0 W (.slice ao pre.length cap) (pre.map Prod.snd):=by
 obtain ⟨v,h1,_,h3,_,h5⟩:=h.row
 obtain ⟨ao,cap,rfl,_⟩:=(SlAt.of_own h3).shape
 refine ⟨ao,cap,h1,pre.map Prod.fst,by simp,by rw [List.length_map];exact SlAt.of_own h3,fun b e=>by have:=(own_lt h3 e).2;have:=h.lo;have:=h.nb;omega,fun j hj=>?_⟩
 rw [List.length_map] at hj
 refine ⟨pre[j].1,by rw [List.getElem?_map,List.getElem?_eq_getElem hj];rfl,?_⟩
 rw [List.getElem_map]
 exact ⟨(h5 _ (List.getElem_mem hj)).1,fun b e=>((h5 _ (List.getElem_mem hj)).2 b e).2⟩
theorem OutW.push {n0 ob bm:Nat} {most:Int} {W w1:World} {pre:List (Value×List Int)} {M:Nat->Prop} {v:Value} (h:OutW n0 ob bm most W pre M) (hc:W.cell? ⟨ob,0,none⟩=some v)
  {x:Value×List Int} {sb len:Nat} (hx:GotI n0 sb len x W) (hown:∀ b,ownI x b->b<W.heap.size/\¬ M b) {T:TypeId} {g cap:Nat}
  (ho:w1.ownsRow (ob+1) 26 1 (.slice (some ⟨g,0,none⟩) (pre.length+1) cap) (pre.length+1) (pre.map Prod.fst++[x.1])) (hg:(W.alloc (.cells #[x.1] T)).grownBy w1 v.ownBlock)
  (hl:(Value.slice (some ⟨g,0,none⟩) (pre.length+1) cap).ownBlock=v.ownBlock\/(Value.slice (some ⟨g,0,none⟩) (pre.length+1) cap).ownBlock=some (W.alloc (.cells #[x.1] T)).heap.size) :
  ∃ M':Nat->Prop,(∀ b,M' b->(M b\/ownI x b)\/W.heap.size<=b)/\Agr (fun b=>M b\/ownI x b) W (w1.setCell ⟨ob,0,none⟩ (.slice (some ⟨g,0,none⟩) (pre.length+1) cap)) /\
   OutW n0 ob bm most (w1.setCell ⟨ob,0,none⟩ (.slice (some ⟨g,0,none⟩) (pre.length+1) cap)) (pre++[x]) M':=by
 obtain ⟨v0,h1,h2,h3,h4,h5⟩:=h.row
 rw [hc] at h1
 injection h1 with h1
 subst h1
 have hsz:(W.alloc (.cells #[x.1] T)).heap.size=W.heap.size+1:=by simp
 have hs1:W.heap.size+1<=w1.heap.size:=by rw [<- hsz];exact hg.size
 obtain ⟨hsS,hbS⟩:=setCell_blk w1 ⟨ob,0,none⟩ (.slice (some ⟨g,0,none⟩) (pre.length+1) cap)
 have hob:=h.lt ob h.mo
 have hbm:=h.lt bm h.mb
 have hal:∀ b,b<W.heap.size->(W.alloc (.cells #[x.1] T)).heap[b]?=W.heap[b]?:=fun b hb=>Below.heap_alloc W _ b hb
 have hw1:∀ b,b<W.heap.size->v.ownBlock≠some b->w1.heap[b]?=W.heap[b]?:=fun b hb hne=>(hg.block b (by omega) (fun e=>hne e.symm)).trans (hal b hb)
 have hg':v.ownBlock=some g\/W.heap.size<=g:=by
  rcases hl with e | e
  ·exact .inl e.symm
  ·right
   have:some g=some (W.alloc (.cells #[x.1] T)).heap.size:=e
   injection this with this
   omega
 have hgob:ob+1<=g:=(own_lt ho (b:=g) rfl).2
 have hglt:=(own_lt ho (b:=g) rfl).1
 have hvob:v.ownBlock≠some ob:=fun e=>by have:=(own_lt h3 e).2;omega
 have hvbm:v.ownBlock≠some bm:=fun e=>by have:=(own_lt h3 e).2;have:=h.lo;omega
 have hxne:∀ b,ownI x b->b≠ob/\v.ownBlock≠some b:=fun b e=>⟨fun e'=>(hown b e).2 (e' ▸ h.mo),fun e'=>(hown b e).2 (h4 b e')⟩
 have keepX:∀ y:Value×List Int,IsAt W y.1 y.2->(∀ b,y.1.ownBlock=some b->v.ownBlock≠some b/\b≠ob)->IsAt (w1.setCell ⟨ob,0,none⟩ (.slice (some ⟨g,0,none⟩) (pre.length+1) cap)) y.1 y.2:=fun y hy hn =>
  SlAt.ownB hy (by omega) (fun b hb e=>(hbS b (hn b e).2).trans (hw1 b hb (hn b e).1))
 refine ⟨fun b=>M b\/ownI x b\/b=g,fun b hb=>?_,⟨?_,fun b hb hn=>?_⟩,?_⟩
 ·rcases hb with e | e | rfl
  ·exact .inl (.inl e)
  ·exact .inl (.inr e)
  ·rcases hg' with e | e
   ·exact .inl (.inl (h4 b e))
   ·exact .inr e
 ·exact (((Below.refl 0 W).alloc (Nat.zero_le _) _).grown hg (Nat.zero_le _) (fun _ _=>Nat.zero_le _)).setCell (p:=⟨ob,0,none⟩) (Nat.zero_le _) _
 ·exact (hbS b (fun e=>hn (.inl (by dsimp only at e;rw [e];exact h.mo)))).trans (hw1 b hb (fun e=>hn (.inl (h4 b e))))
 ·refine ⟨⟨_,World.cell?_setCell_same _ _ _ (u:=v) ((World.cell?_of_block (a:=⟨ob,0,none⟩) (hw1 ob hob hvob)).trans hc),?_,?_,fun b e=>?_,fun y hy=>?_⟩,?_,.inl h.mo,.inl h.mb,h.lo,h.nb,fun b hb=>?_⟩
  ·rw [World.frozen?_setCell];exact (World.frozen?_of_block (a:=⟨ob,0,none⟩) (hw1 ob hob hvob)).trans h2
  ·rw [List.length_append,List.map_append]
   exact own_block ho (fun b e=>hbS b (fun e'=>by
    have:some g=some b:=e
    injection this with this
    dsimp only at e';omega))
  ·have:some g=some b:=e
   injection this with this
   exact .inr (.inr this.symm)
  ·have hcase:y∈pre\/y=x:=by simpa using hy
   rcases hcase with hy | rfl
   ·refine ⟨keepX y (h5 y hy).1 (fun b e=>((h5 y hy).2 b e).1.2),fun b e=>⟨⟨.inl ((h5 y hy).2 b e).1.1,fun e'=>?_,((h5 y hy).2 b e).1.2.2⟩,((h5 y hy).2 b e).2⟩⟩
    have e2:some g=some b:=e'
    injection e2 with e2
    subst e2
    rcases hg' with e3 | e3
    ·exact ((h5 y hy).2 _ e).1.2.1 e3
    ·have:=h.lt _ ((h5 y hy).2 _ e).1.1;omega
   ·refine ⟨keepX y hx.1 (fun b e=>⟨(hxne b e).2,(hxne b e).1⟩),fun b e=>⟨⟨.inr (.inl e),fun e'=>?_,(hxne b e).1⟩,(hx.2.1 b e).1⟩⟩
    have e2:some g=some b:=e'
    injection e2 with e2
    subst e2
    rcases hg' with e3 | e3
    ·exact (hxne _ e).2 e3
    ·have:=(hown _ e).1;omega
  ·exact (World.cell?_of_block (a:=⟨bm,0,none⟩) ((hbS bm (fun e=>by have:=h.lo;dsimp only at e;omega)).trans (hw1 bm hbm hvbm))).trans h.mc
  ·rw [hsS]
   rcases hb with e | e | rfl
   ·have:=h.lt b e;omega
   ·have:=(hown b e).1;omega
   ·exact hglt
end
end Go.Proofs.YtaekdgikgbdnnaaGreat
