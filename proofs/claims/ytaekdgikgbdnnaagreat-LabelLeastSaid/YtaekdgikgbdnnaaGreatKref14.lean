/-
  The document's search, walked node by node: a node that goes on.
  label.begin, walked, where something is wrong.
-/
import Derived.Test.YtaekdgikgbdnnaaGreatKref13
import Derived.Test.YtaekdgikgbdnnaaGreatKref8
import Derived.Test.YtaekdgikgbdnnaaGreatKref11
namespace Go.Proofs.YtaekdgikgbdnnaaGreat
section
open Go.RowKit
theorem reffix_f {ds:Ds} {ps:List PL} {vds vps:Value} {w:World} (hd:DsAt w vds ds) (hp:PsAt w vps ps) (hin:FixIn ds ps) {R:Option Ds} (hR:FixOf ps ds R):Calls Tryz.prog 49 #[vds,vps] w (RetF R w) :=
 (refFix_c ds ps vds vps w hd hp hin).mono fun _ _ ⟨_,h1,h2⟩=>by rw [fixOf_unique hR h1];exact h2
set_option maxRecDepth 1000000
set_option maxHeartbeats 6400000
theorem node_step (w0:World) (sb most n0 k:Nat) (ap av aw oo:Option Addr) (cp cv cw oc:Nat) (o:SOpt) (ps:List PL) (vars:List Int) (X:List (List Int)) (D:Ds) (W:World) (ao:Option Addr) (c:Nat)
  (hI:NdIn w0 sb (.slice ap ps.length cp) (.slice av vars.length cv) (.slice aw o.ws.length cw) ps vars o most n0) (hk:k<=10000)
  (ih:∀ k',k'<=k->∀ (W:World) (vd vo:Value) (D:Ds) (X:List (List Int)),Below w0.heap.size w0 W->NdW sb (.slice ap ps.length cp) (.slice av vars.length cv) o (.slice aw o.ws.length cw) most W k' false vo X->DsQ (fun b=>b≠sb/\vo.ownBlock≠some b) W vd D->FixIn D ps->D.length=n0->X.length<=most ->
   Calls Tryz.prog 31 #[.pointer (some ⟨sb,0,none⟩),vd] W (NdC ps vars sb (.slice ap ps.length cp) (.slice av vars.length cv) o (.slice aw o.ws.length cw) most W k' vo X D))
  (hb:Below w0.heap.size w0 W) (h:NdW sb (.slice ap ps.length cp) (.slice av vars.length cv) o (.slice aw o.ws.length cw) most W (k+1) false (.slice oo X.length oc) X)
  (hd:DsQ (fun b=>b≠sb/\(Value.slice oo X.length oc).ownBlock≠some b) W (.slice ao D.length c) D) (hf:FixIn D ps) (hl:D.length=n0) (hX:X.length<most) :
  Calls Tryz.prog 31 #[.pointer (some ⟨sb,0,none⟩),.slice ao D.length c] W (NdC ps vars sb (.slice ap ps.length cp) (.slice av vars.length cv) o (.slice aw o.ws.length cw) most W (k+1) (.slice oo X.length oc) X D):=by
 have x9:=h.c9
 have x8:=h.c8
 have x7:W.cell? ⟨sb,7,none⟩=some (.int .i64 ((k:Int)+1)):=by have:=h.c7;simpa using this
 have x6:=h.c6
 have hdec:decide (most<=X.length)=false:=decide_eq_false (by omega)
 obtain ⟨m,hm2⟩:∃ m,most - X.length=m+1:=⟨most - X.length - 1,by omega⟩
 obtain ⟨M,hM⟩:∃ M:Nat->Prop,M=fun b=>b=sb\/(Value.slice oo X.length oc).ownBlock=some b:=⟨_,rfl⟩
 have HM:=hD hM
 have HMI:Hid (∀ b,M b->w0.heap.size<=b):=fun b hb'=>by
  rw [hM] at hb'
  rcases hb' with e | e
  ·rw [e];exact hI.sb
  ·obtain ⟨us,_,h2,_⟩:=h.out
   have:=(own_lt h2 e).2
   have:=hI.sb;omega
 have HQ0:Hid (DsQ (fun b=>¬ M b) W (.slice ao D.length c) D):=hd.weaken (fun b _ hq=>by rw [hM];exact fun e=>e.elim hq.1 hq.2)
 have HI:=hD hI
 have IH:=hD ih
 have HB:=hD hb
 have HW:=hD h
 have HF:=hD hf
 have HL:=hD hl
 have HX:=hD hX
 have HM2:=hD hm2
 have hXm:X.length<=1000:=by have:=hI.most;omega
 clear hI ih hb h hd hf hl hX hm2 hM
 have f7:=HW.out.f7
 unfold NdC
 go_enter Tryz.func31,Tryz.ntmps31
 go_wp2
 go_quiet (fail)
 have hbq:Hid (Below W.heap.size W (W.drewN nq)):=below_drewN (Below.refl _ _) _
 obtain ⟨Wq,hWq⟩:∃ Wq,Wq=W.drewN nq:=⟨_,rfl⟩
 rw [<- hWq] at hbq |-
 have HWq:=hD (HW.out.below hbq.out)
 have y9:=HWq.out.c9
 have y7:Wq.cell? ⟨sb,7,none⟩=some (.int .i64 ((k:Int)+1)):=by have:=HWq.out.c7;simpa using this
 have g7:=HWq.out.f7
 clear hWq x9 x8 x7 x6 f7
 go_upto_region 4 with fail
 obtain ⟨W1,hW1⟩:∃ W1,W1=Wq.setCell ⟨sb,7,none⟩ (.int .i64 k):=⟨_,rfl⟩
 have HA1:Hid (Agr M W W1):=by
  rw [hW1]
  exact (Agr.of_below (M:=M) hbq.out).trans (agr_set (M:=M) Wq ⟨sb,7,none⟩ _ (by rw [HM.out];exact .inl rfl)) (fun _ _ h=>h) (fun _ _ h=>h)
 have HW1:Hid (NdW sb (.slice ap ps.length cp) (.slice av vars.length cv) o (.slice aw o.ws.length cw) most W1 k false (.slice oo X.length oc) X):=by rw [hW1];exact HWq.out.left k
 rw [<- hW1]
 have HQ1:Hid (DsQ (fun b=>¬ M b) W1 (.slice ao D.length c) D):=HQ0.out.on HA1.out.low.size (fun b hb' hq=>HA1.out.same b hb' hq)
 have HB1:Hid (Below w0.heap.size w0 W1):=HB.out.trans (HA1.out.below HB.out.size (fun b=>HMI.out b))
 clear hW1 y9 y7 g7 HWq hbq HQ0 HB
 have z0:=HW1.out.c0
 have hR:=theFix_some HF.out
 have CF0:=reffix_f HQ1.out.at (HI.out.p.below HB1.out) HF.out hR
 generalize hth:theFix ps D=R at *
 have HTH:=hD hth
 clear hth
 rcases R with _ | now
 ·have CF:Hid (Calls Tryz.prog 49 #[.slice ao D.length c,.slice ap ps.length cp] W1 fun e W2=>e=.returned (.tuple #[.slice none 0 0,.bool false])/\Below W1.heap.size W1 W2):=CF0.mono fun e W2 ⟨hb,hh⟩=>by
   rcases hh with ⟨_,_,_,h1,_⟩ | ⟨_,h1⟩
   ·cases h1
   ·exact ⟨h1,hb⟩
  clear CF0 hR
  go_wp2_with (go_at_call 49;(with_reducible refine CF.out.mono ?_);rintro e W2 ⟨rfl,b2⟩;have B2:=hD b2;clear b2)
  refine bodyPost_ret (results_none rfl _ _ _) rfl ?_
  exact ⟨⟨_,rfl⟩,[],k,false,_,by rw [HM2.out,findR,HTH.out];exact findR_nil _ _ _ _ _,by rw [List.append_nil];exact HW1.out.below B2.out,by rw [<- HM.out];exact HA1.out.trans (Agr.of_below (M:=M) B2.out) (fun _ _ h=>h) (fun _ _ h=>h),fun b e=>.inl e⟩
 ·have HNL:Hid (now.length=n0):=hR.1.len.trans HL.out
  have HFN:=hD (HF.out.res hR)
  have HNN:=hD hR.1.nor
  have CF:Hid (Calls Tryz.prog 49 #[.slice ao D.length c,.slice ap ps.length cp] W1 fun e W2=>∃ an cn,e=.returned (.tuple #[.slice an now.length cn,.bool true])/\Below W1.heap.size W1 W2/\DsFrom W1.heap.size W2 (.slice an now.length cn) now):=CF0.mono fun e W2 ⟨hb,hh⟩=>by
   rcases hh with ⟨d,an,cn,h1,h2,h3⟩ | ⟨h1,_⟩
   ·cases h1;exact ⟨an,cn,h2,hb,h3⟩
   ·cases h1
  clear CF0 hR
  have HML:Hid (∀ b,M b->b<W.heap.size):=fun b hb'=>by
   rw [HM.out] at hb'
   rcases hb' with e | e
   ·rw [e];exact HW.out.lt
   ·obtain ⟨us,_,h2,_⟩:=HW.out.out
    exact (own_lt h2 e).1
  have HNEW:Hid (∀ b,W1.heap.size<=b->¬ M b):=fun b hb' hm=>by have:=HML.out b hm;have:=HA1.out.low.size;omega
  go_upto_region 6 with (go_at_call 49;(with_reducible refine CF.out.mono ?_);rintro e W2 ⟨an,cn,rfl,b2,d2⟩;have B2:=hD b2;have HND:Hid (DsQ (fun b=>¬ M b) W2 (.slice an now.length cn) now):=d2.good HNEW.out;clear b2 d2)
  have HW2:=hD (HW1.out.below B2.out)
  have HB2:=hD (bT HB1.out B2.out)
  have hbw:=HB2.out
  have VW:=HI.out.v.below hbw
  have WW:=HI.out.w.below hbw
  have hnd:=HND.out.at
  have hns4:=allN_short' HNN.out
  have hse:=HI.out.sel
  have hvl:=HI.out.vl
  have CC0:∀ q:QG W2,Calls Tryz.prog 50 #[.slice an now.length cn,.slice av vars.length cv,.agg #[.int .i64 o.sel,.int .i64 o.ord,.int .i64 o.br,.slice aw o.ws.length cw]] q.1 fun e w'=>e=.returned (.int .i64 (bestI (chooseL now vars o.sel o.ws vars.length)))/\Below q.1.heap.size q.1 w':=fun q=>refChoose_c _ _ _ o.sel o.ord o.br now vars o.ws q.1 (hnd.below q.2) (VW.below q.2) (WW.below q.2) hns4 hse (by omega)
  have k1':=qb_cell HW2.out.c1
  have k2':=qb_cell HW2.out.c2
  have k3':=qb_cell HW2.out.c3
  have k4':=qb_cell HW2.out.c4
  have k5':=qb_cell HW2.out.c5
  clear z0 HQ1 VW WW hnd hns4 hse hbw CF
  cases hc:chooseL now vars o.sel o.ws vars.length with
  | none =>
   rw [hc] at CC0
   have CC:Hid (∀ q:QG W2,Calls Tryz.prog 50 #[.slice an now.length cn,.slice av vars.length cv,.agg #[.int .i64 o.sel,.int .i64 o.ord,.int .i64 o.br,.slice aw o.ws.length cw]] q.1 fun e w'=>e=.returned (.int .i64 (-1))/\Below q.1.heap.size q.1 w'):=CC0
   have HFR:Hid (findR ps vars o (most - X.length) (k+1) [D]=([vars.map (fun v=>(endsL (norm (domOf now v))).1)],k,false)):=by
    show _=_
    rw [HM2.out,findR,HTH.out]
    dsimp only
    rw [hc]
    dsimp only
    rw [findR_nil]
   clear CC0 hc
   refine wp_region_below (by kernel_rfl) (by kernel_rfl) ?_
   repeat (go_big_quiet_step ((go_at_call 50;with_reducible exact qb_call _ (CC.out _))))
   refine wpQuiet_nil ?_
   intro W3 hw3
   have B3:=hD hw3.below
   have HW3:=hD (HW2.out.below B3.out)
   have HB3:=hD (bT HB2.out B3.out)
   have HND3:=hD (HND.out.below B3.out)
   have HA3:Hid (Agr M W W3):=HA1.out.trans (Agr.of_below (M:=M) (bT B2.out B3.out)) (fun _ _ h=>h) (fun _ _ h=>h)
   clear k1' k2' k3' k4' k5' hw3 CC HW1 HW2 HND HA1 B2 B3 HB1 HB2 IH HFN HNEW HTH
   obtain ⟨i0,hi,hz0,hz1,hz2⟩:=info_parts Tryz.infoIntR
   obtain ⟨i1,hi1,hy0,hy1,hy2⟩:=info_parts Tryz.infoInts
   have HV3:=hD (HI.out.v.below HB3.out)
   have HVI:=hD HI.out.vin
   obtain ⟨f,hf⟩:∃ f:Int->Int,f=fun v=>(endsL (norm (domOf now v))).1:=⟨_,rfl⟩
   have HF0:=hD hf
   have HX0:Hid ((W3.alloc (.cells #[] 3)).ownsRow W3.heap.size 3 1 (.slice (some ⟨W3.heap.size,0,none⟩) 0 0) 0 []):=World.ownsRow_made W3 #[] 0 (rN _) (by decide) rfl
   have HBA:Hid (∀ o,Below W3.heap.size W3 (W3.alloc o)):=fun o=>(Below.refl _ _).alloc (rN _) o
   clear hf
   go_wp2
   go_loopw [7,8] (fun v s wr=>∃ j:Nat,j<=vars.length/\s=.int .i64 j/\Hid (wr.ownsRow W3.heap.size 3 1 v j ((vars.take j).map fun x=>Value.int .i64 (f x)))/\Hid (Below W3.heap.size W3 wr)) (fun _ s _=>vars.length - (intOf s).toNat)
   case atStart=>exact ⟨0,by omega,rfl,HX0,HBA.out _⟩
   case round =>
    clear HX0 HBA
    obtain ⟨j,hj,rfl,HXR,HBR⟩:=hrel
    have hle:=HBR.out.size
    have HWr:=hD (HW3.out.below HBR.out)
    have w1:=HWr.out.c1
    by_cases hlt:j<vars.length
    ·obtain ⟨bv,ov,rfl,q1,q2,xv⟩:=IsAt.getR (HV3.out.below HBR.out) j hlt
     have j1:(j:Int)<vars.length:=by omega
     have hvt:=HVI.out _ (List.getElem_mem hlt)
     have HST:Hid (((vars.take (j+1)).map fun x=>Value.int .i64 (f x))=((vars.take j).map fun x=>Value.int .i64 (f x))++[Value.int .i64 (f vars[j])]):=by
      show _=_
      rw [List.take_succ_eq_append_getElem hlt,List.map_append];rfl
     obtain ⟨nv,hnv⟩:=Int.eq_ofNat_of_zero_le hvt.1
     rw [hnv] at xv HST hvt
     have hn1:nv<now.length:=by have:=hvt.2;have:=HNL.out;omega
     obtain ⟨b,off,a5,c5,hen,_,q5,hq5,hc5,r5⟩:=(HND3.out.below HBR.out).at.get nv hn1
     clear hq5
     subst hen
     have j2:(nv:Int)<now.length:=by omega
     have hfv:f (nv:Int)=(endsL (norm now[nv])).1:=by rw [HF0.out];dsimp only;rw [domOf_nat hn1]
     have CE:=hD (refEnds_c _ now[nv] wr r5 (allN_short' HNN.out _ (List.getElem_mem hn1)))
     rw [hfv] at HST
     clear hfv hvt hnv r5
     generalize now[nv]=d at *
     unfold endV at CE
     generalize (endsL (norm d)).2.2=ok at *
     generalize (endsL (norm d)).1=lo at *
     generalize (endsL (norm d)).2.1=hi' at *
     have hjl:j<=64:=by omega
     generalize hPR:((vars.take j).map fun x=>Value.int .i64 (f x))=PR at *
     clear hPR
     obtain ⟨xa,xc,rfl,_⟩:=(SlAt.of_own HXR.out).shape
     go_wp2_with (first
      | (go_at_call 51;(with_reducible refine CE.out.mono ?_);rintro e W4 ⟨rfl,b4⟩;have HX4:=hD (own_below HXR.out b4);have HB4:=hD (HBR.out.trans (b4.mono hle));have hle4:=HB4.out.size;clear b4)
      | (at_builtin;refine wpList_append1L rfl (.tmp 94) (.tmp 96) 26 rfl W3.heap.size 3 i0 (.int .i64 0) 8 Tryz.underlying26 hi hz0 hz1 hz2 rfl _ _ _ rfl HX4.out _ rfl rfl (by omega) hle4 ?_;intro g5 cap5 w5 o5 b5 k5 g5';have O5:=hD o5;have B5:=hD b5;clear o5 b5 k5 g5'))
     refine ⟨⟨j+1,by omega,by go_num,?_,hD (HB4.out.trans B5.out)⟩,by simp [intOf];omega⟩
     rw [HST.out]
     exact O5
    ·obtain rfl:j=vars.length:=by omega
     rw [List.take_length] at HXR
     have HAr:Hid (Agr M W wr):=HA3.out.trans (Agr.of_below (M:=M) HBR.out) (fun _ _ h=>h) (fun _ _ h=>h)
     obtain ⟨xa,xc,rfl,_⟩:=(SlAt.of_own HXR.out).shape
     have HXI:Hid (IsAt wr (.slice xa vars.length xc) (vars.map f)):=by
      show SlAt _ _ _ _ _
      rw [List.length_map,List.map_map]
      exact SlAt.of_own HXR.out
     obtain ⟨us,u1,u2,u3⟩:=HWr.out.out
     have HU:Hid (∀ b,(Value.slice xa vars.length xc).ownBlock=some b->sb+1<=b/\b<wr.heap.size/\(Value.slice oo X.length oc).ownBlock≠some b):=fun b e=>by
      have h1:=own_lt HXR.out e
      have h2:=HW3.out.lt
      refine ⟨by omega,h1.1,fun e'=>?_⟩
      have h3:=HML.out b (by rw [HM.out];exact .inr e')
      have h4:=HA3.out.low.size
      omega
     have H1:=hD u1
     have H2:=hD u2
     have H3:=hD u3
     have hsb:=HWr.out.lt
     have w8:=HWr.out.c8
     have g8:=HWr.out.f8
     have w8a:∀ o,(wr.alloc o).cell? ⟨sb,8,none⟩=some (.slice oo X.length oc):=fun o=>Lib.cell?_alloc_some o w8
     clear u1 u2 u3 HXR HV3 HVI HND3 HNN HNL hj
     go_wp2_with (at_builtin;refine wpList_append1L rfl (.tmp 102) (.tmp 104) 32 rfl (sb+1) 26 i1 (.slice none 0 0) 24 Tryz.underlying32 hi1 hy0 hy1 hy2 rfl _ _ _ rfl H2.out _ rfl rfl (by omega) hsb ?_;intro g5 cap5 w5 o5 b5 k5 g5';have O5:=hD o5;have B5:=hD b5;have K5:=hD k5;have G5:=hD g5';have m8:=(b5.cell (p:=⟨sb,8,none⟩) (Nat.lt_succ_self _)).trans w8;have mf8:=(b5.frozen (p:=⟨sb,8,none⟩) (Nat.lt_succ_self _)).trans g8;clear o5 b5 k5 g5')
     refine bodyPost_ret (results_none rfl _ _ _) rfl ?_
     have hLN:=LsN.push H1.out H2.out H3.out HXI.out HU.out O5.out K5.out B5.out.size G5.out
     have hA5:Agr M wr (w5.setCell ⟨sb,8,none⟩ (.slice (some ⟨g5,0,none⟩) (X.length+1) cap5)):=⟨(B5.out.mono (Nat.zero_le _)).setCell (p:=⟨sb,8,none⟩) (Nat.zero_le _) _,fun b hb' hn=>by
      rw [HM.out] at hn
      exact ((setCell_blk w5 ⟨sb,8,none⟩ _).2 b (fun e=>hn (.inl e))).trans (K5.out b hb' (fun e=>hn (.inr e)))⟩
     exact ⟨⟨_,rfl⟩,[vars.map f],k,false,_,by rw [HFR.out,HF0.out],HWr.out.pushed B5.out hLN,by rw [<- HM.out];exact HAr.out.trans hA5 (fun _ _ h=>h) (fun _ _ h=>h),fun b e=>by
      have e2:some g5=some b:=e
      injection e2 with e2
      subst e2
      exact G5.out.imp id (fun h=>by have:=HAr.out.low.size;omega)⟩
  | some i =>
   rw [hc] at CC0
   have CC:Hid (∀ q:QG W2,Calls Tryz.prog 50 #[.slice an now.length cn,.slice av vars.length cv,.agg #[.int .i64 o.sel,.int .i64 o.ord,.int .i64 o.br,.slice aw o.ws.length cw]] q.1 fun e w'=>e=.returned (.int .i64 i)/\Below q.1.heap.size q.1 w'):=CC0
   have hil:i<vars.length:=chooseL_lt _ _ _ _ _ _ hc
   have hsz:=choose_some hc
   have HFR:Hid (findR ps vars o (most - X.length) (k+1) [D]=findR ps vars o (most - X.length) k [(partAt now (vars.getD i 0).toNat o).1,(partAt now (vars.getD i 0).toNat o).2]):=by
    show _=_
    rw [HM2.out,findR,HTH.out]
    dsimp only
    rw [hc]
   clear CC0 hc
   refine wp_region_below (by kernel_rfl) (by kernel_rfl) ?_
   repeat (go_big_quiet_step ((go_at_call 50;with_reducible exact qb_call _ (CC.out _))))
   refine wpQuiet_nil ?_
   intro W3 hw3
   have B3:=hD hw3.below
   have HW3:=hD (HW2.out.below B3.out)
   have HB3:=hD (bT HB2.out B3.out)
   have HND3:=hD (HND.out.below B3.out)
   have HA3:Hid (Agr M W W3):=HA1.out.trans (Agr.of_below (M:=M) (bT B2.out B3.out)) (fun _ _ h=>h) (fun _ _ h=>h)
   have HN3:Hid (∀ b,W3.heap.size<=b->¬ M b):=fun b hb'=>HNEW.out b (Nat.le_trans (bT B2.out B3.out).size hb')
   clear k1' k2' k3' k4' k5' hw3 CC HW1 HW2 HND HA1 B2 B3 HB1 HB2 HTH HNEW
   have hvt:=HI.out.vin _ (List.getElem_mem hil)
   have hvl:=HI.out.vl
   obtain ⟨nv,hnv⟩:=Int.eq_ofNat_of_zero_le hvt.1
   rw [hnv] at hvt
   have hvd:(vars.getD i 0).toNat=nv:=by rw [List.getD_eq_getElem?_getD,List.getElem?_eq_getElem hil];show vars[i].toNat=nv;rw [hnv,Int.toNat_natCast]
   have hvd2:vars.getD i 0=(nv:Int):=by rw [List.getD_eq_getElem?_getD,List.getElem?_eq_getElem hil];exact hnv
   have hn1:nv<now.length:=by have:=hvt.2;have:=HNL.out;omega
   obtain ⟨bv,ov,rfl,q1,q2,xv⟩:=IsAt.getR (HI.out.v.below HB3.out) i hil
   rw [hnv] at xv
   obtain ⟨b,off,a5,c5,hen,_,q5,hq5,hc5,r5⟩:=HND3.out.at.get nv hn1
   clear hq5
   subst hen
   have j1:(i:Int)<vars.length:=by omega
   have j2:(nv:Int)<now.length:=by omega
   have hgd:now.getD nv []=now[nv]:=by rw [List.getD_eq_getElem?_getD,List.getElem?_eq_getElem hn1];rfl
   have HPT2:=HFR.out
   rw [hvd] at HPT2
   unfold partAt at HPT2
   rw [hgd] at HPT2
   dsimp only at HPT2
   rw [hvd2,domAt_nat,hgd] at hsz
   have hdl:=allN_short' HNN.out _ (List.getElem_mem hn1)
   have HR5:=hD r5
   have HOR:=HI.out.ord
   have HBR:=HI.out.br
   obtain ⟨hnA,hnB⟩:=split_normal now[nv] o.ord o.br
   have HFA:=hD (HFN.out.set HNN.out hnA nv)
   have HFB:=hD (HFN.out.set HNN.out hnB nv)
   have HLA:Hid ((now.set nv (splitL now[nv] o.ord o.br).1).length=n0):=by show _=_;rw [List.length_set];exact HNL.out
   have HLB:Hid ((now.set nv (splitL now[nv] o.ord o.br).2).length=n0):=by show _=_;rw [List.length_set];exact HNL.out
   have CS:Hid (∀ W,Below W3.heap.size W3 W->Calls Tryz.prog 52 #[.slice a5 now[nv].length c5,.agg #[.int .i64 o.sel,.int .i64 o.ord,.int .i64 o.br,.slice aw o.ws.length cw]] W fun e W4=>∃ a1 c1 a2 c2,e=.returned (.tuple #[.slice a1 (splitL now[nv] o.ord o.br).1.length c1,.slice a2 (splitL now[nv] o.ord o.br).2.length c2])/\RgAt W4 (.slice a1 (splitL now[nv] o.ord o.br).1.length c1) (splitL now[nv] o.ord o.br).1/\RgAt W4 (.slice a2 (splitL now[nv] o.ord o.br).2.length c2) (splitL now[nv] o.ord o.br).2/\Below W3.heap.size W3 W4/\(∀ b,(Value.slice a1 (splitL now[nv] o.ord o.br).1.length c1).ownBlock=some b->W3.heap.size<=b)/\∀ b,(Value.slice a2 (splitL now[nv] o.ord o.br).2.length c2).ownBlock=some b->W3.heap.size<=b):=fun W h =>
    (refSplit_c _ _ o.sel o.ord o.br now[nv] W (HR5.out.below h) hdl HOR HBR _ _ _ rfl).mono fun e W4 ⟨a1,c1,a2,c2,h1,h2,h3,h4,h5,h6⟩=>⟨a1,c1,a2,c2,h1,h2,h3,bT h h4,fun b e=>Nat.le_trans h.size (h5 b e),fun b e=>Nat.le_trans h.size (h6 b e)⟩
   have HPT3:=hD HPT2
   clear HFR HPT2 hnA hnB r5 hgd hvd hvd2 hnv hvt hsz hdl HOR HBR
   generalize (splitL now[nv] o.ord o.br).1=A at *
   generalize (splitL now[nv] o.ord o.br).2=B at *
   generalize now[nv]=d at *
   have z1:W3.cell? ⟨sb,1,none⟩=some (.slice (some ⟨bv,ov,none⟩) vars.length cv):=HW3.out.c1
   have HSW:Hid (∀ W',Below W3.heap.size W3 W'->W'.cell? ⟨b,off+nv,none⟩=some (.slice a5 d.length c5)/\W'.cell? ⟨sb,2,none⟩=some (.int .i64 o.sel)/\W'.cell? ⟨sb,3,none⟩=some (.int .i64 o.ord)/\W'.cell? ⟨sb,4,none⟩=some (.int .i64 o.br)/\W'.cell? ⟨sb,5,none⟩=some (.slice aw o.ws.length cw)):=fun W' h =>
    have h1:=(HW3.out.below h)
    ⟨(h.cell (p:=⟨b,off+nv,none⟩) q5).trans hc5,h1.c2,h1.c3,h1.c4,h1.c5⟩
   obtain ⟨s0,s2,s3,s4,s5⟩:=HSW.out W3 (Below.refl _ _)
   clear hc5
   go_wp2
   go_region_held3 (fun W'=>W'.cell? ⟨b,off+nv,none⟩=some (.slice a5 d.length c5)/\W'.cell? ⟨sb,2,none⟩=some (.int .i64 o.sel)/\W'.cell? ⟨sb,3,none⟩=some (.int .i64 o.ord)/\W'.cell? ⟨sb,4,none⟩=some (.int .i64 o.br)/\W'.cell? ⟨sb,5,none⟩=some (.slice aw o.ws.length cw)) ((first | exact HSW.out _ P4.out | (refine HSW.out _ ?_;go_grown)))
    (first | (go_at_call 52;refine (CS.out _ ?_).mono ?_;(·go_grown);rintro e W4 ⟨a6,c6,a7,c7,rfl,r6,r7,bw,n6,n7⟩;have P4:=hD bw;have R6:=hD r6;have R7:=hD r7;have N6:=hD n6;have N7:=hD n7;clear bw r6 r7 n6 n7))
   clear s0 s2 s3 s4 s5 HSW CS HR5
   have HW4:=hD (HW3.out.below P4.out)
   have HB4:=hD (bT HB3.out P4.out)
   have HA4:Hid (Agr M W W4):=HA3.out.trans (Agr.of_below (M:=M) P4.out) (fun _ _ h=>h) (fun _ _ h=>h)
   have HND4:=hD (HND3.out.below P4.out)
   have RA:Hid (RgQ (fun b=>¬ M b) W4 (.slice a6 A.length c6) A):=RgQ.of_new R6.out N6.out HN3.out
   have RB:Hid (RgQ (fun b=>¬ M b) W4 (.slice a7 B.length c7) B):=RgQ.of_new R7.out N7.out HN3.out
   have hnl4:now.length<=4096:=by have:=HFN.out.n;omega
   have HN4:Hid (∀ b,W4.heap.size<=b->¬ M b):=fun b hb'=>HN3.out b (Nat.le_trans P4.out.size hb')
   have HFI2:=HI.out
   have CWA:Hid (Calls Tryz.prog 35 #[.slice (some ⟨b,off,none⟩) now.length cn,.int .i64 nv,.slice a6 A.length c6] W4 fun e W5=>∃ g5 c5,e=.returned (.slice (some ⟨g5,0,none⟩) now.length c5)/\Below W4.heap.size W4 W5 /\
     Calls Tryz.prog 31 #[.pointer (some ⟨sb,0,none⟩),.slice (some ⟨g5,0,none⟩) now.length c5] W5 (NdC ps vars sb (.slice ap ps.length cp) (.slice (some ⟨bv,ov,none⟩) vars.length cv) o (.slice aw o.ws.length cw) most W5 k (.slice oo X.length oc) X (now.set nv A))) :=
    (refWith_c _ _ nv _ now A W4 HND4.out RA.out hn1 hnl4).mono fun e W5 ⟨g5,c5,us5,he,i5,b5⟩=>⟨g5,c5,he,b5,IH.out k (rN _) W5 _ _ _ X (bT HB4.out b5) (HW4.out.below b5)
     ((i5.q HN4.out).weaken (fun b _ hn=>by rw [HM.out] at hn;exact ⟨fun e=>hn (.inl e),fun e=>hn (.inr e)⟩)) HFA.out HLA.out (Nat.le_of_lt HX.out)⟩
   clear HN3 HND3 R6 R7 N6 N7 HW3 HB3 HA3 xv z1 j2 RA P4 HFI2
   go_upto_region 18 with (first
    | (go_at_call 35;(with_reducible refine CWA.out.mono ?_);rintro e W5 ⟨g5,c5',rfl,b5,cn5⟩;have B5:=hD b5;have CN5:=hD cn5;clear b5 cn5)
    | (go_at_call 31;(with_reducible refine CN5.out.mono ?_);rintro e W6 ⟨⟨rv,rfl⟩,L1,n1,ov1,vo1,f1,w6,a6',g6⟩;have F1:=hD f1;have HW6:=hD w6;have A6:=hD a6';have G6:=hD g6;clear f1 w6 a6' g6))
   clear CWA CN5
   rw [<- HM.out] at A6
   have HND5:=hD (HND4.out.below B5.out)
   have RB5:=hD (RB.out.below B5.out)
   have HA5:Hid (Agr M W W5):=HA4.out.trans (Agr.of_below (M:=M) B5.out) (fun _ _ h=>h) (fun _ _ h=>h)
   have HA6:Hid (Agr M W W6):=HA5.out.trans A6.out (fun _ _ h=>h) (fun _ _ h=>h)
   have HB6:Hid (Below w0.heap.size w0 W6):=(bT HB4.out B5.out).trans (A6.out.below (bT HB4.out B5.out).size (fun b=>HMI.out b))
   have hws:=HA5.out.low.size
   obtain ⟨Q,hQ⟩:∃ Q:Nat->Prop,Q=fun b=>¬ M b/\vo1.ownBlock≠some b:=⟨_,rfl⟩
   have HQ:=hD hQ
   have hq5:∀ b,b<W5.heap.size->¬ M b->Q b:=fun b hb hn=>by
    rw [hQ]
    refine ⟨hn,fun e=>?_⟩
    rcases G6.out b e with h | h
    ·exact hn (by rw [HM.out];exact .inr h)
    ·omega
   have hon:∀ b,b<W5.heap.size->Q b->W6.heap[b]?=W5.heap[b]?:=fun b hb hq=>A6.out.same b hb (by rw [hQ] at hq;exact hq.1)
   have HND6:Hid (DsQ Q W6 (.slice (some ⟨b,off,none⟩) now.length cn) now):=(HND5.out.weaken hq5).on A6.out.low.size hon
   have RB6:Hid (RgQ Q W6 (.slice a7 B.length c7) B):=(RB5.out.weaken hq5).on A6.out.low.size hon
   have HG:Hid (∀ b,vo1.ownBlock=some b->(Value.slice oo X.length oc).ownBlock=some b\/W.heap.size<=b):=fun b e=>(G6.out b e).imp id (fun h=>by omega)
   have CWB0:=refWith_c Q _ nv _ now B W6 HND6.out RB6.out hn1 hnl4
   obtain ⟨oo1,oc1,rfl,_⟩:=HW6.out.out.shape
   clear HND4 HND5 RB RB5 HND6 RB6 HA4 HA5 HW4 HB4 A6 B5 HFA HLA hQ hq5 hon hws HN4 G6
   cases ov1 with
   | true =>
    have CWB:Hid (Calls Tryz.prog 35 #[.slice (some ⟨b,off,none⟩) now.length cn,.int .i64 nv,.slice a7 B.length c7] W6 fun e W7=>∃ g7 c7,e=.returned (.slice (some ⟨g7,0,none⟩) now.length c7)/\Below W6.heap.size W6 W7 /\
      Calls Tryz.prog 31 #[.pointer (some ⟨sb,0,none⟩),.slice (some ⟨g7,0,none⟩) now.length c7] W7 fun e W8=>(∃ v,e=.returned v)/\Below W7.heap.size W7 W8) :=
     CWB0.mono fun e W7 ⟨g7,c7,us7,he,i7,b7⟩=>⟨g7,c7,he,b7,node_over sb most n1 _ _ _ _ o _ W7 _ _ _ (HW6.out.below b7)⟩
    clear CWB0
    go_wp2_with (first
     | (go_at_call 35;(with_reducible refine CWB.out.mono ?_);rintro e W7 ⟨g7,c7',rfl,b7,cn7⟩;have B7:=hD b7;have CN7:=hD cn7;clear b7 cn7)
     | (go_at_call 31;(with_reducible refine CN7.out.mono ?_);rintro e W8 ⟨⟨rv8,rfl⟩,b8⟩;have B8:=hD b8;clear b8))
    go_end0
    have hb8:Below W6.heap.size W6 W8:=bT B7.out B8.out
    exact ⟨⟨_,rfl⟩,L1,n1,true,_,by rw [HPT3.out];exact findR_two_over ps vars o k _ _ _ F1.out,HW6.out.below hb8,by rw [<- HM.out];exact HA6.out.trans (Agr.of_below (M:=M) hb8) (fun _ _ h=>h) (fun _ _ h=>h),HG.out⟩
   | false =>
    have hn1k:n1<=k:=by
     have:=(findR_less ps vars o k (most - X.length) [now.set nv A]).1
     rw [F1.out] at this
     exact this
    have hXL:(X++L1).length<=most:=by
     have:=findR_le ps vars o k (most - X.length) [now.set nv A]
     rw [F1.out] at this
     have h2:=HX.out
     rw [List.length_append]
     dsimp only at this
     omega
    have HL1:=hD (HW6.out.out)
    have hnewQ:∀ b,W6.heap.size<=b->Q b:=fun b hb'=>by
     rw [HQ.out]
     refine ⟨fun hm=>?_,fun e=>?_⟩
     ·have h1:=HML.out b hm
      have h2:=HA6.out.low.size
      omega
     ·obtain ⟨us,_,h2,_⟩:=HL1.out
      have:=(own_lt h2 e).1
      omega
    have CWB:Hid (Calls Tryz.prog 35 #[.slice (some ⟨b,off,none⟩) now.length cn,.int .i64 nv,.slice a7 B.length c7] W6 fun e W7=>∃ g7 c7,e=.returned (.slice (some ⟨g7,0,none⟩) now.length c7)/\Below W6.heap.size W6 W7 /\
      Calls Tryz.prog 31 #[.pointer (some ⟨sb,0,none⟩),.slice (some ⟨g7,0,none⟩) now.length c7] W7 (NdC ps vars sb (.slice ap ps.length cp) (.slice (some ⟨bv,ov,none⟩) vars.length cv) o (.slice aw o.ws.length cw) most W7 n1 (.slice oo1 (X++L1).length oc1) (X++L1) (now.set nv B))) :=
     CWB0.mono fun e W7 ⟨g7,c7,us7,he,i7,b7⟩=>⟨g7,c7,he,b7,IH.out n1 hn1k W7 _ _ _ (X++L1) (bT HB6.out b7) (HW6.out.below b7)
      ((i7.q hnewQ).weaken (fun b _ hq=>by rw [HQ.out] at hq;exact ⟨fun e=>hq.1 (by rw [HM.out];exact .inl e),hq.2⟩)) HFB.out HLB.out hXL⟩
    clear CWB0 hnewQ
    go_wp2_with (first
     | (go_at_call 35;(with_reducible refine CWB.out.mono ?_);rintro e W7 ⟨g7,c7',rfl,b7,cn7⟩;have B7:=hD b7;have CN7:=hD cn7;clear b7 cn7)
     | (go_at_call 31;(with_reducible refine CN7.out.mono ?_);rintro e W8 ⟨⟨rv8,rfl⟩,L2,n2,ov2,vo2,f2,w8,a8,g8⟩;have F2:=hD f2;have HW8:=hD w8;have A8:=hD a8;have G8:=hD g8;clear f2 w8 a8 g8))
    go_end0
    have hsz:=HA6.out.low.size
    have h7:=B7.out.size
    refine ⟨⟨_,rfl⟩,L1++L2,n2,ov2,vo2,?_,?_,?_,fun b e=>?_⟩
    ·rw [HPT3.out,findR_two ps vars o k _ _ _ F1.out]
     have h:=F2.out
     rw [List.length_append,Nat.sub_add_eq] at h
     rw [h]
    ·rw [<- List.append_assoc];exact HW8.out
    ·rw [<- HM.out]
     exact (HA6.out.trans (Agr.of_below (M:=M) B7.out) (fun _ _ h=>h) (fun _ _ h=>h)).trans A8.out (fun _ _ h=>h) (fun b hb' e=>by
      rw [HM.out]
      rcases e with e | e
      ·exact .inl e
      ·exact (HG.out b e).imp_left (fun h=>h) |>.elim .inr (fun h=>by omega))
    ·rcases G8.out b e with h | h
     ·exact HG.out b h
     ·exact .inr (by omega)
theorem node_all (w0:World) (sb most n0:Nat) (vps vv vw:Value) (o:SOpt) (ps:List PL) (vars:List Int) (hI:NdIn w0 sb vps vv vw ps vars o most n0):∀ k,k<=10001->∀ (W:World) (vd vo:Value) (D:Ds) (X:List (List Int)),Below w0.heap.size w0 W->NdW sb vps vv o vw most W k false vo X->DsQ (fun b=>b≠sb/\vo.ownBlock≠some b) W vd D->FixIn D ps->D.length=n0->X.length<=most ->
  Calls Tryz.prog 31 #[.pointer (some ⟨sb,0,none⟩),vd] W (NdC ps vars sb vps vv o vw most W k vo X D):=by
 obtain ⟨ap,cp,rfl,_⟩:=hI.p.shape
 obtain ⟨av,cv,rfl,_⟩:=hI.v.shape'
 obtain ⟨aw,cw,rfl,_⟩:=hI.w.shape'
 intro k
 induction k using Nat.strongRecOn with
 | ind k ih =>
  intro hk W vd vo D X hb h hd hf hl hX
  obtain ⟨ao,c,rfl,_⟩:=hd.at.shape
  by_cases hs:most<=X.length\/k=0
  ·exact node_stop w0 sb most k _ _ _ vo o ps vars X D W ao _ c h hs hX
  ·obtain ⟨oo,oc,rfl,_⟩:=h.out.shape
   rcases k with _ | k
   ·exact absurd (Or.inr rfl) hs
   ·exact node_step w0 sb most n0 k ap av aw oo cp cv cw oc o ps vars X D W ao c hI (by omega) (fun k' hk'=>ih k' (by omega) (by omega)) hb h hd hf hl (by omega)
def begChk (sel ord br:Int) (nw n:Nat) (ps:List PL) (vars:List Int) (most nodes:Int):Int :=
 if labChk sel ord br nw≠0 then labChk sel ord br nw else if fixChk n ps≠0 then fixChk n ps else if 64<vars.length\/vars.any (labOdd n)=true then 160 else if most<1\/1000<most\/nodes<1\/10000<nodes then 1 else 0
theorem begin_bad (vds vps vv vw:Value) (sel ord br:Int) (ds:Ds) (ps:List PL) (vars ws:List Int) (most nodes:Int) (w:World) (hd:DsAt w vds ds) (hp:PsAt w vps ps) (hv:IsAt w vv vars) (hw:IsAt w vw ws)
  (hok:∀ p∈ps,p.ok) (hvl:vars.length<=4096) (hbad:begChk sel ord br ws.length ds.length ps vars most nodes≠0) :
  Calls Tryz.prog 26 #[vds,vps,vv,.agg #[.int .i64 sel,.int .i64 ord,.int .i64 br,vw],.int .i64 most,.int .i64 nodes] w fun e w' =>
   e=.returned (.tuple #[.pointer none,.int .i64 (begChk sel ord br ws.length ds.length ps vars most nodes)])/\Below w.heap.size w w':=by
 obtain ⟨a0,c0,rfl,_⟩:=hd.shape
 obtain ⟨a1,c1,rfl,_⟩:=hp.shape
 obtain ⟨a2,c2,rfl,_⟩:=hv.shape'
 obtain ⟨a3,c3,rfl,_⟩:=hw.shape'
 have HA1:Hid (Below w.heap.size w (w.alloc (.cells #[.slice a0 ds.length c0] 22))):=bA _
 obtain ⟨W0,hW0⟩:∃ W0,W0=(w.alloc (.cells #[.slice a0 ds.length c0] 22)).alloc (.cells #[.int .i64 sel,.int .i64 ord,.int .i64 br,.slice a3 ws.length c3] 28):=⟨_,rfl⟩
 have B0:Hid (Below w.heap.size w W0):=by rw [hW0];exact bL HA1.out _
 have hB1:BoxL W0 (w.heap.size+1) [.int .i64 sel,.int .i64 ord,.int .i64 br,.slice a3 ws.length c3]:=by
  have:=BoxL.mk' (w.alloc (.cells #[.slice a0 ds.length c0] 22)) #[.int .i64 sel,.int .i64 ord,.int .i64 br,.slice a3 ws.length c3] 28
  rw [hW0]
  rwa [show (w.alloc (.cells #[.slice a0 ds.length c0] 22)).heap.size=w.heap.size+1 by simp] at this
 have HB1:=hD hB1
 have hbl1:=hB1.lt (by simp)
 have hx0:W0.cell? ⟨w.heap.size,0,none⟩=some (.slice a0 ds.length c0):=by
  rw [hW0]
  exact Lib.cell?_alloc_some _ ((BoxL.mk' w #[.slice a0 ds.length c0] 22).get 0 rfl).1
 have HX0:=hD hx0
 have CL:=hD (labCheck_c sel ord br a3 ws.length c3 W0)
 have CF:Hid (∀ W,Below W0.heap.size W0 W->Calls Tryz.prog 39 #[.slice a0 ds.length c0,.slice a1 ps.length c1] W fun e w'=>e=.returned (.int .i64 (fixChk ds.length ps))/\Below W.heap.size W w'):=fun W h=>by
  have hb:=bT B0.out h
  exact fixCheck_c (.slice a0 ds.length c0) (.slice a1 ps.length c1) ds ps W (hd.below hb) (hp.below hb) (fun j hj=>hok _ (List.getElem_mem hj))
 have CO:Hid (∀ W,Below W0.heap.size W0 W->Calls Tryz.prog 41 #[.slice a2 vars.length c2,.func (.func 40) #[] #[.pointer (some ⟨w.heap.size,0,none⟩)]] W fun e w'=>e=.returned (.bool (vars.any (labOdd ds.length)))/\W=w'):=fun W h=>by
  exact containsLabOdd_any w.heap.size a0 ds.length c0 (.slice a2 vars.length c2) vars W ((h.cell (p:=⟨w.heap.size,0,none⟩) (by dsimp only;omega)).trans HX0.out) (hv.below (bT B0.out h)) (by omega)
 obtain ⟨l0,_⟩:=hB1.get 0 rfl
 obtain ⟨l1,_⟩:=hB1.get 1 rfl
 obtain ⟨l2,_⟩:=hB1.get 2 rfl
 obtain ⟨l3,_⟩:=hB1.get 3 rfl
 have HWE:=hD hW0
 clear hd hp hv hw hok hW0 HA1 hB1
 unfold begChk at hbad |-
 by_cases q1:labChk sel ord br ws.length≠0
 ·rw [if_pos q1]
  have e1:(labChk sel ord br ws.length != 0)=true:=by simpa using q1
  clear hbad q1
  generalize labChk sel ord br ws.length=kk at *
  go_enter Tryz.func26,Tryz.ntmps26
  go_upto_region 1 with fail
  rw [<- HWE.out]
  go_wp2_with (first
   | (go_at_call 12;(with_reducible refine CL.out.mono ?_);rintro e W1 ⟨rfl,b1⟩;have B1:=hD b1;have y0:=(b1.cell (p:=⟨w.heap.size,0,none⟩) (by dsimp only;omega)).trans hx0;clear b1)
   | (go_at_call 39;(with_reducible refine (CF.out _ B1.out).mono ?_);rintro e W2 ⟨rfl,b2⟩;have B2:=hD (bT B1.out b2);clear b2)
   | (go_at_call 41;(with_reducible refine (CO.out _ B2.out).mono ?_);rintro e w' ⟨rfl,rfl⟩))
  go_ret2
  exact ⟨rfl,bT B0.out B1.out⟩
 rw [if_neg q1] at hbad |-
 have q1':labChk sel ord br ws.length=0:=Decidable.not_not.1 q1
 rw [q1'] at CL
 clear q1 q1'
 by_cases q2:fixChk ds.length ps≠0
 ·rw [if_pos q2]
  have e1:(fixChk ds.length ps != 0)=true:=by simpa using q2
  clear hbad q2
  generalize fixChk ds.length ps=kk at *
  go_enter Tryz.func26,Tryz.ntmps26
  go_upto_region 1 with fail
  rw [<- HWE.out]
  go_wp2_with (first
   | (go_at_call 12;(with_reducible refine CL.out.mono ?_);rintro e W1 ⟨rfl,b1⟩;have B1:=hD b1;have y0:=(b1.cell (p:=⟨w.heap.size,0,none⟩) (by dsimp only;omega)).trans hx0;clear b1)
   | (go_at_call 39;(with_reducible refine (CF.out _ B1.out).mono ?_);rintro e W2 ⟨rfl,b2⟩;have B2:=hD (bT B1.out b2);clear b2)
   | (go_at_call 41;(with_reducible refine (CO.out _ B2.out).mono ?_);rintro e w' ⟨rfl,rfl⟩))
  go_ret2
  exact ⟨rfl,bT B0.out B2.out⟩
 rw [if_neg q2] at hbad |-
 have q2':fixChk ds.length ps=0:=Decidable.not_not.1 q2
 rw [q2'] at CF
 clear q2 q2'
 by_cases q3:64<vars.length
 ·rw [if_pos (Or.inl q3)]
  clear hbad
  go_enter Tryz.func26,Tryz.ntmps26
  go_upto_region 1 with fail
  rw [<- HWE.out]
  go_wp2_with (first
   | (go_at_call 12;(with_reducible refine CL.out.mono ?_);rintro e W1 ⟨rfl,b1⟩;have B1:=hD b1;have y0:=(b1.cell (p:=⟨w.heap.size,0,none⟩) (by dsimp only;omega)).trans hx0;clear b1)
   | (go_at_call 39;(with_reducible refine (CF.out _ B1.out).mono ?_);rintro e W2 ⟨rfl,b2⟩;have B2:=hD (bT B1.out b2);clear b2)
   | (go_at_call 41;(with_reducible refine (CO.out _ B2.out).mono ?_);rintro e w' ⟨rfl,rfl⟩))
  go_ret2
  exact ⟨rfl,bT B0.out B2.out⟩
 cases q4:vars.any (labOdd ds.length) with
 | true =>
  rw [if_pos (Or.inr rfl)]
  rw [q4] at CO
  clear hbad q4
  go_enter Tryz.func26,Tryz.ntmps26
  go_upto_region 1 with fail
  rw [<- HWE.out]
  go_wp2_with (first
   | (go_at_call 12;(with_reducible refine CL.out.mono ?_);rintro e W1 ⟨rfl,b1⟩;have B1:=hD b1;have y0:=(b1.cell (p:=⟨w.heap.size,0,none⟩) (by dsimp only;omega)).trans hx0;clear b1)
   | (go_at_call 39;(with_reducible refine (CF.out _ B1.out).mono ?_);rintro e W2 ⟨rfl,b2⟩;have B2:=hD (bT B1.out b2);clear b2)
   | (go_at_call 41;(with_reducible refine (CO.out _ B2.out).mono ?_);rintro e w' ⟨rfl,rfl⟩))
  go_ret2
  exact ⟨rfl,bT B0.out B2.out⟩
 | false =>
  rw [q4] at CO hbad
  rw [if_neg (by simp;omega)] at hbad |-
  clear q4
  have q5:most<1\/1000<most\/nodes<1\/10000<nodes:=by
   refine Decidable.byContradiction fun h=>hbad ?_
   rw [if_neg h]
  rw [if_pos q5]
  clear hbad
  by_cases p1:most<1
  ·clear q5
   go_enter Tryz.func26,Tryz.ntmps26
   go_upto_region 1 with fail
   rw [<- HWE.out]
   go_wp2_with (first
    | (go_at_call 12;(with_reducible refine CL.out.mono ?_);rintro e W1 ⟨rfl,b1⟩;have B1:=hD b1;have y0:=(b1.cell (p:=⟨w.heap.size,0,none⟩) (by dsimp only;omega)).trans hx0;clear b1)
    | (go_at_call 39;(with_reducible refine (CF.out _ B1.out).mono ?_);rintro e W2 ⟨rfl,b2⟩;have B2:=hD (bT B1.out b2);clear b2)
    | (go_at_call 41;(with_reducible refine (CO.out _ B2.out).mono ?_);rintro e w' ⟨rfl,rfl⟩))
   go_ret2
   exact ⟨rfl,bT B0.out B2.out⟩
  by_cases p2:1000<most
  ·clear q5
   go_enter Tryz.func26,Tryz.ntmps26
   go_upto_region 1 with fail
   rw [<- HWE.out]
   go_wp2_with (first
    | (go_at_call 12;(with_reducible refine CL.out.mono ?_);rintro e W1 ⟨rfl,b1⟩;have B1:=hD b1;have y0:=(b1.cell (p:=⟨w.heap.size,0,none⟩) (by dsimp only;omega)).trans hx0;clear b1)
    | (go_at_call 39;(with_reducible refine (CF.out _ B1.out).mono ?_);rintro e W2 ⟨rfl,b2⟩;have B2:=hD (bT B1.out b2);clear b2)
    | (go_at_call 41;(with_reducible refine (CO.out _ B2.out).mono ?_);rintro e w' ⟨rfl,rfl⟩))
   go_ret2
   exact ⟨rfl,bT B0.out B2.out⟩
  by_cases p3:nodes<1
  ·clear q5
   go_enter Tryz.func26,Tryz.ntmps26
   go_upto_region 1 with fail
   rw [<- HWE.out]
   go_wp2_with (first
    | (go_at_call 12;(with_reducible refine CL.out.mono ?_);rintro e W1 ⟨rfl,b1⟩;have B1:=hD b1;have y0:=(b1.cell (p:=⟨w.heap.size,0,none⟩) (by dsimp only;omega)).trans hx0;clear b1)
    | (go_at_call 39;(with_reducible refine (CF.out _ B1.out).mono ?_);rintro e W2 ⟨rfl,b2⟩;have B2:=hD (bT B1.out b2);clear b2)
    | (go_at_call 41;(with_reducible refine (CO.out _ B2.out).mono ?_);rintro e w' ⟨rfl,rfl⟩))
   go_ret2
   exact ⟨rfl,bT B0.out B2.out⟩
  have p4:10000<nodes:=by omega
  clear q5
  go_enter Tryz.func26,Tryz.ntmps26
  go_upto_region 1 with fail
  rw [<- HWE.out]
  go_wp2_with (first
   | (go_at_call 12;(with_reducible refine CL.out.mono ?_);rintro e W1 ⟨rfl,b1⟩;have B1:=hD b1;have y0:=(b1.cell (p:=⟨w.heap.size,0,none⟩) (by dsimp only;omega)).trans hx0;clear b1)
   | (go_at_call 39;(with_reducible refine (CF.out _ B1.out).mono ?_);rintro e W2 ⟨rfl,b2⟩;have B2:=hD (bT B1.out b2);clear b2)
   | (go_at_call 41;(with_reducible refine (CO.out _ B2.out).mono ?_);rintro e w' ⟨rfl,rfl⟩))
  go_ret2
  exact ⟨rfl,bT B0.out B2.out⟩
end
end Go.Proofs.YtaekdgikgbdnnaaGreat
