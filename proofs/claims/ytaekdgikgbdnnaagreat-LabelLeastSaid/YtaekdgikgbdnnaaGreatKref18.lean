/-
  label.Minimize, walked, where something is wrong; and both Minimize side by side.
  LabelSolves: what is found, in which order, is the document's, or its error.
  LabelLeast: the least cost, and where it is found first, is the document's, or its error.
-/
import Derived.Test.YtaekdgikgbdnnaaGreatKref16
import Derived.Test.YtaekdgikgbdnnaaGreatKref17
import Derived.Test.YtaekdgikgbdnnaaGreatKref12
import Derived.Test.YtaekdgikgbdnnaaGreatKref15
import Derived.Handy
namespace Go.Proofs.YtaekdgikgbdnnaaGreat
section
open Go.RowKit
theorem findI_spec (c:Int) (zs:List Int):(c ∉ zs/\findI (c==·) zs=-1)\/∃ (i:Nat) (hi:i<zs.length),findI (c==·) zs=(i:Int)/\zs[i]=c:=by
 by_cases h:c∈zs
 ·right
  unfold findI
  cases hf:zs.findIdx? (c==·) with
  | none =>
   rw [List.findIdx?_eq_none_iff] at hf
   have:=hf c h
   simp at this
  | some i =>
   rw [List.findIdx?_eq_some_iff_getElem] at hf
   obtain ⟨hi,he,_⟩:=hf
   exact ⟨i,hi,rfl,(eq_of_beq he).symm⟩
 ·refine .inl ⟨h,findIdx_none _ _ ?_⟩
  rw [List.any_eq_false]
  intro x hx
  simp only [beq_iff_eq]
  exact fun e=>h (e ▸ hx)
theorem MinR.g {r:Option (List Int)×Bool} {w w':World} {e:Ending} (h:MinR r w e w'):MinG (minE r) (minX r) w e w':=by
 obtain ⟨hb,⟨ho,he⟩ | ⟨ho,vb,he,hv⟩⟩:=h
 ·unfold minE minX
  rw [if_pos ho,if_pos ho]
  exact ⟨none,0,he,SlAt.nil,hb⟩
 ·unfold minE minX
  rw [if_neg (by rw [ho];decide),if_neg (by rw [ho];decide)]
  rcases hv with ⟨h1,rfl⟩ | ⟨x,h1,h2⟩
  ·rw [h1];exact ⟨none,0,he,SlAt.nil,hb⟩
  ·rw [h1]
   obtain ⟨ao,cap,rfl,_⟩:=SlAt.shape h2
   exact ⟨ao,cap,he,h2,hb⟩
set_option maxRecDepth 100000
set_option maxHeartbeats 1600000
theorem min_bad (vds vps vv vw:Value) (sel ord br:Int) (ds:Ds) (ps:List PL) (vars ws:List Int) (cost nodes:Int) (w:World) (hd:DsAt w vds ds) (hp:PsAt w vps ps) (hv:IsAt w vv vars) (hw:IsAt w vw ws)
  (hok:∀ p∈ps,p.ok) (hvl:vars.length<=4096) (hbad:begChk sel ord br ws.length ds.length ps vars 1 nodes≠0) :
  Calls Tryz.prog 21 #[vds,vps,vv,.int .i64 cost,.agg #[.int .i64 sel,.int .i64 ord,.int .i64 br,vw],.int .i64 nodes] w (MinG (begChk sel ord br ws.length ds.length ps vars 1 nodes) [] w):=by
 obtain ⟨a0,c0,rfl,_⟩:=hd.shape
 obtain ⟨a1,c1,rfl,_⟩:=hp.shape
 obtain ⟨a2,c2,rfl,_⟩:=hv.shape'
 obtain ⟨a3,c3,rfl,_⟩:=hw.shape'
 obtain ⟨W0,hW0⟩:∃ W0,W0=((w.alloc (.cells #[.slice a0 ds.length c0] 22)).alloc (.cells #[.int .i64 cost] 3)).alloc (.cells #[.int .i64 sel,.int .i64 ord,.int .i64 br,.slice a3 ws.length c3] 28):=⟨_,rfl⟩
 have B0:Hid (Below w.heap.size w W0):=by rw [hW0];exact ((bA _).alloc (by simp) _).alloc (by simp;omega) _
 have hx0:Hid (BoxL W0 w.heap.size [.slice a0 ds.length c0]):=by
  rw [hW0]
  exact (BoxL.mk' w #[.slice a0 ds.length c0] 22).below ((((Below.refl (w.heap.size+1) _).alloc (by simp) _)).alloc (by simp) _) (by simp)
 have hx2:BoxL W0 (w.heap.size+2) [.int .i64 sel,.int .i64 ord,.int .i64 br,.slice a3 ws.length c3]:=by
  rw [hW0]
  have h:=BoxL.mk' ((w.alloc (.cells #[.slice a0 ds.length c0] 22)).alloc (.cells #[.int .i64 cost] 3)) #[.int .i64 sel,.int .i64 ord,.int .i64 br,.slice a3 ws.length c3] 28
  rw [World.size_alloc,World.size_alloc] at h
  exact h
 have CB:=hD (begin_bad (.slice a0 ds.length c0) (.slice a1 ps.length c1) (.slice a2 vars.length c2) (.slice a3 ws.length c3) sel ord br ds ps vars ws 1 nodes W0 (hd.below B0.out) (hp.below B0.out) (hv.below B0.out) (hw.below B0.out) hok hvl hbad)
 obtain ⟨l0,_⟩:=hx2.get 0 rfl
 obtain ⟨l1,_⟩:=hx2.get 1 rfl
 obtain ⟨l2,_⟩:=hx2.get 2 rfl
 obtain ⟨l3,_⟩:=hx2.get 3 rfl
 obtain ⟨l4,_⟩:=hx0.out.get 0 rfl
 have HWE:=hD hW0
 have hne:(begChk sel ord br ws.length ds.length ps vars 1 nodes != 0)=true:=by simpa using hbad
 clear hd hp hv hw hW0 hx0 hx2 hbad
 generalize begChk sel ord br ws.length ds.length ps vars 1 nodes=kk at *
 go_enter Tryz.func21,Tryz.ntmps21
 go_upto_region 1 with fail
 rw [<- HWE.out]
 go_wp2_with (go_at_call 26;(with_reducible refine CB.out.mono ?_);rintro e W1 ⟨rfl,b1⟩;have B1:=hD (bT B0.out b1);clear b1)
 go_ret2
 exact ⟨none,0,rfl,SlAt.nil,B1.out⟩
theorem min_novar (vds vps vv vw:Value) (o:SOpt) (ds:Ds) (ps:List PL) (vars:List Int) (cost:Int) (nodes:Nat) (w:World) (hd:DsAt w vds ds) (hp:PsAt w vps ps) (hv:IsAt w vv vars) (hw:IsAt w vw o.ws)
  (hok:∀ p∈ps,p.ok) (hlc:labChk o.sel o.ord o.br o.ws.length=0) (hfc:fixChk ds.length ps=0) (hvl:vars.length<=64) (hvi:∀ v∈vars,0<=v/\v.toNat<ds.length) (h3:1<=nodes) (h4:nodes<=10000) (hno:findI (cost==·) vars=-1) :
  Calls Tryz.prog 21 #[vds,vps,vv,.int .i64 cost,.agg #[.int .i64 o.sel,.int .i64 o.ord,.int .i64 o.br,vw],.int .i64 nodes] w (MinG 160 [] w):=by
 obtain ⟨a0,c0,rfl,_⟩:=hd.shape
 obtain ⟨a1,c1,rfl,_⟩:=hp.shape
 obtain ⟨a2,c2,rfl,_⟩:=hv.shape'
 obtain ⟨a3,c3,rfl,_⟩:=hw.shape'
 obtain ⟨W0,hW0⟩:∃ W0,W0=((w.alloc (.cells #[.slice a0 ds.length c0] 22)).alloc (.cells #[.int .i64 cost] 3)).alloc (.cells #[.int .i64 o.sel,.int .i64 o.ord,.int .i64 o.br,.slice a3 o.ws.length c3] 28):=⟨_,rfl⟩
 have B0:Hid (Below w.heap.size w W0):=by rw [hW0];exact ((bA _).alloc (by simp) _).alloc (by simp;omega) _
 have hs0:W0.heap.size=w.heap.size+3:=by rw [hW0];simp
 have hx0:Hid (BoxL W0 w.heap.size [.slice a0 ds.length c0]):=by
  rw [hW0]
  exact (BoxL.mk' w #[.slice a0 ds.length c0] 22).below ((((Below.refl (w.heap.size+1) _).alloc (by simp) _)).alloc (by simp) _) (by simp)
 have hx1:Hid (BoxL W0 (w.heap.size+1) [.int .i64 cost]):=by
  rw [hW0]
  have h:=BoxL.mk' (w.alloc (.cells #[.slice a0 ds.length c0] 22)) #[.int .i64 cost] 3
  rw [World.size_alloc] at h
  exact h.below (bA _) (by simp)
 have hx2:BoxL W0 (w.heap.size+2) [.int .i64 o.sel,.int .i64 o.ord,.int .i64 o.br,.slice a3 o.ws.length c3]:=by
  rw [hW0]
  have h:=BoxL.mk' ((w.alloc (.cells #[.slice a0 ds.length c0] 22)).alloc (.cells #[.int .i64 cost] 3)) #[.int .i64 o.sel,.int .i64 o.ord,.int .i64 o.br,.slice a3 o.ws.length c3] 28
  rw [World.size_alloc,World.size_alloc] at h
  exact h
 have CB:=hD (begin_ok (.slice a0 ds.length c0) (.slice a1 ps.length c1) (.slice a2 vars.length c2) (.slice a3 o.ws.length c3) o.sel o.ord o.br ds ps vars o.ws 1 nodes W0 (hd.below B0.out) (hp.below B0.out) (hv.below B0.out) (hw.below B0.out) hok hlc hfc hvl hvi (by omega) (by omega) (by omega) (by omega))
 have CI:Hid (∀ W,Below w.heap.size w W->Calls Tryz.prog 32 #[.slice a2 vars.length c2,.int .i64 cost] W fun e w'=>e=.returned (.int .i64 (-1))/\W=w'):=fun W hb=>by rw [<- hno];exact index_any _ _ _ _ (hv.below hb) (by omega)
 obtain ⟨l0,_⟩:=hx2.get 0 rfl
 obtain ⟨l1,_⟩:=hx2.get 1 rfl
 obtain ⟨l2,_⟩:=hx2.get 2 rfl
 obtain ⟨l3,_⟩:=hx2.get 3 rfl
 obtain ⟨l4,_⟩:=hx0.out.get 0 rfl
 obtain ⟨l5,_⟩:=hx1.out.get 0 rfl
 have HWE:=hD hW0
 have HS0:=hD hs0
 have HL5:=hD l5
 clear hd hp hv hw hlc hfc hvi hW0 hx0 hx1 hx2 hs0 hno hok
 go_enter Tryz.func21,Tryz.ntmps21
 go_upto_region 1 with fail
 rw [<- HWE.out]
 go_upto_region 4 with (go_at_call 26;(with_reducible refine CB.out.mono ?_);rintro e W1 ⟨sb,rfl,hsb,hsr,b1⟩;have B1:=hD b1;clear b1 hsr hsb)
 have BI1:Hid (Below w.heap.size w W1):=bT B0.out B1.out
 have z5:W1.cell? ⟨w.heap.size+1,0,none⟩=some (.int .i64 cost):=(B1.out.cell (p:=⟨w.heap.size+1,0,none⟩) (by have:=HS0.out;dsimp only;omega)).trans HL5.out
 clear l0 l1 l2 l3 l4 l5
 go_wp2_with (go_at_call 32;(with_reducible refine (CI.out _ ?_).mono ?_);(·exact BI1.out);rintro e W2 ⟨rfl,rfl⟩)
 go_ret2
 exact ⟨none,0,rfl,SlAt.nil,bL BI1.out _⟩
theorem min_both (vds vps vv vw:Value) (o:SOpt) (ds:Ds) (ps:List PL) (vars:List Int) (cost nodes:Int) (w:World) (hd:DsAt w vds ds) (hp:PsAt w vps ps) (hv:IsAt w vv vars) (hw:IsAt w vw o.ws) (hok:∀ p∈ps,p.ok) (hin:fixChk ds.length ps=0->FixIn ds ps) (hdl:ds.length<=4096) (hvl:vars.length<=8)
  (hz:begChk o.sel o.ord o.br o.ws.length ds.length ps vars 1 nodes=0->labChk o.sel o.ord o.br o.ws.length=0/\fixChk ds.length ps=0/\vars.length<=64/\(∀ v∈vars,0<=v/\v.toNat<ds.length)/\1<=nodes/\nodes<=10000) :
  ∃ (E:Int) (x:List Int),x.length<=4096/\∀ W,Below w.heap.size w W ->
   Calls Tryz.prog 21 #[vds,vps,vv,.int .i64 cost,.agg #[.int .i64 o.sel,.int .i64 o.ord,.int .i64 o.br,vw],.int .i64 nodes] W (MinG E x W) /\
   Calls Tryz.prog 22 #[vds,vps,vv,.int .i64 cost,.agg #[.int .i64 o.sel,.int .i64 o.ord,.int .i64 o.br,vw],.int .i64 nodes] W (MinG E x W):=by
 by_cases hb:begChk o.sel o.ord o.br o.ws.length ds.length ps vars 1 nodes=0
 ·obtain ⟨h1,h2,h3,h4,h7,h8⟩:=hz hb
  obtain ⟨k,rfl⟩:=Int.eq_ofNat_of_zero_le (show 0<=nodes by omega)
  have hI:=hin h2
  obtain ⟨_,hord,hbr⟩:=labChk_sound h1
  rcases findI_spec cost vars with ⟨hno,hf⟩ | ⟨i,hi,hf,hic⟩
  ·refine ⟨160,[],by simp,fun W h=>⟨min_novar vds vps vv vw o ds ps vars cost k W (hd.below h) (hp.below h) (hv.below h) (hw.below h) hok h1 h2 h3 h4 (by omega) (by omega) hf,?_⟩⟩
   exact (refMin_ok vds vps vv vw o ds ps vars cost k W (hd.below h) (hp.below h) (hv.below h) (hw.below h) hI hb h1 h3 h4 (by omega)).mono fun e w' hh=>by
    rcases hh with ⟨_,h⟩ | ⟨j,c,hj,hjc,_⟩
    ·exact h
    ·exact absurd (hjc ▸ List.getElem_mem hj) hno
  ·have hcv:=h4 _ (List.getElem_mem hi)
   rw [hic] at hcv
   obtain ⟨c,rfl⟩:=Int.eq_ofNat_of_zero_le hcv.1
   have hcl:c<ds.length:=by simpa using hcv.2
   have hfu:minP ps vars o i c ds 403 k ds none=minP ps vars o i c ds (k+1) k ds none :=
    minP_fuel hord hbr h4 hi hic rfl 403 (k+1) k ds none 201 rfl (fun v hv=>by have:=memL_bounds (norm_normal _) hv;omega) (by decide) (by decide) (by omega)
   refine ⟨minE (minP ps vars o i c ds (k+1) k ds none),minX (minP ps vars o i c ds (k+1) k ds none),?_,fun W h=>⟨?_,?_⟩⟩
   ·unfold minX
    split
    ·simp
    ·cases hx:(minP ps vars o i c ds (k+1) k ds none).1 with
     | none=>simp
     | some x =>
      have:=minP_wide (ps:=ps) (vars:=vars) (o:=o) (k+1) k ds none (fun x hx=>by cases hx) x hx
      show x.length<=4096
      omega
   ·exact (minimize_ok vds vps vv vw o ds ps vars c i k W (hd.below h) (hp.below h) (hv.below h) (hw.below h) hI h1 h2 h3 h4 (by omega) (by omega) hf hi hcl).mono fun _ _ h=>h.g
   ·exact (refMin_ok vds vps vv vw o ds ps vars c k W (hd.below h) (hp.below h) (hv.below h) (hw.below h) hI hb h1 h3 h4 (by omega)).mono fun e w' hh=>by
     rcases hh with ⟨hn,_⟩ | ⟨j,c',hj,hjc,he,h⟩
     ·exact absurd (hic ▸ List.getElem_mem hi) hn
     ·obtain rfl:c=c':=by omega
      rw [minP_at hj hi (hjc.trans hic.symm),hfu] at h
      exact h
 ·refine ⟨begChk o.sel o.ord o.br o.ws.length ds.length ps vars 1 nodes,[],by simp,fun W h=>⟨?_,?_⟩⟩
  ·exact min_bad vds vps vv vw o.sel o.ord o.br ds ps vars o.ws cost nodes W (hd.below h) (hp.below h) (hv.below h) (hw.below h) hok (by omega) hb
  ·exact refMin_bad vds vps vv vw o.sel o.ord o.br ds ps vars o.ws cost nodes W (hd.below h) (hp.below h) (hv.below h) (hw.below h) hok hdl hb
theorem findR_wide (ps:List PL) (vars:List Int) (o:SOpt):∀ (k m:Nat) (st:List Ds),∀ z∈(findR ps vars o m k st).1,z.length=vars.length
 | k,0,st=>by cases k <;> cases st <;> simp [findR]
 | k,m+1,[]=>by cases k <;> simp [findR]
 | 0,m+1,D::st=>by simp [findR]
 | k+1,m+1,D::st=>by
  rw [findR]
  cases theFix ps D with
  | none=>exact findR_wide ps vars o k (m+1) st
  | some now =>
   dsimp only
   cases chooseL now vars o.sel o.ws vars.length with
   | none =>
    dsimp only
    intro z hz
    rcases List.mem_cons.1 hz with rfl | hz
    ·simp
    ·exact findR_wide ps vars o k m st z hz
   | some i=>exact findR_wide ps vars o k (m+1) _
theorem many19_ok {ds:Ds} {ps:List PL} (h:many19 ds ps=false):∀ p∈ps,p.ok:=fun p hp=>by
 unfold many19 at h
 simp only [Bool.or_eq_false_iff] at h
 have h1:=h.1.2
 rw [List.any_eq_false] at h1
 have h2:=h1 p hp
 unfold bigP19 at h2
 simp at h2
 unfold PL.ok
 omega
theorem begChk_zero {sel ord br most nodes:Int} {nw n:Nat} {ps:List PL} {vars:List Int} (h:begChk sel ord br nw n ps vars most nodes=0) :
  labChk sel ord br nw=0/\fixChk n ps=0/\vars.length<=64/\(∀ v∈vars,0<=v/\v.toNat<n)/\1<=most/\most<=1000/\1<=nodes/\nodes<=10000:=by
 unfold begChk at h
 by_cases h1:labChk sel ord br nw≠0
 ·rw [if_pos h1] at h;exact absurd h h1
 rw [if_neg h1] at h
 by_cases h2:fixChk n ps≠0
 ·rw [if_pos h2] at h;exact absurd h h2
 rw [if_neg h2] at h
 by_cases h3:64<vars.length\/vars.any (labOdd n)=true
 ·rw [if_pos h3] at h;cases h
 rw [if_neg h3] at h
 by_cases h4:most<1\/1000<most\/nodes<1\/10000<nodes
 ·rw [if_pos h4] at h;cases h
 have h5:vars.any (labOdd n)=false:=by
  cases hq:vars.any (labOdd n)
  ·rfl
  ·exact absurd (Or.inr hq) h3
 rw [List.any_eq_false] at h5
 refine ⟨Decidable.not_not.1 h1,Decidable.not_not.1 h2,by omega,fun v hv=>?_,by omega,by omega,by omega,by omega⟩
 have:=h5 v hv
 unfold labOdd at this
 simp at this
 omega
theorem solve_both (vds vps vv vw:Value) (o:SOpt) (ds:Ds) (ps:List PL) (vars:List Int) (most nodes:Int) (w:World) (hd:DsAt w vds ds) (hp:PsAt w vps ps) (hv:IsAt w vv vars) (hw:IsAt w vw o.ws) (hm:many19 ds ps=false) (hvl:vars.length<=8) :
  ∃ (E:Int) (L:List (List Int)),L.length<=4096/\(∀ z∈L,z.length<=4096)/\∀ W,Below w.heap.size w W ->
   Calls Tryz.prog 13 #[vds,vps,vv,.agg #[.int .i64 o.sel,.int .i64 o.ord,.int .i64 o.br,vw],.int .i64 most,.int .i64 nodes] W (SolG E L W) /\
   Calls Tryz.prog 17 #[vds,vps,vv,.agg #[.int .i64 o.sel,.int .i64 o.ord,.int .i64 o.br,vw],.int .i64 most,.int .i64 nodes] W (SolG E L W):=by
 have hok:=many19_ok hm
 have hdl:ds.length<=4:=(many19_17 hm).2.1
 by_cases hb:begChk o.sel o.ord o.br o.ws.length ds.length ps vars most nodes=0
 ·obtain ⟨h1,h2,h3,h4,h5,h6,h7,h8⟩:=begChk_zero hb
  obtain ⟨m,rfl⟩:=Int.eq_ofNat_of_zero_le (show 0<=most by omega)
  obtain ⟨k,rfl⟩:=Int.eq_ofNat_of_zero_le (show 0<=nodes by omega)
  have hr:right19 ds ps=true:=by unfold right19;rw [hm,h2];rfl
  have hin:=(right19_ok hr).1
  refine ⟨solE (findR ps vars o m k [ds]),solL (findR ps vars o m k [ds]),?_,fun z hz=>?_,fun W h=>⟨?_,?_⟩⟩
  ·unfold solL
   split
   ·simp
   ·have:=findR_le ps vars o k m [ds];omega
  ·unfold solL at hz
   split at hz
   ·cases hz
   ·rw [findR_wide ps vars o k m [ds] z hz];omega
  ·exact (solve_ok vds vps vv vw o ds ps vars m k W (hd.below h) (hp.below h) (hv.below h) (hw.below h) hin h1 h2 h3 h4 (by omega) (by omega) (by omega) (by omega)).mono fun _ _ h=>h.g
  ·exact refSolve_ok vds vps vv vw o ds ps vars m k W (hd.below h) (hp.below h) (hv.below h) (hw.below h) hin hb h1 h3 h4 (by omega) (by omega)
 ·refine ⟨begChk o.sel o.ord o.br o.ws.length ds.length ps vars most nodes,[],by simp,fun z hz=>(by cases hz),fun W h=>⟨?_,?_⟩⟩
  ·exact solve_bad vds vps vv vw o.sel o.ord o.br ds ps vars o.ws most nodes W (hd.below h) (hp.below h) (hv.below h) (hw.below h) hok (by omega) hb
  ·exact refSolve_bad vds vps vv vw o.sel o.ord o.br ds ps vars o.ws most nodes W (hd.below h) (hp.below h) (hv.below h) (hw.below h) hok (by omega) hb
set_option maxRecDepth 1000000
set_option maxHeartbeats 6400000
theorem labelSolves_any (vds vps vv v1:Value) (o:SOpt) (ds:Ds) (ps:List PL) (vars:List Int) (most nodes:Int) (w:World) (hd:DsAt w vds ds) (hp:PsAt w vps ps) (hv:IsAt w vv vars) (hw1:IsAt w v1 o.ws) :
  Calls Tryz.prog 4 #[.agg #[vds,vps],vv,.agg #[.int .i64 o.sel,.int .i64 o.ord,.int .i64 o.br,v1],.int .i64 most,.int .i64 nodes] w fun e w'=>e=.returned (.bool true)/\Below w.heap.size w w':=by
 obtain ⟨a0,c0,rfl,_⟩:=hd.shape
 obtain ⟨a1,c1,rfl,_⟩:=hp.shape
 obtain ⟨a3,c3,rfl,_⟩:=hv.shape'
 obtain ⟨a2,c2,rfl,_⟩:=hw1.shape'
 obtain ⟨W0,hW0⟩:∃ W0,W0=(w.alloc (.cells #[.slice a0 ds.length c0,.slice a1 ps.length c1] 25)).alloc (.cells #[.int .i64 o.sel,.int .i64 o.ord,.int .i64 o.br,.slice a2 o.ws.length c2] 28):=⟨_,rfl⟩
 have hb0:Below w.heap.size w W0:=by rw [hW0];exact ((Below.refl _ w).alloc (rN _) _).alloc (by simp) _
 have hs0:W0.heap.size=w.heap.size+2:=by rw [hW0];simp
 have hL1:BoxL W0 w.heap.size [.slice a0 ds.length c0,.slice a1 ps.length c1]:=by
  rw [hW0]
  exact (BoxL.mk' w #[.slice a0 ds.length c0,.slice a1 ps.length c1] _).below (bA _) (by simp)
 have hL2:BoxL W0 (w.heap.size+1) [.int .i64 o.sel,.int .i64 o.ord,.int .i64 o.br,.slice a2 o.ws.length c2]:=by
  have h:=BoxL.mk' (w.alloc (.cells #[.slice a0 ds.length c0,.slice a1 ps.length c1] 25)) #[.int .i64 o.sel,.int .i64 o.ord,.int .i64 o.br,.slice a2 o.ws.length c2] 28
  rw [show (w.alloc (.cells #[.slice a0 ds.length c0,.slice a1 ps.length c1] 25)).heap.size=w.heap.size+1 by simp] at h
  rw [hW0];exact h
 have HB0:=hD hb0
 have HL1:=hD hL1
 have HL2:=hD hL2
 have HW:=hD hW0.symm
 have HD:=hD hd
 have HP:=hD hp
 have HV:=hD hv
 have HO:=hD hw1
 clear hb0 hL1 hL2 hW0 hd hp hv hw1
 have HC:Hid (∀ W,Below W0.heap.size W0 W->W.cell? ⟨w.heap.size,0,none⟩=some (.slice a0 ds.length c0)/\W.cell? ⟨w.heap.size,1,none⟩=some (.slice a1 ps.length c1) /\
   W.cell? ⟨w.heap.size+1,0,none⟩=some (.int .i64 o.sel)/\W.cell? ⟨w.heap.size+1,1,none⟩=some (.int .i64 o.ord)/\W.cell? ⟨w.heap.size+1,2,none⟩=some (.int .i64 o.br)/\W.cell? ⟨w.heap.size+1,3,none⟩=some (.slice a2 o.ws.length c2)):=fun W h =>
  have e1:=HL1.out.below h (by omega)
  have e2:=HL2.out.below h (by omega)
  ⟨(e1.get 0 rfl).1,(e1.get 1 rfl).1,(e2.get 0 rfl).1,(e2.get 1 rfl).1,(e2.get 2 rfl).1,(e2.get 3 rfl).1⟩
 obtain ⟨z0,z1,z2,z3,z4,z5⟩:=HC.out W0 (Below.refl _ _)
 have CR:=hD (many19_c _ _ ds ps W0 (HD.out.below HB0.out) (HP.out.below HB0.out))
 by_cases hn:1000<nodes/\nodes<=10000
 ·obtain ⟨n1,n2⟩:=hn
  go_enter Tryz.func4,Tryz.ntmps4
  go_upto_region 1 with fail
  rw [HW.out]
  go_wp2
  go_ret
  exact ⟨rfl,HB0.out⟩
 have hn':nodes<=1000\/10000<nodes:=by omega
 clear hn
 rcases hn' with hn | hn
 all_goals
  cases hm:many19 ds ps with
  | true =>
   rw [hm] at CR
   clear hm
   go_enter Tryz.func4,Tryz.ntmps4
   go_upto_region 1 with fail
   rw [HW.out]
   go_wp2_with (go_at_call 16;(with_reducible refine CR.out.mono ?_);rintro e W1 ⟨rfl,bb⟩;have B1:=hD (bT HB0.out bb);clear bb)
   go_ret
   exact ⟨rfl,B1.out⟩
  | false =>
   rw [hm] at CR
   have HM:=hD hm
   clear hm
   by_cases h1:8<vars.length
   ·go_enter Tryz.func4,Tryz.ntmps4
    go_upto_region 1 with fail
    rw [HW.out]
    go_wp2_with (go_at_call 16;(with_reducible refine CR.out.mono ?_);rintro e W1 ⟨rfl,bb⟩;have B1:=hD (bT HB0.out bb);clear bb)
    go_ret
    exact ⟨rfl,B1.out⟩
   by_cases h2:100<o.ws.length
   ·go_enter Tryz.func4,Tryz.ntmps4
    go_upto_region 1 with fail
    rw [HW.out]
    go_wp2_with (go_at_call 16;(with_reducible refine CR.out.mono ?_);rintro e W1 ⟨rfl,bb⟩;have B1:=hD (bT HB0.out bb);obtain ⟨y0,y1,y2,y3,y4,y5⟩:=HC.out _ bb;clear bb)
    go_ret
    exact ⟨rfl,B1.out⟩
   obtain ⟨E,L,hL1,hL2,hC⟩:=solve_both (.slice a0 ds.length c0) (.slice a1 ps.length c1) (.slice a3 vars.length c3) (.slice a2 o.ws.length c2) o ds ps vars most nodes w HD.out HP.out HV.out HO.out HM.out (by omega)
   have CP:Hid (∀ W,Below w.heap.size w W->Calls Tryz.prog 13 #[.slice a0 ds.length c0,.slice a1 ps.length c1,.slice a3 vars.length c3,.agg #[.int .i64 o.sel,.int .i64 o.ord,.int .i64 o.br,.slice a2 o.ws.length c2],.int .i64 most,.int .i64 nodes] W (SolG E L W)):=fun W h=>(hC W h).1
   have CF:Hid (∀ W,Below w.heap.size w W->Calls Tryz.prog 17 #[.slice a0 ds.length c0,.slice a1 ps.length c1,.slice a3 vars.length c3,.agg #[.int .i64 o.sel,.int .i64 o.ord,.int .i64 o.br,.slice a2 o.ws.length c2],.int .i64 most,.int .i64 nodes] W (SolG E L W)):=fun W h=>(hC W h).2
   have HSM:Hid (∀ W va vb,LsAt W va L->LsAt W vb L->Calls Tryz.prog 18 #[va,vb] W fun e w'=>e=.returned (.bool true)/\Below W.heap.size W w'):=fun W va vb ha hb=>by
    have:=sames_c va vb L L W ha hb hL1 hL2
    simpa using this
   have hEE:(E==E)=true:=by simp
   clear hC
   go_enter Tryz.func4,Tryz.ntmps4
   go_upto_region 1 with fail
   rw [HW.out]
   go_wp2_with (first
    | (go_at_call 16;(with_reducible refine CR.out.mono ?_);rintro e W1 ⟨rfl,bb⟩;have P1:=hD bb;have B1:=hD (bT HB0.out bb);obtain ⟨y0,y1,y2,y3,y4,y5⟩:=HC.out _ bb;clear bb)
    | (go_at_call 13;(with_reducible refine (CP.out _ B1.out).mono ?_);rintro e W2 ⟨ar,cr,rfl,l2,bb⟩;have P2:=hD (bT P1.out bb);have B2:=hD (bT B1.out bb);have L2:=hD l2;obtain ⟨x0,x1,x2,x3,x4,x5⟩:=HC.out _ P2.out;clear bb l2)
    | (go_at_call 17;(with_reducible refine (CF.out _ B2.out).mono ?_);rintro e W3 ⟨ar3,cr3,rfl,l3,bb⟩;have B3:=hD (bT B2.out bb);have L3:=hD l3;have L2':=hD (L2.out.below bb);clear bb l3)
    | (go_at_call 18;(with_reducible refine (HSM.out _ _ _ L2'.out L3.out).mono ?_);rintro e W4 ⟨rfl,bb⟩;have B4:=hD (bT B3.out bb);clear bb))
   go_ret
   exact ⟨rfl,B4.out⟩
theorem labelLeast_any (vds vps vv v1:Value) (o:SOpt) (ds:Ds) (ps:List PL) (vars:List Int) (cost nodes:Int) (w:World) (hd:DsAt w vds ds) (hp:PsAt w vps ps) (hv:IsAt w vv vars) (hw1:IsAt w v1 o.ws) :
  Calls Tryz.prog 8 #[.agg #[vds,vps],vv,.int .i64 cost,.agg #[.int .i64 o.sel,.int .i64 o.ord,.int .i64 o.br,v1],.int .i64 nodes] w fun e w'=>e=.returned (.bool true)/\Below w.heap.size w w':=by
 obtain ⟨a0,c0,rfl,_⟩:=hd.shape
 obtain ⟨a1,c1,rfl,_⟩:=hp.shape
 obtain ⟨a3,c3,rfl,_⟩:=hv.shape'
 obtain ⟨a2,c2,rfl,_⟩:=hw1.shape'
 obtain ⟨W0,hW0⟩:∃ W0,W0=(w.alloc (.cells #[.slice a0 ds.length c0,.slice a1 ps.length c1] 25)).alloc (.cells #[.int .i64 o.sel,.int .i64 o.ord,.int .i64 o.br,.slice a2 o.ws.length c2] 28):=⟨_,rfl⟩
 have hb0:Below w.heap.size w W0:=by rw [hW0];exact ((Below.refl _ w).alloc (rN _) _).alloc (by simp) _
 have hs0:W0.heap.size=w.heap.size+2:=by rw [hW0];simp
 have hL1:BoxL W0 w.heap.size [.slice a0 ds.length c0,.slice a1 ps.length c1]:=by
  rw [hW0]
  exact (BoxL.mk' w #[.slice a0 ds.length c0,.slice a1 ps.length c1] _).below (bA _) (by simp)
 have hL2:BoxL W0 (w.heap.size+1) [.int .i64 o.sel,.int .i64 o.ord,.int .i64 o.br,.slice a2 o.ws.length c2]:=by
  have h:=BoxL.mk' (w.alloc (.cells #[.slice a0 ds.length c0,.slice a1 ps.length c1] 25)) #[.int .i64 o.sel,.int .i64 o.ord,.int .i64 o.br,.slice a2 o.ws.length c2] 28
  rw [show (w.alloc (.cells #[.slice a0 ds.length c0,.slice a1 ps.length c1] 25)).heap.size=w.heap.size+1 by simp] at h
  rw [hW0];exact h
 have HB0:=hD hb0
 have HL1:=hD hL1
 have HL2:=hD hL2
 have HW:=hD hW0.symm
 have HD:=hD hd
 have HP:=hD hp
 have HV:=hD hv
 have HO:=hD hw1
 clear hb0 hL1 hL2 hW0 hd hp hv hw1
 have HC:Hid (∀ W,Below W0.heap.size W0 W->W.cell? ⟨w.heap.size,0,none⟩=some (.slice a0 ds.length c0)/\W.cell? ⟨w.heap.size,1,none⟩=some (.slice a1 ps.length c1) /\
   W.cell? ⟨w.heap.size+1,0,none⟩=some (.int .i64 o.sel)/\W.cell? ⟨w.heap.size+1,1,none⟩=some (.int .i64 o.ord)/\W.cell? ⟨w.heap.size+1,2,none⟩=some (.int .i64 o.br)/\W.cell? ⟨w.heap.size+1,3,none⟩=some (.slice a2 o.ws.length c2)):=fun W h =>
  have e1:=HL1.out.below h (by omega)
  have e2:=HL2.out.below h (by omega)
  ⟨(e1.get 0 rfl).1,(e1.get 1 rfl).1,(e2.get 0 rfl).1,(e2.get 1 rfl).1,(e2.get 2 rfl).1,(e2.get 3 rfl).1⟩
 obtain ⟨z0,z1,z2,z3,z4,z5⟩:=HC.out W0 (Below.refl _ _)
 have CR:=hD (many19_c _ _ ds ps W0 (HD.out.below HB0.out) (HP.out.below HB0.out))
 by_cases hn:1000<nodes/\nodes<=10000
 ·obtain ⟨n1,n2⟩:=hn
  go_enter Tryz.func8,Tryz.ntmps8
  go_upto_region 1 with fail
  rw [HW.out]
  go_wp2
  go_ret
  exact ⟨rfl,HB0.out⟩
 have hn':nodes<=1000\/10000<nodes:=by omega
 clear hn
 rcases hn' with hn | hn
 all_goals
  cases hm:many19 ds ps with
  | true =>
   rw [hm] at CR
   clear hm
   go_enter Tryz.func8,Tryz.ntmps8
   go_upto_region 1 with fail
   rw [HW.out]
   go_wp2_with (go_at_call 16;(with_reducible refine CR.out.mono ?_);rintro e W1 ⟨rfl,bb⟩;have B1:=hD (bT HB0.out bb);clear bb)
   go_ret
   exact ⟨rfl,B1.out⟩
  | false =>
   rw [hm] at CR
   have HM:=hD hm
   clear hm
   by_cases h1:8<vars.length
   ·go_enter Tryz.func8,Tryz.ntmps8
    go_upto_region 1 with fail
    rw [HW.out]
    go_wp2_with (go_at_call 16;(with_reducible refine CR.out.mono ?_);rintro e W1 ⟨rfl,bb⟩;have B1:=hD (bT HB0.out bb);clear bb)
    go_ret
    exact ⟨rfl,B1.out⟩
   by_cases h2:100<o.ws.length
   ·go_enter Tryz.func8,Tryz.ntmps8
    go_upto_region 1 with fail
    rw [HW.out]
    go_wp2_with (go_at_call 16;(with_reducible refine CR.out.mono ?_);rintro e W1 ⟨rfl,bb⟩;have B1:=hD (bT HB0.out bb);obtain ⟨y0,y1,y2,y3,y4,y5⟩:=HC.out _ bb;clear bb)
    go_ret
    exact ⟨rfl,B1.out⟩
   obtain ⟨E,L,hL1,hC⟩:=min_both (.slice a0 ds.length c0) (.slice a1 ps.length c1) (.slice a3 vars.length c3) (.slice a2 o.ws.length c2) o ds ps vars cost nodes w HD.out HP.out HV.out HO.out (many19_ok HM.out) (fun h2=>(right19_ok (show right19 ds ps=true by unfold right19;rw [HM.out,h2];rfl)).1) (by have:=(many19_17 HM.out).2.1;omega) (by omega) (fun h=>by obtain ⟨h1,h2,h3,h4,_,_,h7,h8⟩:=begChk_zero h;exact ⟨h1,h2,h3,h4,h7,h8⟩)
   have CP:Hid (∀ W,Below w.heap.size w W->Calls Tryz.prog 21 #[.slice a0 ds.length c0,.slice a1 ps.length c1,.slice a3 vars.length c3,.int .i64 cost,.agg #[.int .i64 o.sel,.int .i64 o.ord,.int .i64 o.br,.slice a2 o.ws.length c2],.int .i64 nodes] W (MinG E L W)):=fun W h=>(hC W h).1
   have CF:Hid (∀ W,Below w.heap.size w W->Calls Tryz.prog 22 #[.slice a0 ds.length c0,.slice a1 ps.length c1,.slice a3 vars.length c3,.int .i64 cost,.agg #[.int .i64 o.sel,.int .i64 o.ord,.int .i64 o.br,.slice a2 o.ws.length c2],.int .i64 nodes] W (MinG E L W)):=fun W h=>(hC W h).2
   have HSM:Hid (∀ W va vb,IsAt W va L->IsAt W vb L->Calls Tryz.prog 20 #[va,vb] W fun e w'=>e=.returned (.bool true)/\Below W.heap.size W w'):=fun W va vb ha hb=>by
    have:=sameInts_c va vb L L W ha hb hL1
    simpa using this
   have hEE:(E==E)=true:=by simp
   clear hC
   go_enter Tryz.func8,Tryz.ntmps8
   go_upto_region 1 with fail
   rw [HW.out]
   go_wp2_with (first
    | (go_at_call 16;(with_reducible refine CR.out.mono ?_);rintro e W1 ⟨rfl,bb⟩;have P1:=hD bb;have B1:=hD (bT HB0.out bb);obtain ⟨y0,y1,y2,y3,y4,y5⟩:=HC.out _ bb;clear bb)
    | (go_at_call 21;(with_reducible refine (CP.out _ B1.out).mono ?_);rintro e W2 ⟨ar,cr,rfl,l2,bb⟩;have P2:=hD (bT P1.out bb);have B2:=hD (bT B1.out bb);have L2:=hD l2;obtain ⟨x0,x1,x2,x3,x4,x5⟩:=HC.out _ P2.out;clear bb l2)
    | (go_at_call 22;(with_reducible refine (CF.out _ B2.out).mono ?_);rintro e W3 ⟨ar3,cr3,rfl,l3,bb⟩;have B3:=hD (bT B2.out bb);have L3:=hD l3;have L2':=hD (L2.out.below bb);clear bb l3)
    | (go_at_call 20;(with_reducible refine (HSM.out _ _ _ L2'.out L3.out).mono ?_);rintro e W4 ⟨rfl,bb⟩;have B4:=hD (bT B3.out bb);clear bb))
   go_ret
   exact ⟨rfl,B4.out⟩
end
end Go.Proofs.YtaekdgikgbdnnaaGreat
