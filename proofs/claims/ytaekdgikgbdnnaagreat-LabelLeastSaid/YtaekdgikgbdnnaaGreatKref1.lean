/-
  SETS THAT LIE WHOLLY FROM A BLOCK ON: lists of them, own lists of them, and those that grow by append.
  The reference's Once of layer 15, walked.
-/
import Derived.Test.YtaekdgikgbdnnaaGreatKlin2
import Derived.Test.YtaekdgikgbdnnaaGreatKlin5
import Derived.Test.YtaekdgikgbdnnaaGreatKlin6
namespace Go.Proofs.YtaekdgikgbdnnaaGreat
section
open Go.RowKit
theorem SlAt.ownN {w w':World} {k:Nat} {v:Value} {n:Nat} {xs:List Value} (h:SlAt w k v n xs) (hs:w.heap.size<=w'.heap.size) (hb:∀ b,b<w.heap.size->v.ownBlock=some b->w'.heap[b]?=w.heap[b]?):SlAt w' k v n xs:=by
 obtain ⟨h1,ao,cap,rfl,h2,h3,h5,h4⟩:=h
 refine ⟨h1,ao,cap,rfl,h2,h3,h5,fun hp=>?_⟩
 obtain ⟨b,off,rfl,hlt,hc⟩:=h4 hp
 refine ⟨b,off,rfl,Nat.lt_of_lt_of_le hlt hs,fun j hj=>?_⟩
 rw [<- hc j hj]
 exact World.cell?_of_block (a:=⟨b,off+j,none⟩) (hb b hlt rfl)
def DsFrom (B:Nat) (W:World) (v:Value) (d:Ds):Prop :=
 ∃ us:List Value,us.length=d.length/\SlAt W 1 v d.length us/\(∀ b,v.ownBlock=some b->B<=b)/\∀ j,(hj:j<d.length)->∃ u,us[j]?=some u/\RgAt W u d[j]/\∀ b,u.ownBlock=some b->B<=b
theorem DsFrom.here {B:Nat} {W:World} {v:Value} {d:Ds} (h:DsFrom B W v d):DsAt W v d:=by
 obtain ⟨us,h1,h2,h3,h4⟩:=h
 exact ⟨us,h1,h2,fun j hj=>by obtain ⟨u,a,b,_⟩:=h4 j hj;exact ⟨u,a,b⟩⟩
theorem DsFrom.on {B:Nat} {W W':World} {v:Value} {d:Ds} (h:DsFrom B W v d) (hs:W.heap.size<=W'.heap.size) (hb:∀ b,B<=b->b<W.heap.size->W'.heap[b]?=W.heap[b]?):DsFrom B W' v d:=by
 obtain ⟨us,h1,h2,h3,h4⟩:=h
 exact ⟨us,h1,h2.ownN hs (fun b hb' e=>hb b (h3 b e) hb'),h3,fun j hj=>by
  obtain ⟨u,a,b,c⟩:=h4 j hj
  exact ⟨u,a,SlAt.ownN b hs (fun b' hb' e=>hb b' (c b' e) hb'),c⟩⟩
theorem DsFrom.below {B:Nat} {W W':World} {v:Value} {d:Ds} (h:DsFrom B W v d) (hb:Below W.heap.size W W'):DsFrom B W' v d:=h.on hb.size (fun b _ h2=>hb.block b h2)
theorem DsFrom.alloc {B:Nat} {W:World} {v:Value} {d:Ds} (h:DsFrom B W v d) (o:Obj):DsFrom B (W.alloc o) v d:=h.below ((Below.refl _ _).alloc (rN _) o)
theorem DsFrom.mono {B C:Nat} {W:World} {v:Value} {d:Ds} (h:DsFrom B W v d) (hc:C<=B):DsFrom C W v d:=by
 obtain ⟨us,h1,h2,h3,h4⟩:=h
 exact ⟨us,h1,h2,fun b e=>Nat.le_trans hc (h3 b e),fun j hj=>by
  obtain ⟨u,a,b,c⟩:=h4 j hj
  exact ⟨u,a,b,fun b' e=>Nat.le_trans hc (c b' e)⟩⟩
theorem DsFrom.shape {B:Nat} {W:World} {v:Value} {d:Ds} (h:DsFrom B W v d):∃ ao cap,v=.slice ao d.length cap/\d.length<=cap/\cap<=maxLen:=h.here.shape
theorem DsFrom.get {B:Nat} {W:World} {ao:Option Addr} {n cap:Nat} {ds:Ds} (h:DsFrom B W (.slice ao n cap) ds) (j:Nat) (hj:j<ds.length) :
  ∃ b off ao' cap',ao=some ⟨b,off,none⟩/\ds.length<=cap/\b<W.heap.size/\n=ds.length/\W.cell? ⟨b,off+j,none⟩=some (.slice ao' ds[j].length cap')/\RgAt W (.slice ao' ds[j].length cap') ds[j]:=h.here.get j hj
def RetF (r:Option Ds) (w:World) (e:Ending) (w':World):Prop :=
 Below w.heap.size w w'/\((∃ ds ao cap,r=some ds/\e=.returned (.tuple #[.slice ao ds.length cap,.bool true])/\DsFrom w.heap.size w' (.slice ao ds.length cap) ds)\/(r=none/\e=.returned (.tuple #[.slice none 0 0,.bool false])))
theorem RetF.is {r:Ds} {w w':World} {e:Ending} (h:RetF (some r) w e w'):∃ ao cap,e=.returned (.tuple #[.slice ao r.length cap,.bool true])/\DsFrom w.heap.size w' (.slice ao r.length cap) r/\Below w.heap.size w w':=by
 obtain ⟨hb,⟨ds,ao,cap,hr,he,hd⟩ | ⟨hr,_⟩⟩:=h
 ·cases hr;exact ⟨ao,cap,he,hd,hb⟩
 ·cases hr
def DsOwnF (B:Nat) (w:World) (base:Nat) (v:Value) (ds:Ds):Prop :=
 ∃ us:List Value,us.length=ds.length/\w.ownsRow base 61 1 v ds.length us/\∀ j,(hj:j<ds.length)->∃ u,us[j]?=some u/\RgAt w u ds[j]/\∀ b,u.ownBlock=some b->B<=b
theorem DsOwnF.own {B:Nat} {w:World} {base:Nat} {v:Value} {ds:Ds} (h:DsOwnF B w base v ds):DsOwn w base v ds:=by
 obtain ⟨us,h1,h2,h3⟩:=h
 exact ⟨us,h1,h2,fun j hj=>by obtain ⟨u,a,b,_⟩:=h3 j hj;exact ⟨u,a,b⟩⟩
theorem DsOwnF.at {B:Nat} {w:World} {base:Nat} {v:Value} {ds:Ds} (h:DsOwnF B w base v ds):DsAt w v ds:=h.own.at
theorem DsOwnF.from {B:Nat} {w:World} {base:Nat} {v:Value} {ds:Ds} (h:DsOwnF B w base v ds) (hb:B<=base):DsFrom B w v ds:=by
 obtain ⟨us,h1,h2,h3⟩:=h
 exact ⟨us,h1,SlAt.of_own h2,fun b e=>Nat.le_trans hb (h2.lt b e).1,h3⟩
theorem DsOwnF.below {B:Nat} {w w':World} {base:Nat} {v:Value} {ds:Ds} (h:DsOwnF B w base v ds) (hb:Below w.heap.size w w'):DsOwnF B w' base v ds:=by
 obtain ⟨us,h1,h2,h3⟩:=h
 exact ⟨us,h1,own_below h2 hb,fun j hj=>by obtain ⟨u,a,b,c⟩:=h3 j hj;exact ⟨u,a,b.below hb,c⟩⟩
theorem DsOwnF.get {B:Nat} {w:World} {base:Nat} {v:Value} {ds:Ds} (h:DsOwnF B w base v ds) (j:Nat) (hj:j<ds.length) :
  ∃ g cap ao' cap',v=.slice (some ⟨g,0,none⟩) ds.length cap/\base<=g/\ds.length<=cap/\g<w.heap.size/\w.cell? ⟨g,j,none⟩=some (.slice ao' ds[j].length cap')/\w.frozen? ⟨g,j,none⟩=false/\RgAt w (.slice ao' ds[j].length cap') ds[j]/\∀ b,(Value.slice ao' ds[j].length cap').ownBlock=some b->B<=b:=by
 obtain ⟨us,h1,h2,h3⟩:=h
 obtain ⟨u,e1,e2,e3⟩:=h3 j hj
 obtain ⟨ao',cap',rfl,_⟩:=e2.shape
 have h2':=h2
 rcases h2.2 with ⟨_,h0⟩ | ⟨g,cap,cur,rfl,hb,hg,hn,_⟩
 ·omega
 ·exact ⟨g,cap,ao',cap',rfl,hb,hn,(Array.getElem?_eq_some_iff.1 hg).1,by rw [h2'.cellAt j (by omega),e1],h2'.frozenAt j,e2,e3⟩
theorem DsOwnF.set {B:Nat} {w:World} {base:Nat} {g cap:Nat} {ds:Ds} (h:DsOwnF B w base (.slice (some ⟨g,0,none⟩) ds.length cap) ds) (j:Nat) (hj:j<ds.length) {u:Value} {d:List Rg} (hu:RgAt w u d) (hn:∀ b,u.ownBlock=some b->B<=b) :
  DsOwnF B (w.setCell ⟨g,j,none⟩ u) base (.slice (some ⟨g,0,none⟩) ds.length cap) (ds.set j d):=by
 obtain ⟨g',cap',ao',c',he,_,_,_,hc,_,_⟩:=h.get j hj
 simp only [Value.slice.injEq,Option.some.injEq,Addr.mk.injEq] at he
 obtain ⟨⟨rfl,_,_⟩,_,rfl⟩:=he
 obtain ⟨us,h1,h2,h3⟩:=h
 refine ⟨us.set j u,by simp [h1],?_,fun i hi=>?_⟩
 ·rw [List.length_set]
  exact (h2.stored j u).1
 ·rw [List.length_set] at hi
  by_cases hij:j=i
  ·subst hij
   exact ⟨u,by rw [List.getElem?_set_self (by omega)],by rw [List.getElem_set_self];exact hu.setSlice hc u,hn⟩
  ·obtain ⟨x,e1,e2,e3⟩:=h3 i hi
   exact ⟨x,by rw [List.getElem?_set_ne hij];exact e1,by rw [List.getElem_set_ne hij];exact e2.setSlice hc u,e3⟩
def DsAppF (w:World) (base:Nat) (v:Value) (ds:Ds) (us:List Value):Prop:=DsApp w base v ds us/\∀ u∈us,∀ b,u.ownBlock=some b->base<=b
theorem DsAppF.own {w:World} {base:Nat} {v:Value} {ds:Ds} {us:List Value} (h:DsAppF w base v ds us):DsOwnF base w base v ds :=
 ⟨us,h.1.1,h.1.2.1,fun j hj=>by obtain ⟨u,a,b,_⟩:=h.1.2.2 j hj;exact ⟨u,a,b,h.2 u (List.mem_of_getElem? a)⟩⟩
theorem DsAppF.row {w:World} {base:Nat} {v:Value} {ds:Ds} {us:List Value} (h:DsAppF w base v ds us):w.ownsRow base 61 1 v ds.length us:=h.1.2.1
theorem DsAppF.below {w w':World} {base:Nat} {v:Value} {ds:Ds} {us:List Value} (h:DsAppF w base v ds us) (hb:Below w.heap.size w w'):DsAppF w' base v ds us:=⟨h.1.below hb,h.2⟩
theorem DsAppF.nil {w:World} {base:Nat} {v:Value} (h:w.ownsRow base 61 1 v 0 []):DsAppF w base v [] []:=⟨DsApp.nil h,fun u hu=>by cases hu⟩
theorem DsAppF.push {w w':World} {base:Nat} {v:Value} {ds:Ds} {us:List Value} (h:DsAppF w base v ds us) {u:Value} {d:List Rg} (hu:RgAt w u d) (ha:d≠[]->Apart u v) (hn:∀ b,u.ownBlock=some b->base<=b) {g cap:Nat}
  (ho:w'.ownsRow base 61 1 (.slice (some ⟨g,0,none⟩) (ds.length+1) cap) (ds.length+1) (us++[u])) (hk:KeepsBut w w' v) (hg:v.ownBlock=some g\/w.heap.size<=g) :
  DsAppF w' base (.slice (some ⟨g,0,none⟩) (ds.length+1) cap) (ds++[d]) (us++[u]) :=
 ⟨h.1.push hu ha ho hk hg,fun x hx=>by
  rcases List.mem_append.1 hx with hx | hx
  ·exact h.2 x hx
  ·rw [List.mem_singleton.1 hx];exact hn⟩
theorem getD_at {α:Type} (l:List α) (n:Nat) (h:n<l.length) (x:α):l.getD n x=l[n]:=by
 rw [List.getD_eq_getElem?_getD,List.getElem?_eq_getElem h];rfl
theorem goodL_but {coef vars:List Int} {ds:Ds} (h:GoodL coef vars ds) (k:Nat):GoodL (coef.eraseIdx k) (vars.eraseIdx k) ds where
 len:=by rw [List.length_eraseIdx,List.length_eraseIdx,h.len]
 le16:=Nat.le_trans (List.length_eraseIdx_le ..) h.le16
 coefs:=fun c hc=>h.coefs c (List.mem_of_mem_eraseIdx hc)
 vars:=fun v hv=>h.vars v (List.mem_of_mem_eraseIdx hv)
 doms:=h.doms
theorem nd_zip {coef vars:List Int} {ds:Ds} (h:GoodL coef vars ds) (hn:vars.Nodup):∀ j k,k<j->(hj:j<(coef.zip vars).length)->(hk:k<(coef.zip vars).length)->(coef.zip vars)[k].2.toNat≠(coef.zip vars)[j].2.toNat:=fun j k hlt hj hk e=>by
 have hl:=h.zip_len
 have hl2:=h.len
 rw [List.getElem_zip,List.getElem_zip] at e
 have h1:=h.vars _ (List.getElem_mem (show k<vars.length by omega))
 have h2:=h.vars _ (List.getElem_mem (show j<vars.length by omega))
 have e2:vars[k]'(by omega)=vars[j]'(by omega):=by simp only at e;omega
 have h3:=List.pairwise_iff_getElem.1 hn k j (by omega) (by omega) hlt
 exact h3 e2
theorem IsAt.alloc {w:World} {v:Value} {zs:List Int} (h:IsAt w v zs) (o:Obj):IsAt (w.alloc o) v zs:=SlAt.alloc h o
theorem cell_al {w:World} {p:Addr} {v:Value} (h:w.cell? p=some v):∀ o,(w.alloc o).cell? p=some v:=fun o=>Lib.cell?_alloc_some o h
set_option maxRecDepth 100000
set_option maxHeartbeats 3200000
theorem refOnce_c (va vb vds:Value) (rel C:Int) (coef vars:List Int) (ds:Ds) (w:World) (h0:IsAt w va coef) (h1:IsAt w vb vars) (hd:DsAt w vds ds) (hg:GoodL coef vars ds) (hr:rel=1\/rel=2\/rel=3)
  (hC:-1099511627778<=C/\C<=1099511627778) (hnz:∀ c∈coef,c≠0) (hdl:ds.length<=4096) (hnd:vars.Nodup) :
  Calls Tryz.prog 94 #[.agg #[va,vb,.int .i64 rel,.int .i64 C],vds] w (RetF (onceL rel C ds (coef.zip vars)) w):=by
 obtain ⟨i0,hi,hz0,hz1,hz2⟩:=info_parts Tryz.infoRgs
 obtain ⟨i1,hj,hy0,hy1,hy2⟩:=info_parts Tryz.infoRg
 have H0:=hD h0
 have H1:=hD h1
 have HD:=hD hd
 have HDL:=hD hg.doms
 have hZ:Hid (Below w.heap.size w (w.alloc (.cells #[va,vb,.int .i64 rel,.int .i64 C] 65))):=bA _
 have hB0:Hid (BoxL (w.alloc (.cells #[va,vb,.int .i64 rel,.int .i64 C] 65)) w.heap.size [va,vb,.int .i64 rel,.int .i64 C]):=BoxL.mk' _ #[va,vb,.int .i64 rel,.int .i64 C] _
 have HND:=hD (nd_zip hg hnd)
 have CSM:Hid (∀ W,Below w.heap.size w W->Calls Tryz.prog 104 #[.agg #[va,vb,.int .i64 rel,.int .i64 C],vds] W fun e w'=>e=.returned (.tuple #[.int .i64 (sLo ds (coef.zip vars)),.int .i64 (sHi ds (coef.zip vars)),.bool (allOk ds (coef.zip vars))])/\Below W.heap.size W w') :=
  fun W h=>refSums_c _ _ _ rel C coef vars ds W (h0.below h) (h1.below h) (hd.below h) hg
 have CWO:Hid (∀ (k:Nat) W,Below w.heap.size w W->Calls Tryz.prog 105 #[.agg #[va,vb,.int .i64 rel,.int .i64 C],.int .i64 (k:Int)] W fun e w'=>∃ a4 c4 a5 c5,e=.returned (.agg #[.slice a4 (coef.eraseIdx k).length c4,.slice a5 (vars.eraseIdx k).length c5,.int .i64 rel,.int .i64 C]) /\
   IsAt w' (.slice a4 (coef.eraseIdx k).length c4) (coef.eraseIdx k)/\IsAt w' (.slice a5 (vars.eraseIdx k).length c5) (vars.eraseIdx k)/\Below W.heap.size W w'):=fun k W h =>
  (without_c va vb rel C k coef vars W (h0.below h) (h1.below h) hg.len hg.le16).mono fun e w' ⟨v0,v1,he,i0,i1,hb⟩=>by
   rw [butL_all] at i0 i1
   obtain ⟨a4,c4,rfl,_⟩:=SlAt.shape i0
   obtain ⟨a5,c5,rfl,_⟩:=SlAt.shape i1
   exact ⟨a4,c4,a5,c5,he,i0,i1,hb⟩
 have CSU:Hid (allOk ds (coef.zip vars)=true->∀ (k:Nat) v0 v1 W,Below w.heap.size w W->IsAt W v0 (coef.eraseIdx k)->IsAt W v1 (vars.eraseIdx k)->Calls Tryz.prog 104 #[.agg #[v0,v1,.int .i64 rel,.int .i64 C],vds] W fun e w'=>e=.returned (.tuple #[.int .i64 (loS ds ((coef.zip vars).eraseIdx k)),.int .i64 (hiS ds ((coef.zip vars).eraseIdx k)),.bool true])/\Below W.heap.size W w'):=fun hok k v0 v1 W h i0 i1=>by
  have hz:=zip_erase coef vars k hg.len
  have ho:=allOk_erase ds _ k hok
  have:=refSums_c v0 v1 vds rel C _ _ ds W i0 i1 (hd.below h) (goodL_but hg k)
  rw [hz] at this
  unfold sLo sHi at this
  simpa only [ho,if_true] using this
 have CFX:Hid (∀ (k:Nat) v0 v1 W,Below w.heap.size w W->IsAt W v0 (coef.eraseIdx k)->IsAt W v1 (vars.eraseIdx k)->Calls Tryz.prog 106 #[.agg #[v0,v1,.int .i64 rel,.int .i64 C],vds] W fun e w'=>e=.returned (.bool (fixedB ds ((coef.zip vars).eraseIdx k)))/\Below W.heap.size W w'):=fun k v0 v1 W h i0 i1=>by
  have:=fixed_c v0 v1 vds rel C _ _ ds W i0 i1 (hd.below h) (goodL_but hg k)
  rwa [zip_erase coef vars k hg.len] at this
 have CST:Hid (∀ (k:Nat) (cf x lo hi:Int) (one:Bool) W,Below w.heap.size w W->k<(coef.zip vars).length->(∀ hk,((coef.zip vars)[k]'hk).1=cf)->-200<=x->x<=200->Calls Tryz.prog 107 #[.agg #[va,vb,.int .i64 rel,.int .i64 C],.int .i64 k,.int .i64 x,.int .i64 lo,.int .i64 hi,.bool one] W fun e w'=>e=.returned (.bool (staysR rel C cf lo hi one x))/\Below W.heap.size W w'):=fun k cf x lo hi one W h hk hcf hx1 hx2=>by
  have hkc:k<coef.length:=by have:=hg.zip_len;omega
  have hcf':coef[k]=cf:=by have:=hcf hk;rw [List.getElem_zip] at this;exact this
  have hcc:=hg.coefs _ (List.getElem_mem hkc)
  rw [hcf'] at hcc
  exact stays_c va vb rel C coef k cf x lo hi one W (h0.below h) hkc hcf' hcc ⟨hx1,hx2⟩ hr hC
 have HNW:Hid (allOk ds (coef.zip vars)=true->∀ k,(hk:k<(coef.zip vars).length)->leftR (norm (domOf ds (coef.zip vars)[k].2)) (fun x=>!staysR rel C (coef.zip vars)[k].1 (loS ds ((coef.zip vars).eraseIdx k)) (hiS ds ((coef.zip vars).eraseIdx k)) (fixedB ds ((coef.zip vars).eraseIdx k)) x)=narrowAt rel C ds (loS ds (coef.zip vars)) (hiS ds (coef.zip vars)) (coef.zip vars)[k]) :=
  fun hok k hk=>left_narrow rel C hr ds _ k hk (fun p hp=>hnz _ (List.of_mem_zip (hp:(p.1,p.2)∈coef.zip vars)).1) hok
 obtain ⟨a0,c0,rfl,_⟩:=IsAt.shape h0
 obtain ⟨a1,c1,rfl,_⟩:=IsAt.shape h1
 obtain ⟨a2,c2,rfl,_⟩:=hd.shape
 have HC:=hD (row_facts h0 h1 hd hg)
 have hn:=hD hg.len
 have hn2:=hD hg.zip_len
 have hn16:=hg.le16
 have hzn:coef.zip vars=[]↔vars=[]:=by
  rw [<- List.length_eq_zero_iff,<- List.length_eq_zero_iff,hg.zip_len,hg.len]
 have HZN:=hD hzn
 have HVD:Hid (vars≠[]->0<ds.length):=fun h=>by
  obtain ⟨v,hv⟩:=List.exists_mem_of_ne_nil _ h
  have:=hg.vars v hv
  omega
 clear h0 h1 hd hg hzn hnz hnd
 generalize hps:coef.zip vars=ps at *
 clear hps
 go_enter Tryz.func94,Tryz.ntmps94
 go_wp2
 go_loopw [6,7] (fun o s wr=>∃ k:Nat,∃ us:List Value,k<=ds.length/\s=.int .i64 k/\Hid (DsAppF wr (w.heap.size+1) o ((ds.take k).map norm) us)/\Hid (Below w.heap.size w wr)/\Hid (BoxL wr w.heap.size [.slice a0 coef.length c0,.slice a1 vars.length c1,.int .i64 rel,.int .i64 C])/\w.heap.size+1<=wr.heap.size) (fun _ s _=>ds.length - (intOf s).toNat)
 case atStart =>
  refine ⟨0,[],by omega,rfl,?_,?_,?_,by simp⟩
  ·refine hD (DsAppF.nil ?_)
   have h:=World.ownsRow_made (w.alloc (.cells #[.slice a0 coef.length c0,.slice a1 vars.length c1,.int .i64 rel,.int .i64 C] 65)) #[] 0 (base:=(w.alloc (.cells #[.slice a0 coef.length c0,.slice a1 vars.length c1,.int .i64 rel,.int .i64 C] 65)).heap.size) (e:=61) (size:=1) (rN _) (by decide) rfl
   rw [show (w.alloc (.cells #[.slice a0 coef.length c0,.slice a1 vars.length c1,.int .i64 rel,.int .i64 C] 65)).heap.size=w.heap.size+1 by simp] at h
   exact h
  ·refine hD ?_
   exact hZ.out.alloc (by simp) _
  ·refine hD ?_
   exact hB0.out.below ((Below.refl (w.heap.size+1) _).alloc (by simp) _) (Nat.lt_succ_self _)
 case round =>
  obtain ⟨k,us,hk,rfl,HO,HB,HL,hsz⟩:=hrel
  clear hZ hB0
  by_cases hlt:k<ds.length
  ·obtain ⟨b,off,ao,cap,rfl,q1,q2,_,hc,hrg⟩:=(HD.out).get k hlt
   have j1:(k:Int)<ds.length:=by omega
   rw [<- HB.out.cell (p:=⟨b,off+k,none⟩) q2] at hc
   have CN:=hD (refNorm_n _ ds[k] wr (hrg.below HB.out) (HDL.out _ (List.getElem_mem hlt)))
   have HST:Hid ((ds.take (k+1)).map norm=(ds.take k).map norm++[norm ds[k]]):=by
    show _=_
    rw [List.take_succ_eq_append_getElem hlt,List.map_append];rfl
   have hOl:((ds.take k).map norm).length<=4096:=by rw [List.length_map,List.length_take];omega
   have hle:=HB.out.size
   clear hrg
   generalize (ds.take k).map norm=O at *
   generalize ds[k]=d at *
   obtain ⟨oa,oc,rfl,_⟩:=(SlAt.of_own HO.out.row).shape
   go_wp2_with (first
    | (go_at_call 47;(with_reducible refine CN.out.mono ?_);rintro e W3 ⟨a3,c3,rfl,r3,b3,n3⟩;have HO3:=hD (HO.out.below b3);have HAP:=hD (apart_made HO.out.row n3);have N3:=hD (fun b h=>Nat.le_trans hsz (n3 b h));have R3:=hD r3;have B3:=hD (HB.out.trans (b3.mono hle));have L3:=hD (HL.out.below b3 (by omega));have hle3:=b3.size;clear b3 r3 n3)
    | (at_builtin;refine wpList_append1L rfl (.tmp 28) (.tmp 34) 22 rfl (w.heap.size+1) 61 i0 (.slice none 0 0) 24 Tryz.underlying22 hi hz0 hz1 hz2 rfl _ _ _ rfl HO3.out.row _ rfl rfl (by omega) (by omega) ?_;intro g1 cap1 w1 o1 bw kw gw))
   refine ⟨⟨k+1,us++[.slice a3 (norm d).length c3],by omega,by go_num,?_,?_,?_,?_⟩,by simp [intOf];omega⟩
   ·rw [HST.out];exact hD (HO3.out.push R3.out (fun _=>HAP.out) N3.out o1 kw gw)
   ·exact hD (B3.out.trans (bw.mono (by omega)))
   ·exact hD (L3.out.below bw (by omega))
   ·have:=bw.size;omega
  ·obtain rfl:k=ds.length:=by omega
   rw [List.take_length] at HO
   have HOO:=hD HO.out.own
   have hmn:=hD (show (ds.map norm).length=ds.length by simp)
   have HGN:Hid (∀ j:Nat,(ds.map norm).getD j []=norm (ds.getD j [])):=fun j=>getD_map_norm ds j
   clear HO
   obtain ⟨oa,oc,rfl,_⟩:=HOO.out.at.shape
   obtain ⟨l1,_⟩:=HL.out.get 1 rfl
   obtain ⟨l2,_⟩:=HL.out.get 2 rfl
   obtain ⟨l3,_⟩:=HL.out.get 3 rfl
   obtain ⟨l0,_⟩:=HL.out.get 0 rfl
   by_cases hv0:vars=[]
   ·have hvl:((vars.length:Int)==0)=true:=by rw [hv0];rfl
    have hpn:=HZN.out.2 hv0
    have HRE:Hid (onceL rel C ds ps=if holdsS rel C 0=false then none else some (ds.map norm)):=by
     show _=_
     rw [hpn]
     unfold onceL
     rw [if_pos (show allOk ds []=true from rfl)]
     have:=says_nil rel C ds
     by_cases h:holdsS rel C 0=false
     ·rw [if_pos h,if_pos ⟨rfl,this.2 h⟩]
     ·rw [if_neg h,if_neg (fun x=>h (this.1 x.2))];rfl
    clear hpn CSM CWO CSU CFX CST HNW HND HC
    generalize onceL rel C ds ps=RES at *
    unfold holdsS at HRE
    have z1:(C==0)=decide (C=0):=rfl
    by_cases hc0:C=0
    ·subst hc0
     rcases hr with rfl | rfl | rfl
     ·have HR2:Hid (RES=some (ds.map norm)):=HRE.out
      clear HRE
      go_wp2
      go_ret2
      exact ⟨HB.out,.inl ⟨ds.map norm,_,_,HR2.out,(by first | rfl | (rw [hmn.out];rfl)),(HOO.out.from (rN _)).mono (Nat.le_succ _)⟩⟩
     ·have HR2:Hid (RES=none):=HRE.out
      clear HRE
      go_wp2
      go_ret2
      exact ⟨HB.out,.inr ⟨HR2.out,rfl⟩⟩
     ·have HR2:Hid (RES=some (ds.map norm)):=HRE.out
      clear HRE
      go_wp2
      go_ret2
      exact ⟨HB.out,.inl ⟨ds.map norm,_,_,HR2.out,(by first | rfl | (rw [hmn.out];rfl)),(HOO.out.from (rN _)).mono (Nat.le_succ _)⟩⟩
    ·have q1:(C==0)=false:=beq_eq_false_iff_ne.2 hc0
     have q2:(C != 0)=true:=by simpa using hc0
     have q3:decide ((0:Int)=C)=false:=by simp;omega
     rcases hr with rfl | rfl | rfl
     ·have HR2:Hid (RES=none):=by show _=_;rw [HRE.out];simp [q3]
      clear HRE q3 hc0 z1
      go_wp2
      go_ret2
      exact ⟨HB.out,.inr ⟨HR2.out,rfl⟩⟩
     ·have HR2:Hid (RES=some (ds.map norm)):=by show _=_;rw [HRE.out];simp;omega
      clear HRE q3 hc0 z1
      go_wp2
      go_ret2
      exact ⟨HB.out,.inl ⟨ds.map norm,_,_,HR2.out,(by first | rfl | (rw [hmn.out];rfl)),(HOO.out.from (rN _)).mono (Nat.le_succ _)⟩⟩
     ·by_cases hlt0:C<0
      ·have HR2:Hid (RES=none):=by show _=_;rw [HRE.out];simp;omega
       clear HRE q3 hc0 z1
       go_wp2
       go_ret2
       exact ⟨HB.out,.inr ⟨HR2.out,rfl⟩⟩
      ·have HR2:Hid (RES=some (ds.map norm)):=by show _=_;rw [HRE.out];simp;omega
       clear HRE q3 hc0 z1
       go_wp2
       go_ret2
       exact ⟨HB.out,.inl ⟨ds.map norm,_,_,HR2.out,(by first | rfl | (rw [hmn.out];rfl)),(HOO.out.from (rN _)).mono (Nat.le_succ _)⟩⟩
   ·have hvl:((vars.length:Int)==0)=false:=beqf (by have:=List.length_pos_iff.2 hv0;omega)
    have hpn:¬ ps=[]:=fun h=>hv0 (HZN.out.1 h)
    have CSM1:=hD (CSM.out wr HB.out)
    have hdp:=HVD.out hv0
    clear CSM HZN HVD hv0
    cases hA:allOk ds ps with
    | false =>
     have HRE:Hid (onceL rel C ds ps=none):=by
      show _=_
      unfold onceL;rw [if_neg (by rw [hA];simp)]
     rw [hA] at CSM1
     clear CWO CSU CFX CST HNW HND HC hA
     go_wp2_with (go_at_call 104;(with_reducible refine CSM1.out.mono ?_);rintro e W1 ⟨rfl,bb⟩;have B1:=hD (bT HB.out bb);clear bb)
     go_ret2
     exact ⟨B1.out,.inr ⟨HRE.out,rfl⟩⟩
    | true =>
     have HRE:Hid (onceL rel C ds ps=onceGo rel C ds (loS ds ps) (hiS ds ps) ps (ds.map norm)):=by
      show _=_
      unfold onceL;rw [if_pos hA,if_neg (fun h=>hpn h.1)]
     rw [hA] at CSM1
     have CSU2:=hD (CSU.out hA)
     have HNW2:=hD (HNW.out hA)
     clear CSU HNW hA hpn
     generalize ds.map norm=O at *
     obtain ⟨g,cg,ao0,cap0,he,hg0,_,hgl,_,_,_,_⟩:=HOO.out.get 0 (by rw [hmn.out];exact hdp)
     simp only [Value.slice.injEq,true_and] at he
     obtain ⟨rfl,rfl⟩:=he
     rw [hmn.out] at HOO |-
     go_wp2_with (go_at_call 104;(with_reducible refine CSM1.out.mono ?_);rintro e W1 ⟨rfl,bb⟩;have B1:=hD (bT HB.out bb);have L1:=hD (HL.out.below bb (by omega));have O1:=hD (HOO.out.below bb);have hl1:=bb.size;clear bb)
     clear HB HL HOO CSM1 l0 l1 l2 l3 hsz
     generalize onceL rel C ds ps=RES at *
     generalize loS ds ps=lo at *
     generalize hiS ds ps=hi at *
     go_loopw [11] (fun s wr=>∃ k:Nat,∃ out:Ds,k<=ps.length/\s=.int .i64 k/\Hid (out.length=ds.length)/\Hid (DsOwnF (w.heap.size+1) wr (w.heap.size+1) (.slice (some ⟨g,0,none⟩) ds.length oc) out)/\Hid (onceGo rel C ds lo hi (ps.drop k) out=RES)/\Hid (∀ j,k<=j->(hj:j<ps.length)->out.getD ps[j].2.toNat []=norm (domOf ds ps[j].2)) /\
      Hid (Below w.heap.size w wr)/\Hid (BoxL wr w.heap.size [.slice a0 coef.length c0,.slice a1 vars.length c1,.int .i64 rel,.int .i64 C])/\W1.heap.size<=wr.heap.size) (fun s _=>ps.length - (intOf s).toNat)
     case atStart=>exact ⟨0,O,by omega,rfl,hmn,O1,HRE.out.symm,fun j _ hj=>HGN.out _,B1,L1,rN _⟩
     case round =>
      clear HRE HGN O1 B1 L1
      obtain ⟨k,out,hk,rfl,HOL,HOW,HRS,HIV,HB,HL,hsz⟩:=hrel
      obtain ⟨l1,_⟩:=HL.out.get 1 rfl
      obtain ⟨l2,_⟩:=HL.out.get 2 rfl
      obtain ⟨l3,_⟩:=HL.out.get 3 rfl
      obtain ⟨l0,_⟩:=HL.out.get 0 rfl
      by_cases hlt:k<ps.length
      ·obtain ⟨b0,o0,b1,o1,b2,o2,n,ao,cap,cf,d,⟨rfl,rfl,rfl⟩,⟨q0,q1,q2⟩,⟨qb0,qb1,qb2⟩,hnn,x0,x1,x2,x3,e1,e2,hdl',hc1,hc2⟩:=HC.out k hlt
       have j2:(k:Int)<vars.length:=by have:=hn.out;have:=hn2.out;omega
       have j3:(n:Int)<ds.length:=by omega
       have j4:(k:Int)<=16:=by have:=hn2.out;omega
       have j5:vars.length<=16:=by have:=hn.out;omega
       have hiv:=HIV.out k (rN _) hlt
       have hnw:=HNW2.out k hlt
       rw [e1] at hiv hnw
       simp only [Int.toNat_natCast,e2] at hiv hnw
       have hln:n<out.length:=by have:=HOL.out;omega
       have hon:out[n]=norm d:=by rw [<- hiv,getD_at _ _ hln]
       have CW2:=hD (CWO.out k wr HB.out)
       have CS2:=hD (CSU2.out k)
       have CF2:=hD (CFX.out k)
       obtain ⟨st,hst⟩:∃ st:Int->Bool,∀ x,st x=staysR rel C cf (loS ds (ps.eraseIdx k)) (hiS ds (ps.eraseIdx k)) (fixedB ds (ps.eraseIdx k)) x:=⟨_,fun _=>rfl⟩
       have CT2:Hid (∀ (x:Int) W,Below w.heap.size w W->-200<=x->x<=200->Calls Tryz.prog 107 #[.agg #[.slice (some ⟨b0,o0,none⟩) coef.length c0,.slice (some ⟨b1,o1,none⟩) vars.length c1,.int .i64 rel,.int .i64 C],.int .i64 k,.int .i64 x,.int .i64 (loS ds (ps.eraseIdx k)),.int .i64 (hiS ds (ps.eraseIdx k)),.bool (fixedB ds (ps.eraseIdx k))] W fun e w'=>e=.returned (.bool (st x))/\Below W.heap.size W w'):=fun x W h g1 g2=>by
        rw [hst x]
        exact CST.out k cf x _ _ _ W h hlt (fun _=>by rw [e1]) g1 g2
       have hfun:(fun x=>!staysR rel C cf (loS ds (ps.eraseIdx k)) (hiS ds (ps.eraseIdx k)) (fixedB ds (ps.eraseIdx k)) x)=fun x=>!st x:=by funext x;rw [hst]
       rw [hfun] at hnw
       have hgo:RES=if narrowAt rel C ds lo hi (cf,(n:Int))=[] then none else onceGo rel C ds lo hi (ps.drop (k+1)) (out.set n (narrowAt rel C ds lo hi (cf,(n:Int)))):=by
        rw [<- HRS.out,List.drop_eq_getElem_cons hlt,e1];rfl
       have hiv2:Hid (∀ NW:List Rg,∀ j,k+1<=j->(hj:j<ps.length)->(out.set n NW).getD ps[j].2.toNat []=norm (domOf ds ps[j].2)):=fun NW j h1 h2=>by
        rw [getD_set,if_neg]
        ·exact HIV.out j (by omega) h2
        ·rintro ⟨h3,_⟩
         refine HND.out j k (by omega) h2 hlt ?_
         rw [e1];simpa using h3
       have HGO:=hD hgo
       obtain ⟨g',cg',ao',cap',he,_,_,_,hcn,hfn,hrn,hnn9⟩:=HOW.out.get n hln
       have HNN:=hD hnn9
       clear hnn9
       simp only [Value.slice.injEq,Option.some.injEq,Addr.mk.injEq,and_true] at he
       obtain ⟨rfl,hjk,rfl⟩:=he
       clear hjk
       rw [hon] at hcn hrn HNN
       have hDB:Hid (∀ r∈norm d,-200<=r.1/\r.1<=r.2/\r.2<=200):=norm_bounds d
       have hDl:(norm d).length<=201:=norm_len d
       have hDs:sizeL (norm d)<=401:=by unfold norm;rw [sizeL_canon];exact (cnt_nonneg _ 401 (-200)).2
       rw [<- HB.out.cell (p:=⟨b1,o1+k,none⟩) qb1] at x1
       have HGL:Hid (∀ j,(goneL (fun x=>!st x) ((norm d).take j)).length<=402):=fun j=>by
        have h1:=goneL_len (fun x=>!st x) ((norm d).take j) (fun r hr=>(hDB.out r (List.mem_of_mem_take hr)).2.1)
        have h2:=sizeL_bounds ((norm d).take j) (-200) (by decide) ((norm_normal d).take j)
        omega
       have HGA:Hid ((goneL (fun x=>!st x) (norm d)).length<=401):=by
        have h1:=goneL_len (fun x=>!st x) (norm d) (fun r hr=>(hDB.out r hr).2.1)
        show _<=_
        omega
       have HNW3:=hD hnw
       have HRN:=hD hrn
       have HX1:=hD x1
       have HCN:=hD (And.intro hcn hfn)
       clear hiv hnw hon hst hfun hgo x0 x2 x3 e1 e2 hrn HIV HRS
       generalize loS ds (ps.eraseIdx k)=LO at *
       generalize hiS ds (ps.eraseIdx k)=HI at *
       generalize fixedB ds (ps.eraseIdx k)=ON at *
       generalize narrowAt rel C ds lo hi (cf,(n:Int))=NW at *
       generalize norm d=D at *
       have hgw:g<wr.heap.size:=World.block_lt_of_cell? wr _ hcn
       clear hcn hfn x1
       go_wp2_with (first
        | (go_at_call 105;(with_reducible refine CW2.out.mono ?_);rintro e W2 ⟨a4,c4,a5,c5,rfl,i4,i5,bb⟩;have B2:=hD (bT HB.out bb);have I4:=hD i4;have I5:=hD i5;have L2:=hD (HL.out.below bb (by omega));have Q2:=hD bb;have hs2:=bb.size;clear bb i4 i5)
        | (go_at_call 104;(with_reducible refine (CS2.out _ _ _ (bL B2.out _) (I4.out.alloc _) (I5.out.alloc _)).mono ?_);rintro e W4 ⟨rfl,bb⟩;have B4:=hD ((bL B2.out _).trans (bb.mono (bL B2.out _).size));have J4:=hD ((I4.out.alloc _).below bb);have J5:=hD ((I5.out.alloc _).below bb);have M4:=hD ((BoxL.mk' W2 #[.slice a4 (coef.eraseIdx k).length c4,.slice a5 (vars.eraseIdx k).length c5,.int .i64 rel,.int .i64 C] 65).below bb (by simp));obtain ⟨m0,_⟩:=M4.out.get 0 rfl;obtain ⟨m1,_⟩:=M4.out.get 1 rfl;obtain ⟨m2,_⟩:=M4.out.get 2 rfl;obtain ⟨m3,_⟩:=M4.out.get 3 rfl;have Q4:=hD (Q2.out.trans ((bA _).trans (bb.mono (by simp)) |>.mono hs2));have hs4:=bb.size;clear bb)
        | (go_at_call 106;(with_reducible refine (CF2.out _ _ _ B4.out J4.out J5.out).mono ?_);rintro e W5 ⟨rfl,bb⟩;have Q5:=hD (bT Q4.out bb);have A1:=cell_al (((HL.out.below Q5.out (by omega)).get 1 rfl).1);have A2:=cell_al ((Q5.out.cell (p:=⟨b1,o1+k,none⟩) (World.block_lt_of_cell? wr _ HX1.out)).trans HX1.out);have A3:=cell_al ((Q5.out.cell (p:=⟨g,n,none⟩) hgw).trans HCN.out.1);clear bb))
       have B5:=hD (bT HB.out Q5.out)
       have L5:=hD (HL.out.below Q5.out (by omega))
       have O5:=hD (HOW.out.below Q5.out)
       have R5:=hD (HRN.out.below Q5.out)
       have X5:=hD ((Q5.out.cell (p:=⟨b1,o1+k,none⟩) (World.block_lt_of_cell? wr _ HX1.out)).trans HX1.out)
       have C5:=hD (And.intro ((Q5.out.cell (p:=⟨g,n,none⟩) hgw).trans HCN.out.1) ((Q5.out.frozen (p:=⟨g,n,none⟩) hgw).trans HCN.out.2))
       have hs5:=Q5.out.size
       clear A1 A2 A3 B2 B4 I4 I5 J4 J5 L2 M4 Q2 Q4 m0 m1 m2 m3 hs2 hs4 CW2 CS2 CF2 HRN HX1 HCN HOW l0 l1 l2 l3
       obtain ⟨wo,rfl⟩:∃ wo:World,wo=wr:=⟨_,rfl⟩
       go_loopw [17,19] (fun go s wx=>∃ j:Nat,j<=D.length/\s=.int .i64 j/\wx.ownsRow W5.heap.size 77 2 go (goneL (fun x=>!st x) (D.take j)).length (cellsR (goneL (fun x=>!st x) (D.take j)))/\Hid (Below W5.heap.size W5 wx)) (fun _ s _=>D.length - (intOf s).toNat)
       case atStart=>exact ⟨0,by omega,rfl,World.ownsRow_made W5 #[] 0 (rN _) (by decide) rfl,hD (bA _)⟩
       case round =>
        obtain ⟨j,hjl,rfl,hgo,HB6⟩:=hrel
        have hs6:=HB6.out.size
        by_cases hjt:j<D.length
        ·obtain ⟨b3,o3,c3,he3,hcap3,hbs3,hc3⟩:=RgAt.at R5.out (by omega)
         simp only [Value.slice.injEq,true_and] at he3
         obtain ⟨rfl,rfl⟩:=he3
         obtain ⟨d1,d2⟩:=hc3 j hjt
         have D1:=hD d1
         have D2:=hD d2
         rw [<- HB6.out.cell (p:=⟨b3,o3+j * 2,none⟩) hbs3] at d1
         rw [<- HB6.out.cell (p:=⟨b3,o3+j * 2+1,none⟩) hbs3] at d2
         have j6:(j:Int)<D.length:=by omega
         have hbd:=hDB.out _ (List.getElem_mem hjt)
         have HGS:=hD (goneL_step (fun x=>!st x) D j hjt)
         have hgl:=HGL.out j
         clear hc3
         generalize hr':D[j]=r at *
         clear hr'
         obtain ⟨hb1,hb2,hb3⟩:=hbd
         generalize goneL (fun x=>!st x) (D.take j)=G0 at *
         obtain ⟨ga,gc,rfl,_⟩:=(SlAt.of_own hgo).shape
         have HGO0:=hD hgo
         clear hgo
         obtain ⟨wp,rfl⟩:∃ wp:World,wp=wr:=⟨_,rfl⟩
         go_wp2
         go_loopw [17,20] (fun go s wx=>∃ m:Nat,m<=(r.2+1 - r.1).toNat/\s=.int .i64 (r.1+m)/\wx.ownsRow W5.heap.size 77 2 go (G0++runG (fun x=>!st x) r.1 m).length (cellsR (G0++runG (fun x=>!st x) r.1 m))/\Hid (Below W5.heap.size W5 wx)) (fun _ s _=>(201 - intOf s).toNat)
         case atStart=>exact ⟨0,by omega,by simp,by simpa [runG] using HGO0.out,HB6⟩
         case round =>
          clear HGO0 HB6 hs6 d1 d2
          obtain ⟨m,hml,rfl,hgo,HB7⟩:=hrel
          have hs7:=HB7.out.size
          have d1:=(HB7.out.cell (p:=⟨b3,o3+j * 2,none⟩) hbs3).trans D1.out
          have d2:=(HB7.out.cell (p:=⟨b3,o3+j * 2+1,none⟩) hbs3).trans D2.out
          have hrl:=runG_len (fun x=>!st x) r.1 m
          by_cases hmt:m<(r.2+1 - r.1).toNat
          ·obtain ⟨l0,_⟩:=(L5.out.below HB7.out (by omega)).get 0 rfl
           obtain ⟨l1,_⟩:=(L5.out.below HB7.out (by omega)).get 1 rfl
           obtain ⟨l2,_⟩:=(L5.out.below HB7.out (by omega)).get 2 rfl
           obtain ⟨l3,_⟩:=(L5.out.below HB7.out (by omega)).get 3 rfl
           have hle1:r.1+(m:Int)<=r.2:=by omega
           have CT3:=hD (CT2.out (r.1+m) wr (bT B5.out HB7.out) (by omega) (by omega))
           have HRS:Hid (runG (fun x=>!st x) r.1 (m+1)=runG (fun x=>!st x) r.1 m++(if st (r.1+m)=true then [] else [(r.1+(m:Int),r.1+(m:Int))])):=by
            show _=_
            rw [runG]
            cases hq:st (r.1+m) <;> simp
           have hol:(G0++runG (fun x=>!st x) r.1 m).length<=1000:=by rw [List.length_append];omega
           have HAS:Hid (G0++runG (fun x=>!st x) r.1 (m+1)=(G0++runG (fun x=>!st x) r.1 m)++(if st (r.1+m)=true then [] else [(r.1+(m:Int),r.1+(m:Int))])):=by
            show _=_
            rw [HRS.out,List.append_assoc]
           generalize G0++runG (fun x=>!st x) r.1 m=G1 at *
           have hx1:-200<=r.1+(m:Int):=by omega
           have hx2:r.1+(m:Int)<=200:=by omega
           have HX:Hid (r.1+(m:Int)+1=r.1+((m+1:Nat):Int)):=by show _=_;push_cast;omega
           have hM:(201 - (r.1+(m:Int)+1)).toNat<(201 - (r.1+(m:Int))).toNat:=by omega
           clear hrl HRS
           generalize st (r.1+(m:Int))=sb at *
           generalize r.1+(m:Int)=x at *
           cases sb
           ·go_wp2_with (first
             | (go_at_call 107;(with_reducible refine CT3.out.mono ?_);rintro e W7 ⟨rfl,bb⟩;have go7:=own_below hgo bb;have Q7:=hD (HB7.out.trans (bb.mono hs7));have hs8:=Q7.out.size;clear bb)
             | (at_builtin;refine wpList_append2 rfl (.tmp 135) (.tmp 139) 61 rfl W5.heap.size 77 i1 (.agg #[.int .i64 0,.int .i64 0]) 16 Tryz.underlying61 hj hy0 hy1 hy2 rfl _ _ _ rfl go7 _ _ rfl rfl rfl rfl (by omega) hs8 ?_;intro v1 w1 ow bw _))
            refine ⟨⟨m+1,by omega,by rw [HX.out],?_,hD (Q7.out.trans bw)⟩,hM⟩
            rw [HAS.out,List.length_append,cellsR_append]
            exact ow
           ·go_wp2_with (first
             | (go_at_call 107;(with_reducible refine CT3.out.mono ?_);rintro e W7 ⟨rfl,bb⟩;have go7:=own_below hgo bb;have Q7:=hD (HB7.out.trans (bb.mono hs7));have hs8:=Q7.out.size;clear bb))
            refine ⟨⟨m+1,by omega,by rw [HX.out],?_,Q7⟩,hM⟩
            rw [HAS.out]
            simpa using go7
          ·obtain rfl:m=(r.2+1 - r.1).toNat:=by omega
           have hle1:¬ r.1+((r.2+1 - r.1).toNat:Int)<=r.2:=by omega
           have HGS2:=hD (show goneL (fun x=>!st x) (D.take (j+1))=G0++runG (fun x=>!st x) r.1 (r.2+1 - r.1).toNat from HGS.out)
           clear hrl
           generalize G0++runG (fun x=>!st x) r.1 (r.2+1 - r.1).toNat=G1 at *
           generalize r.1+((r.2+1 - r.1).toNat:Int)=x at *
           go_wp2
           refine ⟨⟨j+1,by omega,by go_num,?_,HB7⟩,by simp [intOf];omega⟩
           rw [HGS2.out];exact hgo
        ·obtain rfl:j=D.length:=by omega
         rw [List.take_length] at hgo
         have hgg5:w.heap.size+1<=g:=hg0
         have hgw5:g<W5.heap.size:=by omega
         obtain ⟨ga,gc,rfl,_⟩:=(SlAt.of_own hgo).shape
         by_cases hG:goneL (fun x=>!st x) D=[]
         ·rw [leftR,if_pos hG] at HNW3
          obtain rfl:NW=D:=HNW3.out.symm
          rw [hG] at hgo |-
          have Q9:=HB6
          have R9:=hD (R5.out.below Q9.out)
          obtain ⟨l1,_⟩:=(L5.out.below Q9.out (by omega)).get 1 rfl;have x9:=(Q9.out.cell (p:=⟨b1,o1+k,none⟩) (World.block_lt_of_cell? W5 _ X5.out)).trans X5.out;have c9:=(Q9.out.cell (p:=⟨g,n,none⟩) (by omega)).trans C5.out.1;have f9:=(Q9.out.frozen (p:=⟨g,n,none⟩) (by omega)).trans C5.out.2
          clear HGA HGL hgo hG hDB HNW3
          by_cases hnw:NW=[]
          ·have hz:((NW.length:Int)==0)=true:=by rw [hnw];rfl
           go_wp2
           have B9:=hD (bT B5.out Q9.out)
           go_ret2
           exact ⟨B9.out,.inr ⟨by rw [HGO.out,if_pos hnw],rfl⟩⟩
          ·have hz:((NW.length:Int)==0)=false:=beqf (by have:=List.length_pos_iff.2 hnw;omega)
           go_wp2
           have L9:=hD (L5.out.below Q9.out (by omega))
           have O9:=hD (O5.out.below Q9.out)
           have hb9:=Q9.out.size
           have B9:=hD (bT B5.out Q9.out)
           refine ⟨⟨k+1,out.set n NW,Nat.succ_le_of_lt hlt,by go_num,hD (by rw [List.length_set];exact HOL.out),?_,hD (by rw [HGO.out,if_neg hnw]),fun j h1 h2=>hiv2.out NW j h1 h2,hD (B9.out.setCell (p:=⟨g,n,none⟩) (by dsimp only;omega) _),hD (L9.out.far (a:=⟨g,n,none⟩) (by dsimp only;omega) _),by simp [World.setCell];omega⟩,by simp [intOf];omega⟩
           refine hD ?_
           have hh:=O9.out
           have hl:=HOL.out
           rw [<- hl] at hh |-
           exact DsOwnF.set hh n hln R9.out HNN.out
         ·rw [leftR,if_neg hG] at HNW3
          have hGp:0<(goneL (fun x=>!st x) D).length:=List.length_pos_iff.2 hG
          have hGL:=glueL_len (goneL (fun x=>!st x) D)
          have CJ:=hD (joined_c _ (goneL (fun x=>!st x) D) wr (RgAt.own hgo) HGA.out (goneL_bnd _ D hDB.out))
          have CN:Hid (∀ v W,RgAt W v (glueL (goneL (fun x=>!st x) D))->Calls Tryz.prog 47 #[v] W (RetR (norm (glueL (goneL (fun x=>!st x) D))) W)):=fun v W h=>refNorm_c v _ W h (by have:=HGA.out;omega)
          have CM:Hid (∀ v W,RgAt W v (norm (glueL (goneL (fun x=>!st x) D)))->Below W5.heap.size W5 W->Calls Tryz.prog 79 #[.slice ao' D.length cap',v] W (RetN NW W)):=fun v W h hb=>by
           have hm:=refMinus_n _ v D _ W (R5.out.below hb) h (by omega) (Nat.le_trans (norm_len _) (by omega))
           rwa [HNW3.out] at hm
          clear HGL hgo hG hDB HGA hGL
          generalize norm (glueL (goneL (fun x=>!st x) D))=NG at *
          generalize glueL (goneL (fun x=>!st x) D)=JG at *
          generalize goneL (fun x=>!st x) D=G at *
          have hGd:(0:Int)<(G.length:Int):=by omega
          by_cases hnw:NW=[]
          ·have hz:((NW.length:Int)==0)=true:=by rw [hnw];rfl
           go_wp2_with (first
            | (go_at_call 108;(with_reducible refine CJ.out.mono ?_);rintro e W7 ⟨a7,c7,rfl,r7,b7⟩;have Q7:=hD (HB6.out.trans (b7.mono hs6));have R7:=hD r7;clear b7 r7)
            | (go_at_call 47;(with_reducible refine (CN.out _ _ R7.out).mono ?_);rintro e W8 ⟨a8,c8,rfl,r8,b8⟩;have Q8:=hD (bT Q7.out b8);have R8:=hD r8;clear b8 r8)
            | (go_at_call 79;(with_reducible refine (CM.out _ _ R8.out Q8.out).mono ?_);rintro e W9 ⟨a9,c9',rfl,r9,b9,n9⟩;have N9:=hD n9;have Q9:=hD (bT Q8.out b9);have R9:=hD r9;clear b9 r9 n9;obtain ⟨l1,_⟩:=(L5.out.below Q9.out (by omega)).get 1 rfl;have x9:=(Q9.out.cell (p:=⟨b1,o1+k,none⟩) (World.block_lt_of_cell? W5 _ X5.out)).trans X5.out;have c9:=(Q9.out.cell (p:=⟨g,n,none⟩) (by omega)).trans C5.out.1;have f9:=(Q9.out.frozen (p:=⟨g,n,none⟩) (by omega)).trans C5.out.2))
           have B9:=hD (bT B5.out Q9.out)
           go_ret2
           exact ⟨B9.out,.inr ⟨by rw [HGO.out,if_pos hnw],rfl⟩⟩
          ·have hz:((NW.length:Int)==0)=false:=beqf (by have:=List.length_pos_iff.2 hnw;omega)
           go_wp2_with (first
            | (go_at_call 108;(with_reducible refine CJ.out.mono ?_);rintro e W7 ⟨a7,c7,rfl,r7,b7⟩;have Q7:=hD (HB6.out.trans (b7.mono hs6));have R7:=hD r7;clear b7 r7)
            | (go_at_call 47;(with_reducible refine (CN.out _ _ R7.out).mono ?_);rintro e W8 ⟨a8,c8,rfl,r8,b8⟩;have Q8:=hD (bT Q7.out b8);have R8:=hD r8;clear b8 r8)
            | (go_at_call 79;(with_reducible refine (CM.out _ _ R8.out Q8.out).mono ?_);rintro e W9 ⟨a9,c9',rfl,r9,b9,n9⟩;have N9:=hD n9;have Q9:=hD (bT Q8.out b9);have R9:=hD r9;clear b9 r9 n9;obtain ⟨l1,_⟩:=(L5.out.below Q9.out (by omega)).get 1 rfl;have x9:=(Q9.out.cell (p:=⟨b1,o1+k,none⟩) (World.block_lt_of_cell? W5 _ X5.out)).trans X5.out;have c9:=(Q9.out.cell (p:=⟨g,n,none⟩) (by omega)).trans C5.out.1;have f9:=(Q9.out.frozen (p:=⟨g,n,none⟩) (by omega)).trans C5.out.2))
           have L9:=hD (L5.out.below Q9.out (by omega))
           have O9:=hD (O5.out.below Q9.out)
           have hb9:=Q9.out.size
           have B9:=hD (bT B5.out Q9.out)
           refine ⟨⟨k+1,out.set n NW,Nat.succ_le_of_lt hlt,by go_num,hD (by rw [List.length_set];exact HOL.out),?_,hD (by rw [HGO.out,if_neg hnw]),fun j h1 h2=>hiv2.out NW j h1 h2,hD (B9.out.setCell (p:=⟨g,n,none⟩) (by dsimp only;omega) _),hD (L9.out.far (a:=⟨g,n,none⟩) (by dsimp only;omega) _),by simp [World.setCell];omega⟩,by simp [intOf];omega⟩
           refine hD ?_
           have hh:=O9.out
           have hl:=HOL.out
           rw [<- hl] at hh |-
           exact DsOwnF.set hh n hln R9.out (fun b h=>by have:=N9.out b h;have:=B5.out.size;have:=Q8.out.size;omega)
      ·obtain rfl:k=ps.length:=by omega
       have hltv:¬ ps.length<vars.length:=by have:=hn.out;have:=hn2.out;omega
       clear CWO CSU2 CFX CST HNW2 HND HC
       go_wp2
       go_ret2
       refine ⟨HB.out,.inl ⟨out,some ⟨g,0,none⟩,oc,?_,?_,?_⟩⟩
       ·rw [<- HRS.out,List.drop_length];rfl
       ·rw [HOL.out];rfl
       ·have hl:=HOL.out
        have hh:=(HOW.out.from (rN _)).mono (Nat.le_succ _)
        rw [hl];exact hh
end
end Go.Proofs.YtaekdgikgbdnnaaGreat
