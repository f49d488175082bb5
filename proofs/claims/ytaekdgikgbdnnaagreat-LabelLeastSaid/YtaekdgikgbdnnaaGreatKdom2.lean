/-
  slices.SortFunc AT AN OWN ROW OF RANGES.
  dom.Norm, walked.
  dom.Meet, dom.Compl, dom.Minus, walked.
  '!=' at ranges.
  dom.Compl, dom.Size, dom.Ends, dom.At; coneylaw14.many, coneylaw14.same, walked.
  dom.Minus, dom.Size, dom.Ends, dom.At, walked.
-/
import Derived.Test.YtaekdgikgbdnnaaGreatKdom1
import Derived.Sort.OwnSorted
import Derived.Sort.Grow
import Derived.Shelf.SlSortCmp.NoneTotal
import Derived.BigQuiet
import Derived.BigRegion
import Derived.Laws.StructEq
namespace Go.Proofs.YtaekdgikgbdnnaaGreat
section
open Go.RowKit Go.Sort Go.Lib
def encR (x:Rg):List Value:=[.int .i64 x.1,.int .i64 x.2]
theorem flat_cells (d:Array Rg):(flatK encR 2 d).toList=cellsR d.toList:=by
 apply List.ext_getElem?
 intro t
 by_cases ht:t<d.size * 2
 ·have h1:(flatK encR 2 d)[t]! = (encR d[t / 2]!)[t % 2]! := get_flatK encR 2 d t ht
  have h2:(flatK encR 2 d)[t]?=some (flatK encR 2 d)[t]! := by rw [getElem?_pos _ t (by simpa using ht),getElem!_pos _ t (by simpa using ht)]
  rw [Array.getElem?_toList,h2,h1]
  have hd:t / 2<d.toList.length:=by simp;omega
  obtain ⟨a,b⟩:=cellsR_at d.toList (t / 2) hd
  have e:d[t / 2]! = d.toList[t / 2]:=by rw [getElem!_pos d (t / 2) (by simpa using hd)];simp
  rw [e]
  rcases (show t % 2=0\/t % 2=1 by omega) with h | h
  ·rw [show (cellsR d.toList)[t]?=(cellsR d.toList)[t / 2 * 2]? by congr 1;omega,a,h];rfl
  ·rw [show (cellsR d.toList)[t]?=(cellsR d.toList)[t / 2 * 2+1]? by congr 1;omega,b,h];rfl
 ·rw [List.getElem?_eq_none (by simp;omega),List.getElem?_eq_none (by rw [cellsR_length];simp;omega)]
theorem holdsK_of_own {w:World} {g:Nat} {cur:Array Value} {e:TypeId} {rs:List Rg} (hb:w.heap[g]?=some (.cells cur e (0,0))) (ht:cur.toList.take (rs.length * 2)=cellsR rs):HoldsK encR 2 w g 0 rs.toArray:=by
 intro j hj
 have hj':j<rs.length * 2:=by simpa using hj
 refine ⟨?_,by simp [World.frozen?,hb]⟩
 have h1:(cur.toList.take (rs.length * 2))[j]?=(flatK encR 2 rs.toArray).toList[j]?:=by rw [ht,flat_cells]
 rw [List.getElem?_take_of_lt hj'] at h1
 simp only [World.cell?,hb,Nat.zero_add,Option.isSome_none,Bool.false_eq_true,if_false,id]
 rw [<- Array.getElem?_toList,h1,Array.getElem?_toList,getElem?_pos _ j hj,getElem!_pos _ j hj]
theorem heap_sortedK {w:World} {g n:Nat} {os:Array Obj} {cur:Array Value} {e:TypeId} {fr:Nat×Nat} (d:Array Rg) (hb:w.heap[g]?=some (.cells cur e fr)) :
  (sortWorldK encR 2 w g 0 n d os).heap[g]?=some (.cells (putCells id 0 (flatK encR 2 d) cur) e fr):=by
 have hg:g<w.heap.size:=(Array.getElem?_eq_some_iff.1 hb).1
 unfold sortWorldK putRowK
 rw [heap_grow_old _ _ (by simpa using hg)]
 simp [putRow,mapBlock,Sort.ahead,Array.getElem?_modify,hb,onCells]
theorem grownBy_sortedK {w:World} {g n:Nat} {os:Array Obj} (d:Array Rg):w.grownBy (sortWorldK encR 2 w g 0 n d os) (some g):=by
 refine ⟨rfl,rfl,rfl,by simp [sortWorldK,putRowK],fun k hk hne=>?_⟩
 unfold sortWorldK putRowK
 rw [heap_grow_old _ _ (by simpa using hk)]
 have:g≠k:=fun e=>hne (by rw [e])
 simp [putRow,mapBlock,Sort.ahead,Array.getElem?_modify,this]
theorem take_putCellsK (cur:Array Value) (d:Array Rg) (h:d.size * 2<=cur.size):(putCells id 0 (flatK encR 2 d) cur).toList.take (d.size * 2)=cellsR d.toList:=by
 rw [<- flat_cells]
 apply List.ext_getElem?
 intro j
 by_cases hj:j<d.size * 2
 ·rw [List.getElem?_take_of_lt hj,Array.getElem?_toList,Array.getElem?_toList,getElem?_pos (flatK encR 2 d) j (by simpa using hj)]
  simp [putCells,hj,show j<cur.size by omega]
 ·rw [List.getElem?_take_eq_none (by omega),List.getElem?_eq_none (by simp;omega)]
theorem Tryz.closure (x y:Rg) (W:World):Calls Tryz.prog 81 #[.agg #[.int .i64 x.1,.int .i64 x.2],.agg #[.int .i64 y.1,.int .i64 y.2]] W fun e w'=>e=.returned (.int .i64 (Lib.compareInt x.1 y.1))/\∃ q os',w'=grow (W.drewN q) os':=by
 have hcon:=fun W'=>AnyG.cmp_Compare_int Tryz.cmpInt x.1 y.1 W'
 change ∀ W',Calls Tryz.prog 82 _ _ _ at hcon
 generalize Lib.compareInt x.1 y.1=r at hcon |-
 go_enter Tryz.func81,Tryz.ntmps81
 go_wp2_with (go_at_call 82;refine (hcon _).mono ?_;rintro e w' ⟨rfl,rfl⟩)
 go_ret
 exact ⟨rfl,0,_,by rw [alloc_eq_grow,alloc_eq_grow,grow_grow];rfl⟩
theorem Tryz.cmpLays (blk off size:Nat) (w:World):CmpLays Tryz.prog 81 #[] encR 2 (fun x y=>Lib.compareInt x.1 y.1) blk off size w :=
 fun _ _ _ _ x y=>Tryz.closure x y _
theorem ltLo (x y:Rg):ltOf (fun x y:Rg=>Lib.compareInt x.1 y.1) x y=decide (x.1<y.1):=by
 unfold ltOf Lib.compareInt
 by_cases h1:x.1<y.1
 ·simp [h1]
 ·by_cases h2:y.1<x.1 <;> simp [h1,h2]
theorem swoLo:SWO (ltOf fun x y:Rg=>Lib.compareInt x.1 y.1) where
 irrefl x:=by rw [ltLo];simp
 trans x y z h1 h2:=by rw [ltLo] at *;simp at *;omega
 ntrans x y z h1 h2:=by rw [ltLo] at *;simp at *;omega
theorem sort_own (v:Value) (rs:List Rg) (w:World) (base:Nat) (hown:w.ownsRow base 77 2 v rs.length (cellsR rs)) (hbase:base<=w.heap.size) (hp:0<rs.length) (hl:rs.length<=4096) :
  Calls Tryz.prog 80 #[v,.func (.func 81) #[] #[]] w fun e w'=>e=.returned (.tuple #[]) /\
   ∃ l:List Rg,l.length=rs.length/\(∀ r,r∈l↔r∈rs)/\l.Pairwise (fun a b=>a.1<=b.1)/\w'.ownsRow base 77 2 v l.length (cellsR l)/\Below base w w'/\w.grownBy w' v.ownBlock:=by
 have hge:=ownBlock_ge hown
 rcases hown.2 with ⟨_,h0⟩ | ⟨g,cap,cur,rfl,hbg,hb,h1,h2,h3,h4⟩
 ·omega
 have eg:∀ args w,(callFunc 81 args).run Tryz.prog w=.ok (.enter 81 args) w:=enters_of Tryz.func81 (by kernel_rfl) rfl
 have hcon:=AnyQ.slices_SortFunc Tryz.sortRg 2 Tryz.isAgg77 Tryz.sizeOf77 encR (fun _=>rfl) (fun x v hv=>by simp [encR] at hv;rcases hv with rfl | rfl <;> rfl) (fun x y=>Lib.compareInt x.1 y.1) swoLo
  81 #[] g 0 cap rs.toArray w eg (Tryz.cmpLays g 0 _ w) (holdsK_of_own hb h4) (Array.getElem?_eq_some_iff.1 hb).1 (by simp;omega)
 change Calls Tryz.prog 80 _ _ _ at hcon
 rw [List.size_toArray] at hcon
 refine hcon.mono ?_
 rintro e w' ⟨rfl,d',n,os,hperm,hsort,rfl⟩
 obtain ⟨hs1,_,hs2⟩:=hperm
 simp only [List.size_toArray] at hs1 hs2 hsort
 have hmem:∀ r,r∈d'.toList↔r∈rs:=fun r=>by
  have:=hs2.mem_iff (a:=r)
  rw [Array.extract_eq_self_of_le (by omega),Array.extract_eq_self_of_le (by simp)] at this
  simpa using this
 have hl':d'.toList.length=rs.length:=by simpa using hs1
 have hgb:=grownBy_sortedK (w:=w) (g:=g) (n:=n) (os:=os) d'
 refine ⟨rfl,d'.toList,hl',hmem,?_,?_,?_,hgb⟩
 ·rw [List.pairwise_iff_getElem]
  intro i j hi hj hij
  have:=hsort i j (by omega) hij (by omega)
  rw [ltLo] at this
  have e1:d'[i]! = d'.toList[i]:=by rw [getElem!_pos d' i (by simpa using hi)];simp
  have e2:d'[j]! = d'.toList[j]:=by rw [getElem!_pos d' j (by simpa using hj)];simp
  rw [e1,e2] at this
  simpa using this
 ·rw [hl']
  refine ⟨by rw [cellsR_length,hl'],.inr ⟨g,cap,_,rfl,hbg,heap_sortedK _ hb,h1,h2,by simp [putCells,h3],?_⟩⟩
  rw [<- hs1];exact take_putCellsK cur d' (by omega)
 ·exact (Below.refl base w).grown hgb hbase hge
end
section
open Go.RowKit
theorem cellsR_last (M:List Rg) (p:Rg) (u:Int):(cellsR (M++[p])).set (M.length * 2+1) (.int .i64 u)=cellsR (M++[(p.1,u)]):=by
 rw [cellsR_append,cellsR_append,List.set_append_right _ _ (by rw [cellsR_length];omega),cellsR_length,show M.length * 2+1 - M.length * 2=1 by omega]
 rfl
theorem mergeL_bounds (l:List Rg) (hok:∀ r∈l,-200<=r.1/\r.1<=r.2/\r.2<=200) (hs:l.Pairwise fun a b=>a.1<=b.1) (k:Nat):∀ p∈mergeL (l.take k),-200<=p.2/\p.2<=200:=by
 obtain ⟨a,_⟩:=mergeL_ok (l.take k) (fun r hr=>hok r (List.mem_of_mem_take hr)) (hs.sublist (List.take_sublist _ _))
 have:∀ {L:List Rg} {lo:Int},NormFrom lo L->∀ p∈L,lo<=p.2/\p.2<=200:=by
  intro L
  induction L with
  | nil=>intro lo _ p hp;simp at hp
  | cons r L ih =>
   rintro lo ⟨h1,h2,h3,h4⟩ p hp
   rcases List.mem_cons.1 hp with rfl | hp
   ·omega
   ·have:=ih h4 p hp;omega
 exact this a
theorem Tryz.ownsRow_drewN {w:World} {base:Nat} {e:TypeId} {size:Nat} {v:Value} {n:Nat} {xs:List Value} (h:w.ownsRow base e size v n xs) (q:Nat):(w.drewN q).ownsRow base e size v n xs:=h
theorem sort_none (p:Option Addr) (cap:Nat) (w:World) :
  Calls Tryz.prog 80 #[.slice p 0 cap,.func (.func 81) #[] #[]] w fun e w'=>e=.returned (.tuple #[])/\w'=w :=
 AnyF.slices_SortFunc_none Tryz.sortRg p cap (.func (.func 81) #[] #[]) w
theorem sort_all (v:Value) (rs:List Rg) (w:World) (base:Nat) (hown:w.ownsRow base 77 2 v rs.length (cellsR rs)) (hbase:base<=w.heap.size) (hl:rs.length<=4096) :
  Calls Tryz.prog 80 #[v,.func (.func 81) #[] #[]] w fun e w'=>e=.returned (.tuple #[]) /\
   ∃ l:List Rg,l.length=rs.length/\(∀ r,r∈l↔r∈rs)/\l.Pairwise (fun a b=>a.1<=b.1)/\w'.ownsRow base 77 2 v l.length (cellsR l)/\Below base w w':=by
 rcases Nat.eq_zero_or_pos rs.length with h0 | h0
 ·obtain rfl:=List.eq_nil_of_length_eq_zero h0
  obtain ⟨ao,cap,rfl,_⟩:=(SlAt.of_own hown).shape
  exact (sort_none ao cap w).mono fun e w' ⟨he,hw⟩=>by subst hw;exact ⟨he,[],rfl,fun r=>Iff.rfl,List.Pairwise.nil,hown,Below.refl _ _⟩
 ·exact (sort_own v rs w base hown hbase h0 hl).mono fun e w' ⟨he,l,h1,h2,h3,h4,h5,_⟩=>⟨he,l,h1,h2,h3,h4,h5⟩
theorem own_ge {w:World} {B e size n:Nat} {v:Value} {xs:List Value} (h:w.ownsRow B e size v n xs) {b:Nat} (hb:v.ownBlock=some b):B<=b:=by
 rcases h.2 with ⟨rfl,_⟩ | ⟨g,cap,cur,rfl,hg,hgg,rest⟩
 ·simp [Value.ownBlock] at hb
 ·simp [Value.ownBlock] at hb
  subst hb
  exact hg
set_option maxRecDepth 100000
set_option maxHeartbeats 800000
theorem norm_any (v:Value) (rs:List Rg) (w:World) (h:RgAt w v rs) (hl:rs.length<=4096) :
  Calls Tryz.prog 54 #[v] w fun e w'=>∃ v',e=.returned v'/\RgAt w' v' (norm rs)/\Below w.heap.size w w'/\∀ b,v'.ownBlock=some b->w.heap.size<=b:=by
 obtain ⟨i0,hi,hz0,hz1,hz2⟩:=info_parts Tryz.infoRg
 obtain ⟨ao,cap,rfl,_⟩:=h.shape
 have H:=hD h
 clear h
 go_enter Tryz.func54,Tryz.ntmps54
 go_wp2
 go_loopw [3,12] (fun o s wr=>∃ k:Nat,k<=rs.length/\s=.int .i64 k/\wr.ownsRow w.heap.size 77 2 o (clampL (rs.take k)).length (cellsR (clampL (rs.take k)))/\Below w.heap.size w wr) (fun _ s _=>rs.length - (intOf s).toNat)
 case atStart=>exact ⟨0,by omega,rfl,World.ownsRow_nil _ _ _ _,Below.refl _ _⟩
 case round =>
  obtain ⟨k,hk,rfl,hown,hbel⟩:=hrel
  by_cases hlt:k<rs.length
  ·obtain ⟨b,off,cap',he,hcap,hbs,hc⟩:=RgAt.at (H.out.below hbel) (by omega)
   simp only [Value.slice.injEq,true_and] at he
   obtain ⟨rfl,rfl⟩:=he
   obtain ⟨c1,c2⟩:=hc k hlt
   clear hc
   obtain ⟨r,hr⟩:∃ r,r=rs[k]:=⟨_,rfl⟩
   rw [<- hr] at c1 c2
   have HR:=hD hr
   clear hr
   have hbe:b≠wr.heap.size:=by omega
   have hsnoc:clampL (rs.take (k+1))=clampL (rs.take k)++(if (clampR r).1<=(clampR r).2 then [clampR r] else []):=by
    rw [List.take_add_one,List.getElem?_eq_getElem hlt,<- HR.out];exact clampL_snoc _ _
   have hlen:=clampL_len (rs.take k)
   rw [List.length_take] at hlen
   generalize hC:clampL (rs.take k)=C at hown hsnoc hlen
   have HS:=hD hsnoc
   have HB:=hD hbel
   clear hsnoc hC HR hbel
   have hle:w.heap.size<=wr.heap.size:=HB.out.size
   go_wp2_with (at_builtin;refine wpList_append2 rfl (.tmp 29) (.tmp 31) 61 rfl w.heap.size 77 i0 (.agg #[.int .i64 0,.int .i64 0]) 16 Tryz.underlying61 hi hz0 hz1 hz2 rfl _ _ _ rfl (hown.alloc _) _ _ rfl (by simp) rfl rfl (by omega) (by simp;omega) ?_;intro v1 w1 o1 b1 n1)
   ·have hc:(clampR r).1<=(clampR r).2:=by assumption
    refine ⟨⟨k+1,by omega,by go_num,?_,(HB.out.alloc hle _).trans b1⟩,by simp [intOf];omega⟩
    rw [HS.out,if_pos hc,List.length_append,cellsR_append]
    exact o1
   ·have hc:¬ (clampR r).1<=(clampR r).2:=by show ¬ max r.1 (-200)<=min r.2 200;omega
    refine ⟨⟨k+1,by omega,by go_num,?_,HB.out.alloc hle _⟩,by simp [intOf];omega⟩
    rw [HS.out,if_neg hc,List.append_nil]
    exact hown.alloc _
  ·obtain rfl:k=rs.length:=by omega
   rw [List.take_length] at hown
   have hlen:=clampL_len rs
   generalize hC:clampL rs=C at hown hlen
   obtain ⟨ao2,cap2,rfl,_⟩:=(SlAt.of_own hown).shape
   have CS:=sort_all _ C wr w.heap.size hown hbel.size (by omega)
   have HB:=hD hbel
   have hmem:=mergeL_norm rs
   rw [hC] at hmem
   have HM:=hD hmem
   have HC:=hD hC
   clear hC hbel hown hmem
   generalize C.length=n at CS hlen |-
   go_wp2_with (go_at_call 80;refine CS.mono ?_;rintro e W ⟨rfl,l,rfl,hlm,hlp,hown,hbel⟩;clear CS;have HN:=hD (HM.out l hlm hlp);have HBD:=hD (mergeL_bounds l (fun r hr=>clampL_ok rs r (by rw [HC.out];exact (hlm r).1 hr)) hlp);clear hlm hlp HM;have HW:=hD (HB.out.trans hbel);clear hbel HB)
   have hl2:l.length<=4096:=by omega
   have HO:=hD (RgAt.own hown)
   clear hown
   go_loopw [6,38] (fun o s wr=>∃ k:Nat,k<=l.length/\s=.int .i64 k/\wr.ownsRow W.heap.size 77 2 o (mergeL (l.take k)).length (cellsR (mergeL (l.take k)))/\Below W.heap.size W wr) (fun _ s _=>l.length - (intOf s).toNat)
   case atStart=>exact ⟨0,by omega,rfl,World.ownsRow_nil _ _ _ _,Below.refl _ _⟩
   case round =>
    obtain ⟨k,hk,rfl,hown,hbel⟩:=hrel
    by_cases hlt:k<l.length
    ·obtain ⟨b,off,cap',he,hcap,hbs,hc⟩:=RgAt.at (HO.out.below hbel) (by omega)
     simp only [Value.slice.injEq,true_and] at he
     obtain ⟨rfl,rfl⟩:=he
     obtain ⟨c1,c2⟩:=hc k hlt
     clear hc
     have hbd:=HBD.out k
     obtain ⟨r,hr⟩:∃ r,r=l[k]:=⟨_,rfl⟩
     rw [<- hr] at c1 c2
     have hsnoc:mergeL (l.take (k+1))=pushR (mergeL (l.take k)) r:=by
      rw [List.take_add_one,List.getElem?_eq_getElem hlt,<- hr];exact mergeL_snoc _ _
     have hlen:=mergeL_len (l.take k)
     rw [List.length_take] at hlen
     clear hr
     have hbe:b≠wr.heap.size:=by omega
     generalize hM:mergeL (l.take k)=M at hown hsnoc hlen hbd
     clear hM
     have HS:=hD hsnoc
     have HB:=hD hbel
     clear hsnoc hbel
     have hle:W.heap.size<=wr.heap.size:=HB.out.size
     rcases List.eq_nil_or_concat M with rfl | ⟨M',p,rfl⟩
     ·obtain ⟨oa,oc,rfl,_⟩:=(SlAt.of_own hown).shape
      rw [show ([]:List Rg).length=0 from rfl] at hown |-
      go_wp2
      go_quiet (fail)
      go_wp2_with (at_builtin;refine wpList_append2 rfl (.tmp 72) (.tmp 74) 61 rfl W.heap.size 77 i0 (.agg #[.int .i64 0,.int .i64 0]) 16 Tryz.underlying61 hi hz0 hz1 hz2 rfl _ _ _ rfl (hown.alloc _) _ _ rfl (by simp) rfl rfl (by simp) (by simp;omega) ?_;intro v1 w1 o1 b1 n1)
      refine ⟨⟨k+1,by omega,by go_num,?_,(below_drewN (HB.out.alloc hle _) _).trans b1⟩,by simp [intOf];omega⟩
      rw [HS.out]
      exact o1
     ·rw [List.concat_eq_append] at hown HS hlen hbd
      obtain ⟨g,oc,rfl,hgb,hcells⟩:=owns_pos hown (by simp)
      obtain ⟨d1,d2⟩:=cellsR_at (M'++[p]) M'.length (by simp)
      have g1:=hcells (M'.length * 2+1) (by simp;omega)
      rw [d2] at g1
      simp only [List.getElem_append_right,Nat.le_refl,Nat.sub_self,List.getElem_cons_zero] at g1
      have gf:=hown.frozenAt (M'.length * 2+1)
      obtain ⟨hb1,hb2⟩:=hbd p (by simp)
      have hgs:g<wr.heap.size:=World.block_lt_of_cell? wr _ g1
      have hge:g≠wr.heap.size:=by omega
      have hML:(M'++[p]).length=M'.length+1:=by simp
      rw [pushR_snoc] at HS
      rw [hML] at hown hlen |-
      obtain ⟨m,hm⟩:∃ m,m=M'.length:=⟨_,rfl⟩
      rw [<- hm] at g1 gf hlen hown |-
      have Hm:=hD hm
      clear hm hML d1 d2 hcells
      by_cases ht:r.1<=p.2+1
      ·have g0:decide (((m+1:Nat):Int) > 0)=true:=by simp
       go_wp2
       have g2:(wr.alloc (.cells #[.int .i64 r.1,.int .i64 r.2] 77)).cell? ⟨g,m * 2+1,none⟩=some (.int .i64 p.2):=Lib.cell?_alloc_some _ g1
       go_quiet (fail)
       have gf2:(wr.alloc (.cells #[.int .i64 r.1,.int .i64 r.2] 77)).frozen? ⟨g,m * 2+1,none⟩=false:=by rw [frozen?_alloc_cells];exact gf
       go_wp2
       have q1:((wr.alloc (.cells #[.int .i64 r.1,.int .i64 r.2] 77)).drewN nq).cell? ⟨wr.heap.size,1,none⟩=some (.int .i64 r.2):=by simp
       have q2:((wr.alloc (.cells #[.int .i64 r.1,.int .i64 r.2] 77)).drewN nq).cell? ⟨g,m * 2+1,none⟩=some (.int .i64 p.2):=g2
       have q3:((wr.alloc (.cells #[.int .i64 r.1,.int .i64 r.2] 77)).drewN nq).frozen? ⟨g,m * 2+1,none⟩=false:=gf2
       have q4:=Tryz.ownsRow_drewN (hown.alloc (.cells #[.int .i64 r.1,.int .i64 r.2] 77)) nq
       have q5:=hD (below_drewN (HB.out.alloc hle (.cells #[.int .i64 r.1,.int .i64 r.2] 77)) nq)
       generalize hW2:(wr.alloc (.cells #[.int .i64 r.1,.int .i64 r.2] 77)).drewN nq=W2 at q1 q2 q3 q4 q5 |-
       clear g2 gf2 hW2 g1 gf hown c1 c2
       have Q4:=hD q4
       clear q4
       go_region
       go_wp2
       have s1:=Q4.out.stored (m * 2+1) (.int .i64 (max p.2 r.2))
       refine ⟨⟨k+1,by omega,by go_num,?_,below_drewN ((q5.out).setCell (p:=⟨g,m * 2+1,none⟩) hgb _) 1⟩,by simp [intOf];omega⟩
       rw [HS.out,if_pos ht,<- cellsR_last,<- Hm.out,List.length_append,<- Hm.out]
       exact s1.1
      ·have g0:decide (((m+1:Nat):Int) > 0)=true:=by simp
       go_wp2
       have g2:(wr.alloc (.cells #[.int .i64 r.1,.int .i64 r.2] 77)).cell? ⟨g,m * 2+1,none⟩=some (.int .i64 p.2):=Lib.cell?_alloc_some _ g1
       go_quiet (fail)
       go_wp2_with (at_builtin;refine wpList_append2 rfl (.tmp 72) (.tmp 74) 61 rfl W.heap.size 77 i0 (.agg #[.int .i64 0,.int .i64 0]) 16 Tryz.underlying61 hi hz0 hz1 hz2 rfl _ _ _ rfl (hown.alloc _) _ _ rfl (by simp) rfl rfl (by omega) (by simp;omega) ?_;intro v1 w1 o1 b1 n1)
       refine ⟨⟨k+1,by omega,by go_num,?_,(below_drewN (HB.out.alloc hle _) _).trans b1⟩,by simp [intOf];omega⟩
       rw [HS.out,if_neg (by omega),List.length_append,List.length_append,cellsR_append _ [r],<- Hm.out]
       exact o1
    ·obtain rfl:k=l.length:=by omega
     rw [List.take_length,HN.out] at hown
     go_wp2
     go_ret
     exact ⟨_,rfl,RgAt.own hown,bT HW.out hbel,fun _ hb=>Nat.le_trans HW.out.size (own_ge hown hb)⟩
def RetR (L:List Rg) (w:World) (e:Ending) (w':World):Prop:=∃ ao cap,e=.returned (.slice ao L.length cap)/\RgAt w' (.slice ao L.length cap) L/\Below w.heap.size w w'
def RetN (L:List Rg) (w:World) (e:Ending) (w':World):Prop:=∃ ao cap,e=.returned (.slice ao L.length cap)/\RgAt w' (.slice ao L.length cap) L/\Below w.heap.size w w'/\∀ b,(Value.slice ao L.length cap).ownBlock=some b->w.heap.size<=b
theorem RetN.toR {L:List Rg} {w w':World} {e:Ending} (h:RetN L w e w'):RetR L w e w':=by
 obtain ⟨ao,cap,h1,h2,h3,_⟩:=h
 exact ⟨ao,cap,h1,h2,h3⟩
theorem norm_n (v:Value) (rs:List Rg) (w:World) (h:RgAt w v rs) (hl:rs.length<=4096):Calls Tryz.prog 54 #[v] w (RetN (norm rs) w) :=
 (norm_any v rs w h hl).mono fun e w' ⟨v',he,hr,hb,hn⟩=>by
  obtain ⟨ao,cap,rfl,_⟩:=hr.shape
  exact ⟨ao,cap,he,hr,hb,hn⟩
theorem norm_c (v:Value) (rs:List Rg) (w:World) (h:RgAt w v rs) (hl:rs.length<=4096):Calls Tryz.prog 54 #[v] w (RetR (norm rs) w):=(norm_n v rs w h hl).mono fun _ _ h=>h.toR
def slen:Value->Nat
 | .slice _ n _=>n
 | _=>0
theorem slen_slice (a:Option Addr) (n c:Nat):slen (.slice a n c)=n:=rfl
set_option maxHeartbeats 1600000
theorem meet_n (va vb:Value) (a b:List Rg) (w:World) (ha:RgAt w va a) (hb:RgAt w vb b) (hla:a.length<=4096) (hlb:b.length<=4096) :
  Calls Tryz.prog 34 #[va,vb] w (RetN (meetL a b) w):=by
 obtain ⟨i0,hi,hz0,hz1,hz2⟩:=info_parts Tryz.infoRg
 obtain ⟨ao,cap,rfl,_⟩:=ha.shape
 obtain ⟨ao2,cap2,rfl,_⟩:=hb.shape
 have CA:Hid (∀ W,Below w.heap.size w W->Calls Tryz.prog 54 #[.slice ao a.length cap] W (RetR (norm a) W)):=fun W h=>norm_c _ _ W (ha.below h) hla
 have CB:Hid (∀ W,Below w.heap.size w W->Calls Tryz.prog 54 #[.slice ao2 b.length cap2] W (RetR (norm b) W)):=fun W h=>norm_c _ _ W (hb.below h) hlb
 have HN:Hid (meetM (norm a) (norm b)=meetL a b):=meetM_norm a b
 have hln:(norm a).length<=201:=norm_len a
 have hln2:(norm b).length<=201:=norm_len b
 have hlm:(meetL a b).length<=201:=canon_len _
 clear ha hb
 generalize hNA:norm a=na at CA HN hln
 generalize hNB:norm b=nb at CB HN hln2
 generalize hME:meetL a b=me at HN hlm |-
 clear hNA hNB hME
 go_enter Tryz.func34,Tryz.ntmps34
 have hB0:Hid (Below w.heap.size w w):=Below.refl _ _
 go_wp2_with (first
  | (go_at_call 54;(with_reducible refine (CA.out _ hB0.out).mono ?_);rintro e w1 ⟨a1,c1,rfl,hr1,hb1⟩;have HR1:=hD hr1;have HB1:=hD hb1;clear hr1 hb1)
  | (go_at_call 54;(with_reducible refine (CB.out _ HB1.out).mono ?_);rintro e W ⟨a2,c2,rfl,hr2,hb2⟩;have HR2:=hD hr2;have HR1':=hD (HR1.out.below hb2);have HW:=hD (bT HB1.out hb2);clear hr2 hb2))
 go_loopw [5,6,7] (fun x y o wr=>∃ xs ys O:List Rg,∃ ax cx ay cy,x=.slice ax xs.length cx/\y=.slice ay ys.length cy/\RgAt W x xs/\RgAt W y ys/\O++meetM xs ys=me/\wr.ownsRow W.heap.size 77 2 o O.length (cellsR O)/\Below W.heap.size W wr) (fun x y _ _=>slen x+slen y)
 case atStart=>exact ⟨na,nb,[],_,_,_,_,rfl,rfl,HR1'.out,HR2.out,HN.out,World.ownsRow_nil _ _ _ _,Below.refl _ _⟩
 case round =>
  obtain ⟨xs,ys,O,ax,cx,ay,cy,rfl,rfl,hx,hy,hm,hown,hbel⟩:=hrel
  cases xs with
  | nil =>
   rw [meetM_nil,List.append_nil] at hm
   subst hm
   obtain ⟨oa,oc,rfl,_⟩:=(SlAt.of_own hown).shape
   rw [show ([]:List Rg).length=0 from rfl] at hx |-
   go_wp2
   go_ret
   exact ⟨_,_,rfl,RgAt.own hown,bT HW.out hbel,fun _ hb=>Nat.le_trans HW.out.size (own_ge hown hb)⟩
  | cons r xs =>
   cases ys with
   | nil =>
    rw [meetM_nil2,List.append_nil] at hm
    subst hm
    obtain ⟨oa,oc,rfl,_⟩:=(SlAt.of_own hown).shape
    rw [show ([]:List Rg).length=0 from rfl] at hy |-
    rw [List.length_cons] at hx |-
    go_wp2
    go_ret
    exact ⟨_,_,rfl,RgAt.own hown,bT HW.out hbel,fun _ hb=>Nat.le_trans HW.out.size (own_ge hown hb)⟩
   | cons s ys =>
    obtain ⟨bx,ox,cx',he,hcx,hbx,hc⟩:=RgAt.at hx (by simp)
    simp only [Value.slice.injEq,true_and] at he
    obtain ⟨rfl,rfl⟩:=he
    obtain ⟨by',oy,cy',he,hcy,hby,hd⟩:=RgAt.at hy (by simp)
    simp only [Value.slice.injEq,true_and] at he
    obtain ⟨rfl,rfl⟩:=he
    have e1:=hc 0 (by simp)
    have e2:=hd 0 (by simp)
    simp only [Nat.zero_mul,Nat.add_zero,List.getElem_cons_zero] at e1 e2
    clear hc hd
    have HX:=hD (fun (W':World) (h:Below W.heap.size W W')=>And.intro ((h.cell (p:=⟨bx,ox,none⟩) hbx).trans e1.1) (And.intro ((h.cell (p:=⟨bx,ox+1,none⟩) hbx).trans e1.2)
     (And.intro ((h.cell (p:=⟨by',oy,none⟩) hby).trans e2.1) ((h.cell (p:=⟨by',oy+1,none⟩) hby).trans e2.2))))
    clear e1 e2
    have HSX:=hD hx
    have HSY:=hD hy
    have HM:=hD hm
    have HB:=hD hbel
    clear hx hy hm hbel
    rw [List.length_cons] at hcx hcy |-
    rw [List.length_cons]
    have hx0:0<xs.length+1:=by omega
    obtain ⟨oa,oc,rfl,_⟩:=(SlAt.of_own hown).shape
    have hy0:0<ys.length+1:=by omega
    rw [meetM_cons] at HM
    obtain ⟨q1,q2,q3,q4⟩:=HX.out _ HB.out
    have hOl:O.length<=201:=by have:=congrArg List.length HM.out;simp at this;omega
    have hle:W.heap.size<=wr.heap.size:=HB.out.size
    by_cases h1:max r.1 s.1<=min r.2 s.2
    ·rw [if_pos h1] at HM
     by_cases h2:r.2<s.2
     ·rw [if_pos h2] at HM
      rcases Nat.lt_or_ge 1 cx with h3 | h3
      ·go_wp2
       go_region
       have HB2:Hid (Below W.heap.size W wr.drew):=below_drewN HB.out 1
       have hown2:wr.drew.ownsRow W.heap.size 77 2 (.slice oa O.length oc) O.length (cellsR O):=hown
       have hle2:W.heap.size<=wr.drew.heap.size:=hle
       clear q1 q2 q3 q4
       obtain ⟨q1,q2,q3,q4⟩:=HX.out _ HB2.out
       generalize wr.drew=w2 at HB2 hown2 hle2 q1 q2 q3 q4 |-
       go_wp2_with (at_builtin;refine wpList_append2 rfl (.tmp 43) (.tmp 47) 61 rfl W.heap.size 77 i0 (.agg #[.int .i64 0,.int .i64 0]) 16 Tryz.underlying61 hi hz0 hz1 hz2 rfl _ _ _ rfl hown2 _ _ rfl rfl rfl rfl (by omega) hle2 ?_;intro v1 w1 o1 b1 n1)
       obtain ⟨p1,p2,p3,p4⟩:=HX.out w1 (HB2.out.trans b1)
       go_quiet (fail)
       go_wp2
       refine ⟨⟨xs,s::ys,O++[(max r.1 s.1,min r.2 s.2)],_,_,_,_,rfl,rfl,RgAt.tail_lt HSX.out,HSY.out,by rw [List.append_assoc];exact HM.out,by rw [List.length_append,cellsR_append];exact o1,below_drewN (HB2.out.trans b1) _⟩,?_⟩
       simp only [slen_slice]
       omega
      ·obtain rfl:cx=1:=by omega
       have hxs:xs=[]:=List.eq_nil_of_length_eq_zero (by omega)
       subst hxs
       rw [show ([]:List Rg).length=0 from rfl] at *
       go_wp2
       go_region
       have HB2:Hid (Below W.heap.size W wr.drew):=below_drewN HB.out 1
       have hown2:wr.drew.ownsRow W.heap.size 77 2 (.slice oa O.length oc) O.length (cellsR O):=hown
       have hle2:W.heap.size<=wr.drew.heap.size:=hle
       clear q1 q2 q3 q4
       obtain ⟨q1,q2,q3,q4⟩:=HX.out _ HB2.out
       generalize wr.drew=w2 at HB2 hown2 hle2 q1 q2 q3 q4 |-
       go_wp2_with (at_builtin;refine wpList_append2 rfl (.tmp 43) (.tmp 47) 61 rfl W.heap.size 77 i0 (.agg #[.int .i64 0,.int .i64 0]) 16 Tryz.underlying61 hi hz0 hz1 hz2 rfl _ _ _ rfl hown2 _ _ rfl rfl rfl rfl (by omega) hle2 ?_;intro v1 w1 o1 b1 n1)
       obtain ⟨p1,p2,p3,p4⟩:=HX.out w1 (HB2.out.trans b1)
       go_quiet (fail)
       go_wp2
       refine ⟨⟨[],s::ys,O++[(max r.1 s.1,min r.2 s.2)],_,_,_,_,rfl,rfl,RgAt.empty 0,HSY.out,by rw [List.append_assoc];exact HM.out,by rw [List.length_append,cellsR_append];exact o1,below_drewN (HB2.out.trans b1) _⟩,?_⟩
       simp only [slen_slice]
       omega
     ·rw [if_neg h2] at HM
      have h2':s.2<=r.2:=by omega
      have h2d:decide (r.2<s.2)=false:=by simpa using h2
      rcases Nat.lt_or_ge 1 cy with h3 | h3
      ·go_wp2
       go_region
       have HB2:Hid (Below W.heap.size W wr.drew):=below_drewN HB.out 1
       have hown2:wr.drew.ownsRow W.heap.size 77 2 (.slice oa O.length oc) O.length (cellsR O):=hown
       have hle2:W.heap.size<=wr.drew.heap.size:=hle
       clear q1 q2 q3 q4
       obtain ⟨q1,q2,q3,q4⟩:=HX.out _ HB2.out
       generalize wr.drew=w2 at HB2 hown2 hle2 q1 q2 q3 q4 |-
       go_wp2_with (at_builtin;refine wpList_append2 rfl (.tmp 43) (.tmp 47) 61 rfl W.heap.size 77 i0 (.agg #[.int .i64 0,.int .i64 0]) 16 Tryz.underlying61 hi hz0 hz1 hz2 rfl _ _ _ rfl hown2 _ _ rfl rfl rfl rfl (by omega) hle2 ?_;intro v1 w1 o1 b1 n1)
       obtain ⟨p1,p2,p3,p4⟩:=HX.out w1 (HB2.out.trans b1)
       go_quiet (fail)
       go_wp2
       refine ⟨⟨r::xs,ys,O++[(max r.1 s.1,min r.2 s.2)],_,_,_,_,rfl,rfl,HSX.out,RgAt.tail_lt HSY.out,by rw [List.append_assoc];exact HM.out,by rw [List.length_append,cellsR_append];exact o1,below_drewN (HB2.out.trans b1) _⟩,?_⟩
       simp only [slen_slice]
       omega
      ·obtain rfl:cy=1:=by omega
       have hxs:ys=[]:=List.eq_nil_of_length_eq_zero (by omega)
       subst hxs
       rw [show ([]:List Rg).length=0 from rfl] at *
       go_wp2
       go_region
       have HB2:Hid (Below W.heap.size W wr.drew):=below_drewN HB.out 1
       have hown2:wr.drew.ownsRow W.heap.size 77 2 (.slice oa O.length oc) O.length (cellsR O):=hown
       have hle2:W.heap.size<=wr.drew.heap.size:=hle
       clear q1 q2 q3 q4
       obtain ⟨q1,q2,q3,q4⟩:=HX.out _ HB2.out
       generalize wr.drew=w2 at HB2 hown2 hle2 q1 q2 q3 q4 |-
       go_wp2_with (at_builtin;refine wpList_append2 rfl (.tmp 43) (.tmp 47) 61 rfl W.heap.size 77 i0 (.agg #[.int .i64 0,.int .i64 0]) 16 Tryz.underlying61 hi hz0 hz1 hz2 rfl _ _ _ rfl hown2 _ _ rfl rfl rfl rfl (by omega) hle2 ?_;intro v1 w1 o1 b1 n1)
       obtain ⟨p1,p2,p3,p4⟩:=HX.out w1 (HB2.out.trans b1)
       go_quiet (fail)
       go_wp2
       refine ⟨⟨r::xs,[],O++[(max r.1 s.1,min r.2 s.2)],_,_,_,_,rfl,rfl,HSX.out,RgAt.empty 0,by rw [List.append_assoc];exact HM.out,by rw [List.length_append,cellsR_append];exact o1,below_drewN (HB2.out.trans b1) _⟩,?_⟩
       simp only [slen_slice]
       omega
    ·rw [if_neg h1,List.nil_append] at HM
     have h1':min r.2 s.2<max r.1 s.1:=by omega
     by_cases h2:r.2<s.2
     ·rw [if_pos h2] at HM
      rcases Nat.lt_or_ge 1 cx with h3 | h3
      ·go_wp2
       go_region
       have HB2:Hid (Below W.heap.size W wr.drew):=below_drewN HB.out 1
       have hown2:wr.drew.ownsRow W.heap.size 77 2 (.slice oa O.length oc) O.length (cellsR O):=hown
       have hle2:W.heap.size<=wr.drew.heap.size:=hle
       clear q1 q2 q3 q4
       obtain ⟨q1,q2,q3,q4⟩:=HX.out _ HB2.out
       generalize wr.drew=w2 at HB2 hown2 hle2 q1 q2 q3 q4 |-
       go_wp2
       go_quiet (fail)
       go_wp2
       refine ⟨⟨xs,s::ys,O,_,_,_,_,rfl,rfl,RgAt.tail_lt HSX.out,HSY.out,HM.out,hown2,below_drewN (HB2.out) _⟩,?_⟩
       simp only [slen_slice]
       omega
      ·obtain rfl:cx=1:=by omega
       have hxs:xs=[]:=List.eq_nil_of_length_eq_zero (by omega)
       subst hxs
       rw [show ([]:List Rg).length=0 from rfl] at *
       go_wp2
       go_region
       have HB2:Hid (Below W.heap.size W wr.drew):=below_drewN HB.out 1
       have hown2:wr.drew.ownsRow W.heap.size 77 2 (.slice oa O.length oc) O.length (cellsR O):=hown
       have hle2:W.heap.size<=wr.drew.heap.size:=hle
       clear q1 q2 q3 q4
       obtain ⟨q1,q2,q3,q4⟩:=HX.out _ HB2.out
       generalize wr.drew=w2 at HB2 hown2 hle2 q1 q2 q3 q4 |-
       go_wp2
       go_quiet (fail)
       go_wp2
       refine ⟨⟨[],s::ys,O,_,_,_,_,rfl,rfl,RgAt.empty 0,HSY.out,HM.out,hown2,below_drewN (HB2.out) _⟩,?_⟩
       simp only [slen_slice]
       omega
     ·rw [if_neg h2] at HM
      have h2':s.2<=r.2:=by omega
      have h2d:decide (r.2<s.2)=false:=by simpa using h2
      rcases Nat.lt_or_ge 1 cy with h3 | h3
      ·go_wp2
       go_region
       have HB2:Hid (Below W.heap.size W wr.drew):=below_drewN HB.out 1
       have hown2:wr.drew.ownsRow W.heap.size 77 2 (.slice oa O.length oc) O.length (cellsR O):=hown
       have hle2:W.heap.size<=wr.drew.heap.size:=hle
       clear q1 q2 q3 q4
       obtain ⟨q1,q2,q3,q4⟩:=HX.out _ HB2.out
       generalize wr.drew=w2 at HB2 hown2 hle2 q1 q2 q3 q4 |-
       go_wp2
       go_quiet (fail)
       go_wp2
       refine ⟨⟨r::xs,ys,O,_,_,_,_,rfl,rfl,HSX.out,RgAt.tail_lt HSY.out,HM.out,hown2,below_drewN (HB2.out) _⟩,?_⟩
       simp only [slen_slice]
       omega
      ·obtain rfl:cy=1:=by omega
       have hxs:ys=[]:=List.eq_nil_of_length_eq_zero (by omega)
       subst hxs
       rw [show ([]:List Rg).length=0 from rfl] at *
       go_wp2
       go_region
       have HB2:Hid (Below W.heap.size W wr.drew):=below_drewN HB.out 1
       have hown2:wr.drew.ownsRow W.heap.size 77 2 (.slice oa O.length oc) O.length (cellsR O):=hown
       have hle2:W.heap.size<=wr.drew.heap.size:=hle
       clear q1 q2 q3 q4
       obtain ⟨q1,q2,q3,q4⟩:=HX.out _ HB2.out
       generalize wr.drew=w2 at HB2 hown2 hle2 q1 q2 q3 q4 |-
       go_wp2
       go_quiet (fail)
       go_wp2
       refine ⟨⟨r::xs,[],O,_,_,_,_,rfl,rfl,HSX.out,RgAt.empty 0,HM.out,hown2,below_drewN (HB2.out) _⟩,?_⟩
       simp only [slen_slice]
       omega
theorem meet_c (va vb:Value) (a b:List Rg) (w:World) (ha:RgAt w va a) (hb:RgAt w vb b) (hla:a.length<=4096) (hlb:b.length<=4096) :
  Calls Tryz.prog 34 #[va,vb] w (RetR (meetL a b) w):=(meet_n va vb a b w ha hb hla hlb).mono fun _ _ h=>h.toR
theorem neqRg (x y:Rg) (w:World):(binOp .neq 77 (.agg #[.int .i64 x.1,.int .i64 x.2]) (.agg #[.int .i64 y.1,.int .i64 y.2])).run Tryz.prog w=.ok (.bool (decide (x≠y))) w:=by
 have u3:=Tryz.underlying3
 have a3:=Tryz.isAgg3
 have z3:=Tryz.sizeOf3
 have hS:Tryz.prog.underlying 77=some (.struct (Tryz.prog.fieldsOf 77)):=by kernel_rfl
 have hp:Tryz.prog.stoodInHeld 77=false:=by kernel_rfl
 rw [run_neq_struct,show (10000:Nat)=9999+1 from rfl,run_equalIn_agg w 9999 77 _ _ hS hp]
 simp only [Program.fieldsOf,Tryz.underlying77]
 go_simp
 obtain ⟨x1,x2⟩:=x
 obtain ⟨y1,y2⟩:=y
 by_cases h1:x1=y1 <;> by_cases h2:x2=y2 <;> simp [h1,h2]
theorem guardRg (o:BinOp) (a b:Operand) (xs ys:Array Value) (w:World):(eqGuard o 77 a b (.agg xs) (.agg ys)).run Tryz.prog w=.ok () w:=run_eqGuard_agg w o 77 a b xs ys (by kernel_rfl)
theorem compl_c (va:Value) (a:List Rg) (w:World) (ha:RgAt w va a) (hla:a.length<=4096) :
  Calls Tryz.prog 93 #[va] w (RetR (complL a) w):=by
 obtain ⟨i0,hi,hz0,hz1,hz2⟩:=info_parts Tryz.infoRg
 obtain ⟨ao,cap,rfl,_⟩:=ha.shape
 have CA:Hid (Calls Tryz.prog 54 #[.slice ao a.length cap] w (RetR (norm a) w)):=norm_c _ _ w ha hla
 have HN:Hid (complW (-200) (norm a)=complL a):=complW_norm a
 have HBD:Hid (∀ p∈norm a,-200<=p.1/\p.1<=p.2/\p.2<=200):=norm_bounds a
 have hln:(norm a).length<=201:=norm_len a
 have hlm:(complL a).length<=201:=canon_len _
 clear ha
 generalize hNA:norm a=na at CA HN hln HBD
 generalize hME:complL a=me at HN hlm |-
 clear hNA hME
 go_enter Tryz.func93,Tryz.ntmps93
 go_wp2_with (first
  | (go_at_call 54;(with_reducible refine CA.out.mono ?_);rintro e W ⟨a1,c1,rfl,hr1,hb1⟩;have HR1:=hD hr1;have HW:=hD hb1;clear hr1 hb1))
 go_loopw [3,4,10] (fun o f s wr=>∃ k:Nat,∃ O:List Rg,∃ fz:Int,k<=na.length/\s=.int .i64 k/\f=.int .i64 fz/\-200<=fz/\fz<=201/\O++complW fz (na.drop k)=me/\wr.ownsRow W.heap.size 77 2 o O.length (cellsR O)/\Below W.heap.size W wr) (fun _ _ s _=>na.length - (intOf s).toNat)
 case atStart=>exact ⟨0,[],-200,by omega,rfl,rfl,by decide,by decide,HN.out,World.ownsRow_nil _ _ _ _,Below.refl _ _⟩
 case round =>
  obtain ⟨k,O,fz,hk,rfl,rfl,hf1,hf2,hm,hown,hbel⟩:=hrel
  have hOl:O.length<=201:=by have:=congrArg List.length hm;simp at this;omega
  have hle:W.heap.size<=wr.heap.size:=hbel.size
  have HB:=hD hbel
  clear hbel
  by_cases hlt:k<na.length
  ·obtain ⟨b,off,c',he,hcap,hbs,hc⟩:=RgAt.at HR1.out (by omega)
   simp only [Value.slice.injEq,true_and] at he
   obtain ⟨rfl,rfl⟩:=he
   obtain ⟨c1,c2⟩:=hc k hlt
   rw [<- HB.out.cell (p:=⟨b,off+k * 2,none⟩) hbs] at c1
   rw [<- HB.out.cell (p:=⟨b,off+k * 2+1,none⟩) hbs] at c2
   have hbd:=HBD.out _ (List.getElem_mem hlt)
   rw [List.drop_eq_getElem_cons hlt,complW] at hm
   obtain ⟨r,hr⟩:∃ r,r=na[k]:=⟨_,rfl⟩
   rw [<- hr] at c1 c2 hm hbd
   have HM:=hD hm
   clear hc hr hm
   obtain ⟨hd1,hd2,hd3⟩:=hbd
   have hbe:b≠wr.heap.size:=by have:=hbs;omega
   by_cases hx:fz<r.1
   ·rw [if_pos hx] at HM
    go_wp2_with (at_builtin;refine wpList_append2g rfl (.tmp 18) (.tmp 24) 61 rfl W.heap.size 77 i0 (.agg #[.int .i64 0,.int .i64 0]) 16 Tryz.underlying61 hi hz0 hz1 hz2 rfl _ _ _ rfl (hown.alloc _) _ _ rfl (by simp) rfl rfl (by omega) (by simp;omega) ?_;intro v1 w1 o1 b1 n1;have c3:=n1 wr.heap.size 1 (.int .i64 r.2) (fun he=>by have:=(hown.lt _ he).2;omega) (by simp);clear n1)
    refine ⟨⟨k+1,O++[(fz,r.1 - 1)],r.2+1,by omega,by go_num,rfl,by omega,by omega,?_,?_,(HB.out.alloc hle _).trans b1⟩,by simp [intOf];omega⟩
    ·rw [List.append_assoc];exact HM.out
    ·rw [List.length_append,cellsR_append];exact o1
   ·rw [if_neg hx,List.nil_append] at HM
    go_wp2
    exact ⟨⟨k+1,O,r.2+1,by omega,by go_num,rfl,by omega,by omega,HM.out,hown.alloc _,HB.out.alloc hle _⟩,by simp [intOf];omega⟩
  ·obtain rfl:k=na.length:=by omega
   rw [List.drop_length,complW] at hm
   have HM:=hD hm
   clear hm
   obtain ⟨oa,oc,rfl,_⟩:=(SlAt.of_own hown).shape
   by_cases hx:fz<=200
   ·rw [if_pos hx] at HM
    go_wp2_with (at_builtin;refine wpList_append2 rfl (.tmp 32) (.tmp 35) 61 rfl W.heap.size 77 i0 (.agg #[.int .i64 0,.int .i64 0]) 16 Tryz.underlying61 hi hz0 hz1 hz2 rfl _ _ _ rfl hown _ _ rfl (by simp) rfl rfl (by omega) HB.out.size ?_;intro v1 w1 o1 b1 n1)
    go_ret
    have o2:w1.ownsRow W.heap.size 77 2 v1 me.length (cellsR me):=by
     rw [<- HM.out,List.length_append,cellsR_append];exact o1
    obtain ⟨oa,oc,rfl,_⟩:=(SlAt.of_own o2).shape
    exact ⟨_,_,rfl,RgAt.own o2,HW.out.trans ((HB.out.trans b1).mono HW.out.size)⟩
   ·rw [if_neg hx,List.append_nil] at HM
    have he:=HM.out
    subst he
    go_wp2
    go_ret
    exact ⟨_,_,rfl,RgAt.own hown,bT HW.out HB.out⟩
theorem minus_eq (a b:List Rg):meetL a (complL b)=minusL a b:=by
 unfold meetL minusL
 exact canon_congr fun n h1 h2=>by rw [complL,canon_mem];simp [h1,h2]
theorem minus_c (va vb:Value) (a b:List Rg) (w:World) (ha:RgAt w va a) (hb:RgAt w vb b) (hla:a.length<=4096) (hlb:b.length<=4096) :
  Calls Tryz.prog 70 #[va,vb] w (RetR (minusL a b) w):=by
 obtain ⟨ao,cap,rfl,_⟩:=ha.shape
 obtain ⟨ao2,cap2,rfl,_⟩:=hb.shape
 have HA:=hD ha
 have CB:=hD (compl_c _ b w hb hlb)
 have HE:=hD (minus_eq a b)
 have hlc:(complL b).length<=201:=canon_len _
 clear ha hb
 generalize complL b=cb at CB HE hlc
 generalize minusL a b=me at HE |-
 go_enter Tryz.func70,Tryz.ntmps70
 go_wp2_with (first
  | (go_at_call 93;(with_reducible refine CB.out.mono ?_);rintro e W ⟨a1,c1,rfl,hr1,hb1⟩;have CM:=hD (meet_c _ _ a cb W (HA.out.below hb1) hr1 hla (by omega));rw [HE.out] at CM;have HW:=hD hb1;clear hr1 hb1)
  | (go_at_call 34;(with_reducible refine CM.out.mono ?_);rintro e W2 ⟨a2,c2,rfl,hr2,hb2⟩))
 go_ret
 exact ⟨_,_,rfl,hr2,bT HW.out hb2⟩
theorem sizeL_bounds:∀ (l:List Rg) (lo:Int),lo<=202->NormFrom lo l->0<=sizeL l/\sizeL l<=202 - lo
 | [],lo,h,_=>by simp [sizeL];omega
 | r::l,lo,h,⟨h1,h2,h3,h4⟩=>by
  have:=sizeL_bounds l (r.2+2) (by omega) h4
  simp only [sizeL];omega
theorem NormFrom.left:∀ {l m:List Rg} {lo:Int},NormFrom lo (l++m)->NormFrom lo l
 | [],_,_,_=>trivial
 | _::_,_,_,⟨h1,h2,h3,h4⟩=>⟨h1,h2,h3,h4.left⟩
theorem NormFrom.take {l:List Rg} {lo:Int} (h:NormFrom lo l) (k:Nat):NormFrom lo (l.take k):=by
 rw [<- List.take_append_drop k l] at h;exact h.left
theorem size_c (va:Value) (a:List Rg) (w:World) (ha:RgAt w va a) (hla:a.length<=4096) :
  Calls Tryz.prog 68 #[va] w fun e w'=>e=.returned (.int .i64 (sizeL (norm a)))/\Below w.heap.size w w':=by
 obtain ⟨ao,cap,rfl,_⟩:=ha.shape
 have CA:Hid (Calls Tryz.prog 54 #[.slice ao a.length cap] w (RetR (norm a) w)):=norm_c _ _ w ha hla
 have HBD:Hid (∀ p∈norm a,-200<=p.1/\p.1<=p.2/\p.2<=200):=norm_bounds a
 have HS:Hid (∀ k,0<=sizeL ((norm a).take k)/\sizeL ((norm a).take k)<=402):=fun k=>sizeL_bounds _ (-200) (by decide) ((norm_normal a).take k)
 have hln:(norm a).length<=201:=norm_len a
 clear ha
 generalize hNA:norm a=na at CA hln HBD HS |-
 clear hNA
 go_enter Tryz.func68,Tryz.ntmps68
 go_wp2_with (first
  | (go_at_call 54;(with_reducible refine CA.out.mono ?_);rintro e W ⟨a1,c1,rfl,hr1,hb1⟩;have HR1:=hD hr1;have HW:=hD hb1;clear hr1 hb1))
 go_loopw [3,9] (fun f s wr=>∃ k:Nat,∃ fz:Int,k<=na.length/\s=.int .i64 k/\f=.int .i64 fz/\fz=sizeL (na.take k)/\Below W.heap.size W wr) (fun _ s _=>na.length - (intOf s).toNat)
 case atStart=>exact ⟨0,0,by omega,rfl,rfl,rfl,Below.refl _ _⟩
 case round =>
  obtain ⟨k,fz,hk,rfl,rfl,hf,hbel⟩:=hrel
  have hle:W.heap.size<=wr.heap.size:=hbel.size
  have HB:=hD hbel
  have HF:=hD hf
  have hfb:=HS.out k
  rw [<- HF.out] at hfb
  obtain ⟨hf1,hf2⟩:=hfb
  clear hbel hf
  by_cases hlt:k<na.length
  ·obtain ⟨b,off,c',he,hcap,hbs,hc⟩:=RgAt.at HR1.out (by omega)
   simp only [Value.slice.injEq,true_and] at he
   obtain ⟨rfl,rfl⟩:=he
   obtain ⟨c1,c2⟩:=hc k hlt
   rw [<- HB.out.cell (p:=⟨b,off+k * 2,none⟩) hbs] at c1
   rw [<- HB.out.cell (p:=⟨b,off+k * 2+1,none⟩) hbs] at c2
   have hbd:=HBD.out _ (List.getElem_mem hlt)
   have HT:Hid (sizeL (na.take (k+1))=fz+(na[k].2 - na[k].1+1)):=by
    show _=_
    rw [List.take_succ_eq_append_getElem hlt,sizeL_append,HF.out];simp only [sizeL];omega
   obtain ⟨r,hr⟩:∃ r,r=na[k]:=⟨_,rfl⟩
   rw [<- hr] at c1 c2 HT hbd
   clear hc hr
   obtain ⟨hd1,hd2,hd3⟩:=hbd
   have hbe:b≠wr.heap.size:=by have:=hbs;omega
   go_wp2
   refine ⟨⟨k+1,fz+(r.2 - r.1+1),by omega,by go_num,by first | rfl | go_num,HT.out.symm,HB.out.alloc hle _⟩,by simp [intOf];omega⟩
  ·obtain rfl:k=na.length:=by omega
   go_wp2
   go_ret
   exact ⟨ret_int (by rw [HF.out,List.take_length]),bT HW.out HB.out⟩
end
end Go.Proofs.YtaekdgikgbdnnaaGreat
