/-
  Small laws of my own over any program: append of one new element onto a slice of the call's own.
  SLICES AS LISTS: what a slice value reads as, wherever it lies; kept by whatever only makes memory. Over any program.
  A REGION THAT DRAWS ITS ORDER, whose calls make memory but tell values that hang on no order: one walk of the text's order. Over any program.
  FROM A WALK TO A LAW's ROW: a law that answers true and leaves what was there as it was.
  SMALL STRUCTS IN A BLOCK OF THEIR OWN: their cells and marks, kept by what only makes memory. Over any program.
  APPENDS onto a row of the call's own that tell which blocks stay. Over any program.
  STRUCTS OF ANY NUMBER OF CELLS IN A BLOCK OF THEIR OWN. Over any program.
  A map[int]bool OF THE CALL'S OWN, AS A SET OF INTEGERS: made, asked, stored into, struck from. Over any program.
  APPEND of one cell at a step of a region that draws, telling which blocks stay. Over any program.
-/
import Derived.WalkKit
import Derived.WalkSpells
import Derived.WalkLawsBesides
import Derived.Lib.Hide
import Derived.ProofKit
import Derived.Deep.Slices
import Derived.Lib.LaidTab
import Derived.Laws.AppendOwnNone
import Derived.Deep.QuietTactic
import Derived.BigQuiet
import Derived.OpenShut
import Derived.Deep.DeepHandedRow
import Derived.Maps.Own
import Derived.Maps.OwnOps
import Derived.Maps.OwnSet
import Derived.Maps.Views
import Derived.Deep.AppendLies
import Derived.Deep.RegionHeldLaw
namespace Go.Proofs.YtaekdgikgbdnnaaGreat
section
open Go.RowKit
theorem hD {p : Prop} (h : p) : Hid p := h
theorem bT {w W W' : World} (h : Below w.heap.size w W) (k : Below W.heap.size W W') : Below w.heap.size w W' := h.trans (k.mono h.size)
theorem bA {w : World} (o : Obj) : Below w.heap.size w (w.alloc o) := (Below.refl _ _).alloc (Nat.le_refl _) o
theorem bL {w W : World} (h : Below w.heap.size w W) (o : Obj) : Below w.heap.size w (W.alloc o) := h.alloc h.size o
theorem rN (n : Nat) : n ≤ n := Nat.le_refl n

theorem below_grown {base:Nat} {w0 w':World} {o:Obj} {row:Option Nat} (hb:base<=w0.heap.size) (hg:(w0.alloc o).grownBy w' row) (hr:∀ k,row=some k->base<=k):Below base w0 w' :=
 ((Below.refl base w0).alloc hb o).grown hg (by simp;omega) hr
theorem ownBlock_ge {w:World} {base:Nat} {e:TypeId} {size:Nat} {v:Value} {n:Nat} {xs:List Value} (h:w.ownsRow base e size v n xs):∀ k,v.ownBlock=some k->base<=k :=
 fun k hk=>(h.lt k hk).1
theorem wpList_append1 {P:Program} {w0:World} {ops:Array Oper} {rest:List Oper} {o:Oper} {a:Act} {Q:Exit->Act->World->Prop} (hgd:o.guard=none) (s x:Operand) (t:TypeId)
  (ho:o.op=.call { callee:=.builtin .append,args:=#[s,x],argTypes:=#[t,t] })
  (base:Nat) (e:TypeId) (i:TypeInfo) (z:Value) (bytes:Nat) (ht:P.underlying t=some (.slice e)) (hi:P.info? e=some i) (hz:i.zero=some z)
  (hsize:i.size=1) (hby:i.bytes=bytes) (hzs:z.cells.size=1)
  (v:Value) (n:Nat) (xs:List Value) (hs:a.eval s=v) (hown:w0.ownsRow base e 1 v n xs) {e':TypeId}
  (u:Value) (hx:a.eval x=.slice (some ⟨w0.heap.size,0,none⟩) 1 1) (h1:u.oneCell'=true)
  (hbytes:(n+1) * bytes<=140737488355328/\n+1<=140737488355328) (hbase:base<=w0.heap.size)
  (h:∀ v' w',w'.ownsRow base e 1 v' (n+1) (xs++[u])->Below base w0 w'->(w0.alloc (.cells #[u] e')).grownBy w' v.ownBlock->v'≠.slice none 0 0->wpList P ops Q rest (a.put o.dst v') w') :
  wpList P ops Q (o::rest) a (w0.alloc (.cells #[u] e')):=by
 refine wpList_append_own _ hgd s x t ho base e i z 1 bytes ht hi hz hsize hby hzs (by decide) v n xs hs (hown.alloc _) ⟨w0.heap.size,0,none⟩ 1 1 [u] hx rfl ?_ ?_ ?_ hbytes.1 ?_ ?_
 ·intro j y hj
  match j,hj with
  | 0,hj =>
   simp at hj;subst hj
   simp [Addr.add]
 ·intro y hy;simp at hy;subst hy;exact h1
 ·unfold maxLen;omega
 ·simp;omega
 ·intro v' w' h1 h2 h3
  exact h v' w' h1 (below_grown hbase h2 (ownBlock_ge hown)) h2 (fun e=>by have:=h3.1 e;simp at this)
theorem owns_pos {w:World} {base:Nat} {e:TypeId} {size:Nat} {v:Value} {n:Nat} {xs:List Value} (h:w.ownsRow base e size v n xs) (hn:0<n) :
  ∃ g cap,v=.slice (some ⟨g,0,none⟩) n cap/\base<=g/\∀ j,j<n * size->w.cell? ⟨g,j,none⟩=xs[j]?:=by
 have h':=h
 rcases h.2 with ⟨_,h0⟩ | ⟨g,cap,cur,rfl,hb,_⟩
 ·omega
 ·exact ⟨g,cap,rfl,hb,fun j hj=>h'.cellAt j hj⟩
theorem ret_bool {a b:Bool} (h:a=b):Ending.returned (.bool a)=.returned (.bool b):=by rw [h]
theorem ret_int {k:IntKind} {a b:Int} (h:a=b):Ending.returned (.int k a)=.returned (.int k b):=by rw [h]
end
section
open Go.RowKit
def SlAt (w:World) (k:Nat) (v:Value) (n:Nat) (xs:List Value):Prop :=
 xs.length=n * k/\∃ ao cap,v=.slice ao n cap/\n<=cap/\cap<=maxLen/\(ao=none->cap=0)/\(0<n * k->∃ b off,ao=some ⟨b,off,none⟩/\b<w.heap.size/\∀ j,j<n * k->w.cell? ⟨b,off+j,none⟩=xs[j]?)
theorem SlAt.len {w:World} {k:Nat} {v:Value} {n:Nat} {xs:List Value} (h:SlAt w k v n xs):xs.length=n * k:=h.1
theorem SlAt.kept {w w':World} {k:Nat} {v:Value} {n:Nat} {xs:List Value} (h:SlAt w k v n xs) (hs:w.heap.size<=w'.heap.size) (hb:∀ i,i<w.heap.size->w'.heap[i]?=w.heap[i]?):SlAt w' k v n xs:=by
 obtain ⟨h1,ao,cap,rfl,h2,h3,h5,h4⟩:=h
 refine ⟨h1,ao,cap,rfl,h2,h3,h5,fun hp=>?_⟩
 obtain ⟨b,off,rfl,hlt,hc⟩:=h4 hp
 refine ⟨b,off,rfl,by omega,fun j hj=>?_⟩
 rw [<- hc j hj]
 exact World.cell?_of_block (hb b hlt)
theorem SlAt.below {w w':World} {k:Nat} {v:Value} {n:Nat} {xs:List Value} (h:SlAt w k v n xs) (hb:Below w.heap.size w w'):SlAt w' k v n xs:=h.kept hb.size hb.block
theorem SlAt.alloc {w:World} {k:Nat} {v:Value} {n:Nat} {xs:List Value} (h:SlAt w k v n xs) (o:Obj):SlAt (w.alloc o) k v n xs:=h.below ((Below.refl _ _).alloc (rN _) o)
theorem SlAt.drew {w:World} {k:Nat} {v:Value} {n:Nat} {xs:List Value} (h:SlAt w k v n xs):SlAt w.drew k v n xs:=h
theorem SlAt.drewN {w:World} {k:Nat} {v:Value} {n:Nat} {xs:List Value} (h:SlAt w k v n xs) (q:Nat):SlAt (w.drewN q) k v n xs:=h
theorem SlAt.setCell {w:World} {k:Nat} {v:Value} {n:Nat} {xs:List Value} (h:SlAt w k v n xs) {base:Nat} {a:Addr} (hv:∀ b,v.ownBlock=some b->b<base) (ha:base<=a.block) (u:Value):SlAt (w.setCell a u) k v n xs:=by
 obtain ⟨h1,ao,cap,rfl,h2,h3,h5,h4⟩:=h
 refine ⟨h1,ao,cap,rfl,h2,h3,h5,fun hp=>?_⟩
 obtain ⟨b,off,rfl,hlt,hc⟩:=h4 hp
 refine ⟨b,off,rfl,by simpa [World.setCell] using hlt,fun j hj=>?_⟩
 rw [<- hc j hj]
 have:=hv b rfl
 exact World.cell?_of_block (Below.heap_setCell _ _ _ _ (by simp;omega))
theorem SlAt.nil {w:World} {k:Nat}:SlAt w k (.slice none 0 0) 0 []:=⟨by simp,none,0,rfl,rN _,by simp [maxLen],fun _=>rfl,fun h=>by simp at h⟩
theorem SlAt.of_own {w:World} {base:Nat} {e:TypeId} {k:Nat} {v:Value} {n:Nat} {xs:List Value} (h:w.ownsRow base e k v n xs):SlAt w k v n xs:=by
 refine ⟨h.1,?_⟩
 have h0:=h
 rcases h.2 with ⟨rfl,rfl⟩ | ⟨g,cap,cur,rfl,hb,hg,hn,hcap,_⟩
 ·exact ⟨none,0,rfl,rN _,by simp [maxLen],fun _=>rfl,fun h=>by simp at h⟩
 ·refine ⟨some ⟨g,0,none⟩,cap,rfl,hn,hcap,(fun h=>by cases h),fun _=>⟨g,0,rfl,(Array.getElem?_eq_some_iff.1 hg).1,fun j hj=>?_⟩⟩
  rw [Nat.zero_add];exact h0.cellAt j hj
theorem SlAt.pos {w:World} {k:Nat} {v:Value} {n:Nat} {xs:List Value} (h:SlAt w k v n xs) (hn:0<n * k) :
  ∃ b off cap,v=.slice (some ⟨b,off,none⟩) n cap/\n<=cap/\cap<=maxLen/\b<w.heap.size/\∀ j,j<n * k->w.cell? ⟨b,off+j,none⟩=xs[j]?:=by
 obtain ⟨_,ao,cap,rfl,h2,h3,_,h4⟩:=h
 obtain ⟨b,off,rfl,hlt,hc⟩:=h4 hn
 exact ⟨b,off,cap,rfl,h2,h3,hlt,hc⟩
theorem SlAt.shape {w:World} {k:Nat} {v:Value} {n:Nat} {xs:List Value} (h:SlAt w k v n xs):∃ ao cap,v=.slice ao n cap/\n<=cap/\cap<=maxLen:=by
 obtain ⟨_,ao,cap,rfl,h2,h3,_⟩:=h
 exact ⟨ao,cap,rfl,h2,h3⟩
theorem SlAt.none_cap {w:World} {k:Nat} {ao:Option Addr} {n cap:Nat} {xs:List Value} (h:SlAt w k (.slice ao n cap) n xs):ao=none->cap=0:=by
 obtain ⟨h1,ao0,cap0,he,h2,h3,h5,h4⟩:=h
 simp only [Value.slice.injEq,true_and] at he
 obtain ⟨rfl,rfl⟩:=he
 exact h5
theorem SlAt.drop {w:World} {k:Nat} (_hkp:0<k) {ao:Option Addr} {n cap:Nat} {xs:List Value} (h:SlAt w k (.slice ao n cap) n xs) (m:Nat) (hm:m<=n) {ao':Option Addr} {n' c':Nat} (hn':n'=n - m) (hc':c'=cap - m)
  (hao:m<cap->∀ b off,ao=some ⟨b,off,none⟩->ao'=some ⟨b,off+m * k,none⟩) (hspot:m<cap->ao'=none->cap - m=0):SlAt w k (.slice ao' n' c') n' (xs.drop (m * k)):=by
 subst hn' hc'
 obtain ⟨h1,ao0,cap0,he,h2,h3,h5,h4⟩:=h
 simp only [Value.slice.injEq,true_and] at he
 obtain ⟨rfl,rfl⟩:=he
 have hmk:m * k<=n * k:=Nat.mul_le_mul_right _ hm
 have hsub:(n - m) * k=n * k - m * k:=Nat.sub_mul ..
 refine ⟨by rw [List.length_drop,h1,hsub],ao',cap - m,rfl,by omega,by omega,fun hno=>?_,fun hp=>?_⟩
 ·rcases Nat.lt_or_ge m cap with hc1 | hc1
  ·exact hspot hc1 hno
  ·omega
 ·have hn:0<n * k:=by omega
  obtain ⟨b,off,rfl,hlt,hc⟩:=h4 hn
  have hmn:m<n:=by
   rcases Nat.lt_or_ge m n with h | h
   ·exact h
   ·rw [show n - m=0 by omega] at hp;simp at hp
  refine ⟨b,off+m * k,hao (by omega) b off rfl,hlt,fun j hj=>?_⟩
  rw [List.getElem?_drop,<- hc (m * k+j) (by omega),Nat.add_assoc]
theorem SlAt.take {w:World} {k:Nat} {ao:Option Addr} {n cap:Nat} {xs:List Value} (h:SlAt w k (.slice ao n cap) n xs) (m c:Nat) (hm:m<=n) (hc:m<=c) (hc2:c<=cap):SlAt w k (.slice ao m c) m (xs.take (m * k)):=by
 obtain ⟨h1,ao0,cap0,he,h2,h3,h5,h4⟩:=h
 simp only [Value.slice.injEq,true_and] at he
 obtain ⟨rfl,rfl⟩:=he
 have hmk:m * k<=n * k:=Nat.mul_le_mul_right _ hm
 refine ⟨by rw [List.length_take,h1];omega,ao,c,rfl,hc,by omega,(fun hno=>by have:=h5 hno;omega),fun hp=>?_⟩
 obtain ⟨b,off,rfl,hlt,hcc⟩:=h4 (by omega)
 refine ⟨b,off,rfl,hlt,fun j hj=>?_⟩
 rw [List.getElem?_take,if_pos hj,hcc j (by omega)]
theorem wpList_append_sl {P:Program} {w0:World} {ops:Array Oper} {rest:List Oper} {o:Oper} {a:Act} {Q:Exit->Act->World->Prop} (hgd:o.guard=none) (s x:Operand) (t:TypeId)
  (ho:o.op=.call { callee:=.builtin .append,args:=#[s,x],argTypes:=#[t,t] })
  (base:Nat) (e:TypeId) (i:TypeInfo) (z:Value) (size bytes:Nat) (ht:P.underlying t=some (.slice e)) (hi:P.info? e=some i) (hz:i.zero=some z)
  (hsize:i.size=size) (hby:i.bytes=bytes) (hzs:z.cells.size=size) (hsz:0<size)
  (v:Value) (n:Nat) (xs:List Value) (hs:a.eval s=v) (hown:w0.ownsRow base e size v n xs)
  (vx:Value) (m:Nat) (ys:List Value) (hx:a.eval x=vx) (hsl:SlAt w0 size vx m ys) (h1:∀ u∈ys,u.oneCell'=true)
  (hbytes:(n+m) * bytes<=140737488355328/\n+m<=140737488355328) (hbase:base<=w0.heap.size)
  (h:∀ v' w',w'.ownsRow base e size v' (n+m) (xs++ys)->Below base w0 w'->w0.grownBy w' v.ownBlock->wpList P ops Q rest (a.put o.dst v') w') :
  wpList P ops Q (o::rest) a w0:=by
 obtain ⟨hl,ao,cap,rfl,h2,h3,h5,h4⟩:=hsl
 cases ao with
 | none =>
  obtain rfl:=h5 rfl
  obtain rfl:m=0:=by omega
  obtain rfl:ys=[]:=List.eq_nil_of_length_eq_zero (by omega)
  refine wpList_append_own_none hgd s x t ho base e i size ht hi v n xs hs hown hx ?_
  refine h v w0 (by simpa using hown) (Below.refl _ _) (World.grownBy.refl _ _)
 | some ad =>
  refine wpList_append_own w0 hgd s x t ho base e i z size bytes ht hi hz hsize hby hzs hsz v n xs hs hown ad m cap ys hx hl (fun j u hj=>?_) h1 (by unfold maxLen;omega) hbytes.1 hbase (fun v' w' r1 r2 _=>h v' w' r1 ?_ r2)
  ·have hj':j<m * size:=by rw [<- hl];exact (List.getElem?_eq_some_iff.1 hj).1
   obtain ⟨b,off,he,_,hc⟩:=h4 (by omega)
   injection he with he;subst he
   rw [Go.WideShapes.add_plain,hc j hj',hj]
  ·exact (Below.refl base w0).grown r2 hbase (ownBlock_ge hown)
section
variable {H:Type} {enc:TypeId×Value->H} {P:Program} {w:World} {spare:Nat->Bool} {held:Bool}
theorem cells?_eq {base:Nat} {a:Addr} {n:Nat} {cs:List Value} (h:w.cells? base a n=some cs):cs.length=n/\∀ i,i<n->w.cell? (a.add i)=cs[i]?:=by
 unfold World.cells? at h
 split at h
 ·have hl:cs.length=n:=by simpa using Lib.mapM_length h
  refine ⟨hl,fun i hi=>?_⟩
  obtain ⟨b,hb,hf⟩:=Lib.mapM_at h i i (by simp [hi])
  rw [hb,hf]
 ·cases h
theorem open_sl {t e:TypeId} {k:Nat} {fuel:Nat} {v:Value} {d:DataW H} {ps:List MemPlace} (ht:P.underlying t=some (.slice e)) (hk:P.cellsOf e=k)
  (h:DataW.trod enc P w 0 spare held fuel t [v]=some (d,ps)) :
  ∃ n xs,SlAt w k v n xs/\(∀ i,i<n->∃ m y,DataW.trod enc P w 0 spare held m e ((xs.drop (i * k)).take k)=some y):=by
 rcases Deep.open_slice ht h with ⟨h0,_⟩ | ⟨a,len,cap,m,q,D,Pl,hcs,_,hl,hm,hmm,_,hx⟩
 ·simp only [List.cons.injEq,and_true] at h0;subst h0
  exact ⟨0,[],SlAt.nil,fun i hi=>by omega⟩
 ·simp only [List.cons.injEq,and_true] at hcs;subst hcs
  rw [hk] at hx
  have hlm:len<=m:=by rw [hmm];split <;> omega
  have hch:∀ i,i<len->∃ cs:List Value,cs.length=k/\(∀ j,j<k->w.cell? (a.add (i * k+j))=cs[j]?)/\DataW.trod enc P w 0 spare held q e cs=some (D i,Pl i):=fun i hi=>by
   obtain ⟨cs,h1,h2⟩:=hx i (by omega)
   obtain ⟨h3,h4⟩:=cells?_eq h1
   refine ⟨cs,h3,fun j hj=>?_,h2⟩
   rw [<- h4 j hj,Deep.add_add]
  obtain ⟨C,hC⟩:=Deep.choose_lt hch
  refine ⟨len,(List.range len).flatMap C,?_,fun i hi=>⟨q,(D i,Pl i),?_⟩⟩
  ·have hlen:∀ l,l<=len->((List.range l).flatMap C).length=l * k:=by
    intro l
    induction l with
    | zero=>intro;simp
    | succ l ih=>intro h;rw [List.range_succ,List.flatMap_append,List.length_append,ih (by omega)];simp [(hC l (by omega)).1,Nat.add_mul]
   have hget:∀ l,l<=len->∀ j,j<l * k->w.cell? (a.add j)=((List.range l).flatMap C)[j]?:=by
    intro l
    induction l with
    | zero=>intro _ j hj;simp at hj
    | succ l ih =>
     intro h j hj
     rw [List.range_succ,List.flatMap_append]
     by_cases hlt:j<l * k
     ·rw [List.getElem?_append_left (by rw [hlen l (by omega)];exact hlt)]
      exact ih (by omega) j hlt
     ·rw [List.getElem?_append_right (by rw [hlen l (by omega)];omega),hlen l (by omega)]
      have:=(hC l (by omega)).2.1 (j - l * k) (by rw [Nat.add_mul] at hj;omega)
      rw [show l * k+(j - l * k)=j by omega] at this
      simpa using this
   refine ⟨hlen len (rN _),some a,cap,rfl,hl,hm,(fun h=>by cases h),fun hp=>?_⟩
   obtain ⟨b,off,spot⟩:=a
   have h0:∃ u,w.cell? ((⟨b,off,spot⟩:Addr).add 0)=some u:=by
    rw [hget len (rN _) 0 hp]
    exact ⟨_,List.getElem?_eq_getElem (by rw [hlen len (rN _)];exact hp)⟩
   obtain ⟨u,hu⟩:=h0
   have hspot:spot=none:=by simpa [Addr.add] using World.cell?_spot hu
   subst hspot
   refine ⟨b,off,rfl,?_,fun j hj=>?_⟩
   ·rw [Go.WideShapes.add_plain] at hu
    exact World.block_lt_of_cell? w _ hu
   ·rw [<- Go.WideShapes.add_plain];exact hget len (rN _) j hj
  ·have hseg:∀ l,l<=len->∀ i,i<l->((((List.range l).flatMap C).drop (i * k)).take k)=C i:=by
    intro l
    induction l with
    | zero=>intro _ i hi;omega
    | succ l ih =>
     intro h i hi
     have hlenl:((List.range l).flatMap C).length=l * k:=by
      clear ih hi i
      induction l with
      | zero=>simp
      | succ l ih=>rw [List.range_succ,List.flatMap_append,List.length_append,ih (by omega)];simp [(hC l (by omega)).1,Nat.add_mul]
     rw [List.range_succ,List.flatMap_append]
     by_cases hil:i=l
     ·subst hil
      rw [List.drop_append_of_le_length (by omega),List.drop_eq_nil_of_le (by omega)]
      simp [List.take_of_length_le,(hC i (by omega)).1]
     ·have hik:i * k+k<=l * k:=by
       have:(i+1) * k<=l * k:=Nat.mul_le_mul_right _ (by omega)
       rw [Nat.add_mul] at this;omega
      rw [List.drop_append_of_le_length (by omega),List.take_append_of_le_length (by rw [List.length_drop];omega)]
      exact ih (by omega) i (by omega)
   rw [hseg len (rN _) i hi]
   exact (hC i hi).2.2
end
end
section
open Go.RowKit
def QG (W:World):Type:={ w':World // Below W.heap.size W w' }
instance {W:World}:Nonempty (QG W):=⟨⟨W,Below.refl _ _⟩⟩
def QB (W:World):World->Prop:=fun w'=>∃ g:QG W,w'=g.1
theorem QB.below {W w':World} (h:QB W w'):Below W.heap.size W w':=by obtain ⟨g,rfl⟩:=h;exact g.2
theorem QB.mk {W w':World} (h:Below W.heap.size W w'):QB W w':=⟨⟨w',h⟩,rfl⟩
theorem wp_region_below {P:Program} {id:Nat} {Q:Exit->Act->World->Prop} {a:Act} {w:World} {l:List Oper} (hm:P.follows .mixedOrders=true) (hB:Region.lexB .any l.toArray=true)
  (h:wpQuiet P l.toArray (fun w'=>∃ g:QG w,w'=g.1) (fun a'=>∀ w',QB w w'->Q .normal a' w') l a):(Code.region id l.toArray true).wp P Q a w :=
 wp_region_quiet (C:=fun w'=>∃ g:QG w,w'=g.1) hm hB (QB.mk (below_drewN (Below.refl _ w) 1)) (by rw [List.toList_toArray];exact h)
theorem qb_call {P:Program} {f:FuncId} {args:Array Value} {W:World} {v:Value} (g:QG W) (h:Calls P f args g.1 fun e w'=>e=.returned v/\Below g.1.heap.size g.1 w') :
  Calls P f args g.1 fun e w''=>e=.returned v/\∃ g':QG W,w''=g'.1 :=
 h.mono fun _ w' ⟨he,hb⟩=>⟨he,⟨w',bT g.2 hb⟩,rfl⟩
theorem qb_same {P:Program} {f:FuncId} {args:Array Value} {W:World} {v:Value} (g:QG W) (h:Calls P f args g.1 fun e w'=>e=.returned v/\g.1=w') :
  Calls P f args g.1 fun e w''=>e=.returned v/\∃ g':QG W,w''=g'.1 :=
 h.mono fun _ w' ⟨he,hb⟩=>⟨he,⟨w',by rw [<- hb];exact g.2⟩,rfl⟩
theorem qb_cell {W:World} {b o:Nat} {u:Value} (h:W.cell? ⟨b,o,none⟩=some u):∀ g:QG W,g.1.cell? ⟨b,o,none⟩=some u :=
 fun g=>(g.2.cell (p:=⟨b,o,none⟩) (World.block_lt_of_cell? W _ h)).trans h
structure Box4 (w:World) (W:World) (a b c d:Value):Prop where
 c0:W.cell? ⟨w.heap.size,0,none⟩=some a
 c1:W.cell? ⟨w.heap.size,1,none⟩=some b
 c2:W.cell? ⟨w.heap.size,2,none⟩=some c
 c3:W.cell? ⟨w.heap.size,3,none⟩=some d
 below:Below w.heap.size w W
theorem Box4.mk' (w:World) (a b c d:Value) (T:TypeId):Box4 w (w.alloc (.cells #[a,b,c,d] T)) a b c d :=
 ⟨by simp,by simp,by simp,by simp,bA _⟩
end
section
open Go.RowKit Go.ChangeShapes Go.WideShapes Go.ChangeAt
theorem trodAll_below {H:Type} {enc:TypeId×Value->H} {P:Program} (hl:laidOutB P=true) {W W':World} (hb:Below W.heap.size W W') :
  ∀ {ts:List TypeId} {vs:List Value} {ds:List (DataW H)} {ps:List MemPlace},(∀ t∈ts,P.readableRec t=true/\t<P.types.size) ->
   DataW.TrodAll enc P W 0 (fun _=>true) true ts vs ds ps->(∀ x∈ps,x.block<W.heap.size)->DataW.TrodAll enc P W' 0 (fun b=>decide (b<W.heap.size)) true ts vs ds ps
 | [],[],[],_,_,h,_=>h
 | t::ts,v::vs,d::ds,_,hr,⟨p,q,h1,h2,h3⟩,hlt=>by
  subst h3
  have ht:=hr t (List.mem_cons_self ..)
  refine ⟨p,q,Below.trod hl ht.1 ht.2 h1 hb (fun x hx=>hlt x (List.mem_append_left _ hx)),?_,rfl⟩
  exact trodAll_below hl hb (fun t' h'=>hr t' (List.mem_cons_of_mem _ h')) h2 (fun x hx=>hlt x (List.mem_append_right _ hx))
 | [],[],_::_,_,_,h,_=>by cases h
 | [],_::_,_,_,_,h,_=>by cases h
 | _::_,[],_,_,_,h,_=>by cases h
 | _::_,_::_,[],_,_,h,_=>by cases h
theorem law_post {H:Type} {enc:TypeId×Value->H} {P:Program} {f:Func} {s:ChangeSpec} {apart fresh:Bool} {W W':World} {args:Array Value} {ds gs:List (DataW H)} {before:List MemPlace} {T:TypeId}
  (hl:laidOutB P=true) (hread:f.params.toList.all (fun t=>P.readableRec t&&decide (t<P.types.size))=true) (hsv:s.vars=[]) (hrt:f.resultTypes=#[T]) (hT:P.underlying T=some .bool)
  (hW:DataW.Whole enc P f.params.toList s.vars apart W args.toList ds gs before) (hb:Below W.heap.size W W') (hfn:s.fn H (ds++gs)={ results:=[.lit (.bool true)],args:=ds }) :
  s.post enc P f apart fresh false false W args (.bool true) W':=by
 have hW':=hW
 have hlt:=hW.lt
 obtain ⟨p,q,hA,hV,rfl,hfz,hnd⟩:=hW
 rw [hsv] at hV
 obtain ⟨rfl,rfl⟩:=trodVars_none hV
 refine ⟨ds,[],p++[],[],p,[],hW',?_,?_,?_,hb.frame _,fun h=>by cases h⟩
 ·rw [hrt,hfn]
  exact trodAll_mk1 (shut_bool hT true)
 ·rw [hfn]
  refine trodAll_below hl hb (fun t ht=>?_) hA (fun x hx=>hlt x (by simpa using hx))
  have:=List.all_eq_true.1 hread t ht
  simpa using this
 ·rw [hsv,hfn];exact rfl
end
section
open Go.RowKit
structure Box1 (w:World) (b:Nat) (x:Value):Prop where
 c0:w.cell? ⟨b,0,none⟩=some x
 f0:w.frozen? ⟨b,0,none⟩=false
structure Box2 (w:World) (b:Nat) (x y:Value):Prop where
 c0:w.cell? ⟨b,0,none⟩=some x
 c1:w.cell? ⟨b,1,none⟩=some y
 f0:w.frozen? ⟨b,0,none⟩=false
 f1:w.frozen? ⟨b,1,none⟩=false
theorem Box1.lt {w:World} {b:Nat} {x:Value} (h:Box1 w b x):b<w.heap.size:=World.block_lt_of_cell? w ⟨b,0,none⟩ h.c0
theorem Box2.lt {w:World} {b:Nat} {x y:Value} (h:Box2 w b x y):b<w.heap.size:=World.block_lt_of_cell? w ⟨b,0,none⟩ h.c0
theorem Box1.mk' (w:World) (x:Value) (T:TypeId):Box1 (w.alloc (.cells #[x] T)) w.heap.size x:=⟨by simp,World.frozen?_alloc_new w _ T 0⟩
theorem Box2.mk' (w:World) (x y:Value) (T:TypeId):Box2 (w.alloc (.cells #[x,y] T)) w.heap.size x y:=⟨by simp,by simp,World.frozen?_alloc_new w _ T 0,World.frozen?_alloc_new w _ T 1⟩
theorem Box1.below {w w':World} {b:Nat} {x:Value} (h:Box1 w b x) {B:Nat} (hb:Below B w w') (hB:b<B):Box1 w' b x :=
 ⟨(hb.cell (p:=⟨b,0,none⟩) hB).trans h.c0,(hb.frozen (p:=⟨b,0,none⟩) hB).trans h.f0⟩
theorem Box2.below {w w':World} {b:Nat} {x y:Value} (h:Box2 w b x y) {B:Nat} (hb:Below B w w') (hB:b<B):Box2 w' b x y :=
 ⟨(hb.cell (p:=⟨b,0,none⟩) hB).trans h.c0,(hb.cell (p:=⟨b,1,none⟩) hB).trans h.c1,(hb.frozen (p:=⟨b,0,none⟩) hB).trans h.f0,(hb.frozen (p:=⟨b,1,none⟩) hB).trans h.f1⟩
theorem Box1.past {w w':World} {b:Nat} {x:Value} (h:Box1 w b x) (hb:Below w.heap.size w w'):Box1 w' b x:=h.below hb h.lt
theorem Box2.past {w w':World} {b:Nat} {x y:Value} (h:Box2 w b x y) (hb:Below w.heap.size w w'):Box2 w' b x y:=h.below hb h.lt
theorem Box1.set {W:World} {b:Nat} {x0:Value} (h:Box1 W b x0) (x:Value):Box1 (W.setCell ⟨b,0,none⟩ x) b x :=
 ⟨World.cell?_setCell_same _ _ _ h.c0,(by rw [World.frozen?_setCell];exact h.f0)⟩
theorem Box2.set0 {W:World} {b:Nat} {x0 y0:Value} (h:Box2 W b x0 y0) (x:Value):Box2 (W.setCell ⟨b,0,none⟩ x) b x y0 :=
 ⟨World.cell?_setCell_same _ _ _ h.c0,(World.cell?_setCell_other _ _ _ _ (by simp)).trans h.c1,(by rw [World.frozen?_setCell];exact h.f0),(by rw [World.frozen?_setCell];exact h.f1)⟩
theorem Box2.set1 {W:World} {b:Nat} {x0 y0:Value} (h:Box2 W b x0 y0) (y:Value):Box2 (W.setCell ⟨b,1,none⟩ y) b x0 y :=
 ⟨(World.cell?_setCell_other _ _ _ _ (by simp)).trans h.c0,World.cell?_setCell_same _ _ _ h.c1,(by rw [World.frozen?_setCell];exact h.f0),(by rw [World.frozen?_setCell];exact h.f1)⟩
theorem Box2.later {w W1:World} {x y:Value} {T:TypeId} (bb:Below (w.alloc (.cells #[x,y] T)).drew.heap.size (w.alloc (.cells #[x,y] T)).drew W1):Box2 W1 w.heap.size x y :=
 ⟨(bb.cell (p:=⟨w.heap.size,0,none⟩) (by simp)).trans (by simp),(bb.cell (p:=⟨w.heap.size,1,none⟩) (by simp)).trans (by simp),
  (bb.frozen (p:=⟨w.heap.size,0,none⟩) (by simp)).trans (World.frozen?_alloc_new w _ T 0),(bb.frozen (p:=⟨w.heap.size,1,none⟩) (by simp)).trans (World.frozen?_alloc_new w _ T 1)⟩
theorem Box1.later {w W1:World} {x:Value} {T:TypeId} (bb:Below (w.alloc (.cells #[x] T)).drew.heap.size (w.alloc (.cells #[x] T)).drew W1):Box1 W1 w.heap.size x :=
 ⟨(bb.cell (p:=⟨w.heap.size,0,none⟩) (by simp)).trans (by simp),(bb.frozen (p:=⟨w.heap.size,0,none⟩) (by simp)).trans (World.frozen?_alloc_new w _ T 0)⟩
def KeepsBut (w0 w':World) (v:Value):Prop:=∀ b,b<w0.heap.size->v.ownBlock≠some b->w'.heap[b]?=w0.heap[b]?
theorem Box1.kept {w w':World} {b:Nat} {x:Value} (h:Box1 w b x) {v:Value} (hk:KeepsBut w w' v) (hne:v.ownBlock≠some b):Box1 w' b x:=by
 have e:=hk b h.lt hne
 exact ⟨(World.cell?_of_block (a:=⟨b,0,none⟩) e).trans h.c0,(World.frozen?_of_block (a:=⟨b,0,none⟩) e).trans h.f0⟩
theorem Box2.kept {w w':World} {b:Nat} {x y:Value} (h:Box2 w b x y) {v:Value} (hk:KeepsBut w w' v) (hne:v.ownBlock≠some b):Box2 w' b x y:=by
 have e:=hk b h.lt hne
 exact ⟨(World.cell?_of_block (a:=⟨b,0,none⟩) e).trans h.c0,(World.cell?_of_block (a:=⟨b,1,none⟩) e).trans h.c1,(World.frozen?_of_block (a:=⟨b,0,none⟩) e).trans h.f0,(World.frozen?_of_block (a:=⟨b,1,none⟩) e).trans h.f1⟩
theorem KeepsBut.cell {w w':World} {v u:Value} {a:Addr} (hk:KeepsBut w w' v) (h:w.cell? a=some u) (hne:v.ownBlock≠some a.block):w'.cell? a=some u :=
 (World.cell?_of_block (hk a.block (World.block_lt_of_cell? w _ h) hne)).trans h
theorem own_ne {w:World} {base:Nat} {e:TypeId} {size:Nat} {v:Value} {n:Nat} {xs:List Value} (h:w.ownsRow base e size v n xs) {b:Nat} (hb:b<base):v.ownBlock≠some b :=
 fun he=>by have:=(h.lt b he).1;omega
theorem own_far {w:World} {base:Nat} {e:TypeId} {size:Nat} {v:Value} {n:Nat} {xs:List Value} (h:w.ownsRow base e size v n xs) {b:Nat} (hb:w.heap.size<=b):v.ownBlock≠some b :=
 fun he=>by have:=(h.lt b he).2;omega
theorem own_setCell {w:World} {base:Nat} {e:TypeId} {size:Nat} {v:Value} {n:Nat} {xs:List Value} (h:w.ownsRow base e size v n xs) {a:Addr} (ha:a.block<base) (u:Value):(w.setCell a u).ownsRow base e size v n xs:=by
 refine ⟨h.1,?_⟩
 rcases h.2 with hn | ⟨g,cap,cur,rfl,hg,hgg,rest⟩
 ·exact .inl hn
 ·exact .inr ⟨g,cap,cur,rfl,hg,by rw [Below.heap_setCell _ _ _ _ (by omega)];exact hgg,rest⟩
theorem Box1.far {w:World} {b:Nat} {x:Value} (h:Box1 w b x) {a:Addr} (ha:b≠a.block) (u:Value):Box1 (w.setCell a u) b x:=by
 have e:=Below.heap_setCell w a u b ha
 exact ⟨(World.cell?_of_block (a:=⟨b,0,none⟩) e).trans h.c0,(World.frozen?_of_block (a:=⟨b,0,none⟩) e).trans h.f0⟩
theorem Box2.far {w:World} {b:Nat} {x y:Value} (h:Box2 w b x y) {a:Addr} (ha:b≠a.block) (u:Value):Box2 (w.setCell a u) b x y:=by
 have e:=Below.heap_setCell w a u b ha
 exact ⟨(World.cell?_of_block (a:=⟨b,0,none⟩) e).trans h.c0,(World.cell?_of_block (a:=⟨b,1,none⟩) e).trans h.c1,(World.frozen?_of_block (a:=⟨b,0,none⟩) e).trans h.f0,(World.frozen?_of_block (a:=⟨b,1,none⟩) e).trans h.f1⟩
theorem cell_far {w:World} {a p:Addr} {v:Value} (h:w.cell? p=some v) (ha:p.block≠a.block) (u:Value):(w.setCell a u).cell? p=some v :=
 (World.cell?_of_block (Below.heap_setCell w a u p.block ha)).trans h
theorem one1 {a:Value} (h:a.oneCell'=true):∀ u∈(#[a]:Array Value).toList,u.oneCell'=true:=by intro u hu;simp at hu;subst hu;exact h
theorem one2 {a b:Value} (h:a.oneCell'=true) (h2:b.oneCell'=true):∀ u∈(#[a,b]:Array Value).toList,u.oneCell'=true:=by intro u hu;simp at hu;rcases hu with rfl | rfl <;> assumption
theorem wpList_appendK {P:Program} {w0:World} {ops:Array Oper} {rest:List Oper} {o:Oper} {a:Act} {Q:Exit->Act->World->Prop} (hgd:o.guard=none) (s x:Operand) (t:TypeId)
  (ho:o.op=.call { callee:=.builtin .append,args:=#[s,x],argTypes:=#[t,t] })
  (base:Nat) (e:TypeId) (i:TypeInfo) (z:Value) (size bytes:Nat) (ht:P.underlying t=some (.slice e)) (hi:P.info? e=some i) (hz:i.zero=some z)
  (hsize:i.size=size) (hby:i.bytes=bytes) (hzs:z.cells.size=size) (hsz:0<size)
  (v:Value) (n:Nat) (xs:List Value) (hs:a.eval s=v) (hown:w0.ownsRow base e size v n xs) {e':TypeId}
  (us:Array Value) (hx:a.eval x=.slice (some ⟨w0.heap.size,0,none⟩) 1 1) (hus:us.size=size) (h1:∀ u∈us.toList,u.oneCell'=true)
  (hbytes:(n+1) * bytes<=140737488355328/\n+1<=140737488355328) (hbase:base<=w0.heap.size)
  (h:∀ v' w',w'.ownsRow base e size v' (n+1) (xs++us.toList)->Below base w0 w'->KeepsBut w0 w' v->(∀ b,v'.ownBlock=some b->v.ownBlock=some b\/w0.heap.size<=b\/True)->wpList P ops Q rest (a.put o.dst v') w') :
  wpList P ops Q (o::rest) a (w0.alloc (.cells us e')):=by
 refine wpList_append_own _ hgd s x t ho base e i z size bytes ht hi hz hsize hby hzs hsz v n xs hs (hown.alloc _) ⟨w0.heap.size,0,none⟩ 1 1 us.toList hx (by simp [hus]) ?_ h1 ?_ hbytes.1 ?_ ?_
 ·intro j y hj
  have hadd:((⟨w0.heap.size,0,none⟩:Addr).add j)=⟨w0.heap.size,0+j,none⟩:=Go.WideShapes.add_plain _ _ _
  rw [hadd]
  simpa using hj
 ·unfold maxLen;omega
 ·simp;omega
 ·intro v' w' h1 h2 h3
  refine h v' w' h1 (below_grown hbase h2 (ownBlock_ge hown)) (fun b hb hne=>?_) (fun b _=>.inr (.inr trivial))
  rw [h2.block b (by simp;omega) (fun he=>hne he.symm)]
  exact Below.heap_alloc w0 _ b hb
def BoxL (w:World) (b:Nat) (cs:List Value):Prop:=∀ j,j<cs.length->w.cell? ⟨b,j,none⟩=cs[j]?/\w.frozen? ⟨b,j,none⟩=false
theorem BoxL.lt {w:World} {b:Nat} {cs:List Value} (h:BoxL w b cs) (hp:0<cs.length):b<w.heap.size:=by
 obtain ⟨h1,_⟩:=h 0 hp
 rw [List.getElem?_eq_getElem hp] at h1
 exact World.block_lt_of_cell? w ⟨b,0,none⟩ h1
theorem BoxL.mk' (w:World) (cs:Array Value) (T:TypeId):BoxL (w.alloc (.cells cs T)) w.heap.size cs.toList:=fun j hj=>by
 refine ⟨?_,World.frozen?_alloc_new w _ T j⟩
 simp
theorem BoxL.block {w w':World} {b:Nat} {cs:List Value} (h:BoxL w b cs) (e:w'.heap[b]?=w.heap[b]?):BoxL w' b cs:=fun j hj =>
 ⟨(World.cell?_of_block (a:=⟨b,j,none⟩) e).trans (h j hj).1,(World.frozen?_of_block (a:=⟨b,j,none⟩) e).trans (h j hj).2⟩
theorem BoxL.below {w w':World} {b:Nat} {cs:List Value} (h:BoxL w b cs) {B:Nat} (hb:Below B w w') (hB:b<B):BoxL w' b cs:=h.block (hb.block b hB)
theorem BoxL.kept {w w':World} {b:Nat} {cs:List Value} (h:BoxL w b cs) (hp:0<cs.length) {v:Value} (hk:KeepsBut w w' v) (hne:v.ownBlock≠some b):BoxL w' b cs:=h.block (hk b (h.lt hp) hne)
theorem BoxL.far {w:World} {b:Nat} {cs:List Value} (h:BoxL w b cs) {a:Addr} (ha:b≠a.block) (u:Value):BoxL (w.setCell a u) b cs:=h.block (Below.heap_setCell w a u b ha)
theorem BoxL.set {w:World} {b:Nat} {cs:List Value} (h:BoxL w b cs) (k:Nat) (hk:k<cs.length) (u:Value):BoxL (w.setCell ⟨b,k,none⟩ u) b (cs.set k u):=fun j hj=>by
 rw [List.length_set] at hj
 refine ⟨?_,by rw [World.frozen?_setCell];exact (h j hj).2⟩
 by_cases e:k=j
 ·subst e
  have h1:=(h k hk).1
  rw [List.getElem?_eq_getElem hk] at h1
  rw [World.cell?_setCell_same _ _ _ h1,List.getElem?_set_self hk]
 ·rw [World.cell?_setCell_other _ _ _ _ (fun he=>e (by injection he)),(h j hj).1,List.getElem?_set_ne e]
theorem BoxL.get {w:World} {b:Nat} {cs:List Value} (h:BoxL w b cs) (k:Nat) {u:Value} (hk:cs[k]?=some u):w.cell? ⟨b,k,none⟩=some u/\w.frozen? ⟨b,k,none⟩=false:=by
 obtain ⟨hl,rfl⟩:=List.getElem?_eq_some_iff.1 hk
 obtain ⟨h1,h2⟩:=h k hl
 exact ⟨by rw [h1,List.getElem?_eq_getElem hl],h2⟩
def Apart (u v:Value):Prop:=∀ b,u.ownBlock=some b->v.ownBlock≠some b
theorem Apart.symm {u v:Value} (h:Apart u v):Apart v u:=fun b h1 h2=>h b h2 h1
theorem own_kept {w w':World} {base:Nat} {e:TypeId} {size:Nat} {v u:Value} {n:Nat} {xs:List Value} (h:w.ownsRow base e size v n xs) (hk:KeepsBut w w' u) (ha:Apart v u):w'.ownsRow base e size v n xs:=by
 refine ⟨h.1,?_⟩
 rcases h.2 with hn | ⟨g,cap,cur,rfl,hg,hgg,rest⟩
 ·exact .inl hn
 ·exact .inr ⟨g,cap,cur,rfl,hg,by rw [hk g (Array.getElem?_eq_some_iff.1 hgg).1 (ha g rfl)];exact hgg,rest⟩
theorem apart_new {w:World} {base:Nat} {e:TypeId} {size:Nat} {v u:Value} {n:Nat} {xs:List Value} (h:w.ownsRow base e size u n xs) {g c m:Nat} (ha:Apart v u) (hg:v.ownBlock=some g\/g=w.heap.size):Apart (.slice (some ⟨g,0,none⟩) m c) u:=fun b hb he=>by
 have hb':g=b:=by simpa [Value.ownBlock] using hb
 subst hb'
 rcases hg with h1 | h1
 ·exact ha g h1 he
 ·have:=(h.lt g he).2;omega
end
section
open Go.RowKit Go.Maps
def SetAt (P:Program) (K E:TypeId) (w:World) (b n:Nat) (S:Int->Bool):Prop :=
 ∃ D:DataW Unit,w.ownsMap P K (plainElem P E) b n D/\IsMap D/\∀ i,D.atKey (.int .i64 i) (.lit (.bool false))=.lit (.bool (S i))
variable {P:Program} {K E:TypeId} {w w':World} {b n:Nat} {S:Int->Bool}
theorem SetAt.made (w:World):SetAt P K E (w.alloc (.map #[] 0)) w.heap.size 0 (fun _=>false) :=
 ⟨.map [],World.ownsMap_made w P K _,⟨[],rfl⟩,fun _=>rfl⟩
theorem SetAt.lt (h:SetAt P K E w b n S):b<w.heap.size:=by
 obtain ⟨D,h1,_⟩:=h;exact h1.lt
theorem SetAt.block (h:SetAt P K E w b n S) (e:w'.heap[b]?=w.heap[b]?):SetAt P K E w' b n S:=by
 obtain ⟨D,⟨es,clock,hb,hF,hs,hD⟩,h2,h3⟩:=h
 exact ⟨D,⟨es,clock,e.trans hb,hF,hs,hD⟩,h2,h3⟩
theorem SetAt.below (h:SetAt P K E w b n S) {B:Nat} (hb:Below B w w') (hB:b<B):SetAt P K E w' b n S:=h.block (hb.block b hB)
theorem SetAt.later (h:SetAt P K E w b n S) (hb:Below w.heap.size w w'):SetAt P K E w' b n S:=h.below hb h.lt
theorem SetAt.mono (h:SetAt P K E w b n S) {m:Nat} (hm:n<=m):SetAt P K E w b m S:=by
 obtain ⟨D,h1,h2⟩:=h;exact ⟨D,h1.mono hm,h2⟩
theorem SetAt.congr (h:SetAt P K E w b n S) {T:Int->Bool} (e:∀ i,S i=T i):SetAt P K E w b n T:=by
 obtain ⟨D,h1,h2,h3⟩:=h;exact ⟨D,h1,h2,fun i=>by rw [h3,e]⟩
theorem plainElem_bool_inv {H:Type} {e:TypeId} (he:P.underlying e=some .bool) {v:Value} {z:DataW H×List MemPlace} (h:plainElem P e v=some z):∃ x,v=.bool x/\z=(.lit (.bool x),[]):=by
 unfold plainElem at h
 rw [he] at h
 cases v <;> simp at h
 exact ⟨_,rfl,h.symm⟩
theorem wf64 {i:Int} (h:-9223372036854775808<=i/\i<=9223372036854775807):(Lit.int .i64 i).wf=true:=by
 simp [Lit.wf,IntKind.min,IntKind.max,IntKind.bits,IntKind.signed];omega
theorem put_map {D:DataW Unit} (h:IsMap D) (k:Lit) (d:DataW Unit):IsMap (D.put k d):=by
 obtain ⟨es,rfl⟩:=h;exact ⟨_,rfl⟩
theorem del_map {D:DataW Unit} (h:IsMap D) (k:Lit):IsMap (D.del k):=by
 obtain ⟨es,rfl⟩:=h;exact ⟨_,rfl⟩
theorem wpList_lookup_set {ops:Array Oper} {rest:List Oper} {o:Oper} {a:Act} {Q:Exit->Act->World->Prop} (w:World) (hg:o.guard=none) (m x:Operand) (t:TypeId) (hop:o.op=Op.lookup t m x false)
  (K E:TypeId) (hK:P.underlying K=some (.int .i64)) (ht:P.underlying t=some (.map K E)) (hE:P.underlying E=some .bool) (hz:(zeroValue E).run P w=.ok (.bool false) w)
  (b n:Nat) (S:Int->Bool) (hm:a.eval m=.map (some b)) (h:SetAt P K E w b n S) (i:Int) (hx:a.eval x=.int .i64 i) (hi:-9223372036854775808<=i/\i<=9223372036854775807)
  (hk:wpList P ops Q rest (a.put o.dst (.bool (S i))) w):wpList P ops Q (o::rest) a w:=by
 refine wpList_plain hg fun K' hK'=>?_
 obtain ⟨D,h1,h2,h3⟩:=h
 obtain ⟨v,ps,hrun,hv⟩:=h1.lookup (int_keyed hK) ht hz (plainElem_bool hE false) (keyOf_int_mk hK (wf64 hi))
 obtain ⟨c,rfl,hc⟩:=plainElem_bool_inv hE hv
 rw [h3] at hc
 simp only [Prod.mk.injEq,DataW.lit.injEq,Lit.bool.injEq] at hc
 unfold Oper.wp
 simp [execOp,hop,hm,hx,hrun,Result.andThen]
 rw [<- hc.1]
 exact hK' _ _ hk
theorem wpList_mapUpdate_set {ops:Array Oper} {rest:List Oper} {o:Oper} {a:Act} {Q:Exit->Act->World->Prop} (w:World) (hg:o.guard=none) (m x v:Operand) (t:TypeId) (hop:o.op=Op.mapUpdate t m x v)
  (K E:TypeId) (hK:P.underlying K=some (.int .i64)) (ht:P.underlying t=some (.map K E)) (hE:P.underlying E=some .bool)
  (b n:Nat) (S:Int->Bool) (hm:a.eval m=.map (some b)) (h:SetAt P K E w b n S) (hn:n<maxLen) (i:Int) (hx:a.eval x=.int .i64 i) (hi:-9223372036854775808<=i/\i<=9223372036854775807) (c:Bool) (hv:a.eval v=.bool c)
  (hk:∀ w',SetAt P K E w' b (n+1) (fun j=>if j=i then c else S j)->w.grownBy w' (some b)->wpList P ops Q rest (a.put o.dst undef) w'):wpList P ops Q (o::rest) a w:=by
 obtain ⟨D,h1,h2,h3⟩:=h
 refine wpList_mapUpdate_own w hg m x v t hop K E (int_keyed hK) ht (plainElem P E) b n D hm h1 hn _ _ (.int .i64 i) hx hv (keyOf_int_mk hK (wf64 hi)) (.lit (.bool c)) [] (plainElem_bool hE c) (fun w' r1 r2=>hk w' ⟨_,r1,put_map h2 _ _,fun j=>?_⟩ r2)
 by_cases e:j=i
 ·subst e;rw [atKey_put_same h2 (k:=.int .i64 j) trivial];simp
 ·rw [atKey_put_other (by simpa using e),h3];simp [e]
theorem wpList_delete_set {ops:Array Oper} {rest:List Oper} {o:Oper} {a:Act} {Q:Exit->Act->World->Prop} (w:World) (hg:o.guard=none) (m x:Operand) (t K:TypeId) (hop:o.op=Op.call { callee:=Callee.builtin Builtin.delete,args:=#[m,x],argTypes:=#[t,K] })
  (E:TypeId) (hK:P.underlying K=some (.int .i64)) (ht:P.underlying t=some (.map K E))
  (b n:Nat) (S:Int->Bool) (hm:a.eval m=.map (some b)) (h:SetAt P K E w b n S) (i:Int) (hx:a.eval x=.int .i64 i) (hi:-9223372036854775808<=i/\i<=9223372036854775807)
  (hk:∀ w',SetAt P K E w' b n (fun j=>if j=i then false else S j)->w.grownBy w' (some b)->wpList P ops Q rest (a.put o.dst (.tuple #[])) w'):wpList P ops Q (o::rest) a w:=by
 obtain ⟨D,h1,h2,h3⟩:=h
 refine wpList_delete_own w hg m x t K hop E (int_keyed hK) ht (plainElem P E) b n D hm h1 _ (.int .i64 i) hx (keyOf_int_mk hK (wf64 hi)) (fun w' r1 r2=>hk w' ⟨_,r1,del_map h2 _,fun j=>?_⟩ r2.grown)
 by_cases e:j=i
 ·subst e;rw [atKey_del_same];simp
 ·rw [atKey_del_other (by simpa using e),h3];simp [e]
end
section
open Go.RowKit
theorem step_append1 {P:Program} {ops:Array Oper} {o:Oper} {a:Act} {w:World} {K:Act->World->Prop} {Q:Exit->Act->World->Prop} {E:Prop} (hgd:o.guard=none) (s x:Operand) (t:TypeId)
  (ho:o.op=.call { callee:=.builtin .append,args:=#[s,x],argTypes:=#[t,t] })
  (base:Nat) (e:TypeId) (i:TypeInfo) (z:Value) (bytes:Nat) (ht:P.underlying t=some (.slice e)) (hi:P.info? e=some i) (hz:i.zero=some z)
  (hsize:i.size=1) (hby:i.bytes=bytes) (hzs:z.cells.size=1)
  (v:Value) (n:Nat) (xs:List Value) (hs:a.eval s=v) (hown:w.ownsRow base e 1 v n xs)
  (u1:Value) (g:Nat) (hx:a.eval x=.slice (some ⟨g,0,none⟩) 1 1) (hc1:w.cell? ⟨g,0,none⟩=some u1) (h1:u1.oneCell'=true)
  (hbytes:(n+1) * bytes<=140737488355328/\n+1<=140737488355328) (hbase:base<=w.heap.size)
  (h:∀ g cap w',w'.ownsRow base e 1 (.slice (some ⟨g,0,none⟩) (n+1) cap) (n+1) (xs++[u1])->Below base w w'->KeepsBut w w' v->(v.ownBlock=some g\/g=w.heap.size)->K (a.put o.dst (.slice (some ⟨g,0,none⟩) (n+1) cap)) w') :
  if Region.wanted o (yielded ops a.tmps)=true then Oper.wp P o a w K Q else E:=by
 refine step_append_lies w hgd s x t ho base e i z 1 bytes ht hi hz hsize hby hzs (by decide) v n xs hs hown ⟨g,0,none⟩ 1 1 [u1] hx rfl ?_ ?_ (by decide) ?_ hbytes.1 hbase _ rfl ?_
 ·intro j y hj
  match j,hj with
  | 0,hj=>simp at hj;subst hj;simpa [Addr.add] using hc1
 ·intro y hy;simp at hy;subst hy;exact h1
 ·unfold maxLen;omega
 ·intro g cap w' r1 r2 r3 _
  exact h g cap w' r1 ((Below.refl base w).grown r2 hbase (ownBlock_ge hown)) (fun b hb hne=>r2.block b hb (fun he=>hne he.symm)) r3
end
end Go.Proofs.YtaekdgikgbdnnaaGreat
