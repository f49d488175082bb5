/-
  SETS OF INTEGERS FROM -200 TO 200 AS NORMAL LISTS OF RANGES. Plain: no program.
  LISTS OF RANGES IN MEMORY.
  A LIST OF RANGES THAT COMES IN.
  NORM'S PLAIN LAW: clamp each range, sort by the lower ends, melt what meets: the normal list. No program.
  PLAIN LAWS OF THE OTHER WORDS ON SETS. No program.
  PLAIN LAW of going through all integers one by one. No program.
  PLAIN LAWS of shifting and scaling. No program.
  PLAIN LAWS of places: which integer of a set is at a place; how many. No program.
  LAYINGS of library functions at this dump, in plain words (printed by the kit's own commands).
-/
import Derived.Test.YtaekdgikgbdnnaaGreatRows
import Derived.Test.YtaekdgikgbdnnaaGreatKlib1
import Derived.Lib.SmallJoins
import Derived.Shelf.SlSortCmp.WholeK
import Derived.Shelf.SlicesG.Cmp
import Derived.Shelf.SlicesQ.IndexFunc
namespace Go.Proofs.YtaekdgikgbdnnaaGreat
section
abbrev Rg:=Int×Int
def memL (rs:List Rg) (n:Int):Bool:=rs.any fun r=>decide (r.1<=n)&&decide (n<=r.2)
def NormFrom (lo:Int):List Rg->Prop
 | []=>True
 | r::rs=>lo<=r.1/\r.1<=r.2/\r.2<=200/\NormFrom (r.2+2) rs
def Normal (rs:List Rg):Prop:=NormFrom (-200) rs
theorem memL_cons (r:Rg) (rs:List Rg) (n:Int):memL (r::rs) n=((decide (r.1<=n)&&decide (n<=r.2))||memL rs n):=rfl
theorem memL_nil (n:Int):memL [] n=false:=rfl
theorem memL_append (a b:List Rg) (n:Int):memL (a++b) n=(memL a n||memL b n):=List.any_append
theorem NormFrom.mono {lo lo':Int} (h:lo'<=lo):∀ {rs:List Rg},NormFrom lo rs->NormFrom lo' rs
 | [],_=>trivial
 | _::_,⟨h1,h2,h3,h4⟩=>⟨by omega,h2,h3,h4⟩
theorem memL_low {lo n:Int} (h:n<lo):∀ {rs:List Rg},NormFrom lo rs->memL rs n=false
 | [],_=>rfl
 | r::rs,⟨h1,h2,h3,h4⟩=>by
  rw [memL_cons,memL_low (lo:=r.2+2) (by omega) h4]
  simp;omega
theorem memL_high {lo n:Int} (h:200<n):∀ {rs:List Rg},NormFrom lo rs->memL rs n=false
 | [],_=>rfl
 | r::rs,⟨h1,h2,h3,h4⟩=>by
  rw [memL_cons,memL_high h h4]
  simp;omega
theorem memL_bounds {rs:List Rg} (h:Normal rs) {n:Int} (hm:memL rs n=true):-200<=n/\n<=200:=by
 constructor
 ·rcases (show n<(-200)\/(-200)<=n by omega) with h1 | h1
  ·rw [memL_low h1 h] at hm;cases hm
  ·exact h1
 ·rcases (show 200<n\/n<=200 by omega) with h1 | h1
  ·rw [memL_high h1 h] at hm;cases hm
  ·exact h1
theorem normal_unique:∀ {as0 bs:List Rg} {lo:Int},NormFrom lo as0->NormFrom lo bs->(∀ n,memL as0 n=memL bs n)->as0=bs
 | [],[],_,_,_,_=>rfl
 | [],r::bs,lo,_,⟨h1,h2,_,_⟩,h=>by
  have:=h r.1
  rw [memL_nil,memL_cons] at this
  simp [h2] at this
 | r::as0,[],lo,⟨h1,h2,_,_⟩,_,h=>by
  have:=h r.1
  rw [memL_nil,memL_cons] at this
  simp [h2] at this
 | r::as0,s::bs,lo,⟨h1,h2,h3,h4⟩,⟨g1,g2,g3,g4⟩,h=>by
  have e1:r.1=s.1:=by
   rcases Int.lt_trichotomy r.1 s.1 with hl | hl | hl
   ·have:=h r.1
    rw [memL_cons,memL_cons,memL_low (n:=r.1) (lo:=s.2+2) (by omega) g4] at this
    simp [h2] at this;omega
   ·exact hl
   ·have:=h s.1
    rw [memL_cons,memL_cons,memL_low (n:=s.1) (lo:=r.2+2) (by omega) h4] at this
    simp [g2] at this;omega
  have e2:r.2=s.2:=by
   rcases Int.lt_trichotomy r.2 s.2 with hl | hl | hl
   ·have:=h (r.2+1)
    rw [memL_cons,memL_cons,memL_low (n:=r.2+1) (lo:=r.2+2) (by omega) h4] at this
    have a1:decide (r.2+1<=r.2)=false:=by simp;omega
    have a2:decide (s.1<=r.2+1)=true:=by simp;omega
    have a3:decide (r.2+1<=s.2)=true:=by simp;omega
    simp [a1,a2,a3] at this
   ·exact hl
   ·have:=h (s.2+1)
    rw [memL_cons,memL_cons,memL_low (n:=s.2+1) (lo:=s.2+2) (by omega) g4] at this
    have a1:decide (s.2+1<=s.2)=false:=by simp;omega
    have a2:decide (r.1<=s.2+1)=true:=by simp;omega
    have a3:decide (s.2+1<=r.2)=true:=by simp;omega
    simp [a1,a2,a3] at this
  have e:r=s:=Prod.ext e1 e2
  subst e
  have ht:as0=bs:=normal_unique h4 g4 (fun n=>by
   have:=h n
   rw [memL_cons,memL_cons] at this
   by_cases hn:n<=r.2
   ·rw [memL_low (n:=n) (lo:=r.2+2) (by omega) h4,memL_low (n:=n) (lo:=r.2+2) (by omega) g4]
   ·have a1:decide (n<=r.2)=false:=by simpa using hn
    simpa [a1] using this)
  rw [ht]
def canonFrom (S:Int->Bool):Nat->Int->List Rg
 | 0,_=>[]
 | k+1,n=>if S n=true then
   (match canonFrom S k (n+1) with
    | r::t=>if r.1=n+1 then (n,r.2)::t else (n,n)::r::t
    | []=>[(n,n)])
  else canonFrom S k (n+1)
def canon (S:Int->Bool):List Rg:=canonFrom S 401 (-200)
theorem canonFrom_normal (S:Int->Bool):∀ (k:Nat) (n:Int),n+k=201->NormFrom n (canonFrom S k n)
 | 0,_,_=>trivial
 | k+1,n,h=>by
  have ih:=canonFrom_normal S k (n+1) (by omega)
  unfold canonFrom
  split
  ·cases hc:canonFrom S k (n+1) with
   | nil=>exact ⟨Int.le_refl _,Int.le_refl _,by dsimp only;omega,trivial⟩
   | cons r t =>
    rw [hc] at ih
    obtain ⟨h1,h2,h3,h4⟩:=ih
    dsimp only
    split
    ·exact ⟨Int.le_refl _,by dsimp only;omega,h3,h4⟩
    ·refine ⟨Int.le_refl _,Int.le_refl _,by dsimp only;omega,?_,h2,h3,h4⟩
     dsimp only;omega
  ·exact ih.mono (by omega)
theorem canonFrom_mem (S:Int->Bool):∀ (k:Nat) (n m:Int),n+k=201->memL (canonFrom S k n) m=(decide (n<=m)&&decide (m<=200)&&S m)
 | 0,n,m,h=>by
  rw [canonFrom,memL_nil]
  have:(decide (n<=m)&&decide (m<=200))=false:=by simp;omega
  rw [this];rfl
 | k+1,n,m,h=>by
  have ih:=canonFrom_mem S k (n+1) m (by omega)
  have hn:=canonFrom_normal S k (n+1) (by omega)
  unfold canonFrom
  by_cases hS:S n=true
  ·rw [if_pos hS]
   have goal:∀ L:List Rg,memL L m=(decide (m=n)||memL (canonFrom S k (n+1)) m)->memL L m=(decide (n<=m)&&decide (m<=200)&&S m):=by
    intro L hL
    rw [hL,ih]
    by_cases e:m=n
    ·subst e;simp [hS];omega
    ·have a1:decide (n+1<=m)=decide (n<=m):=by simp;omega
     simp [e,a1]
   cases hc:canonFrom S k (n+1) with
   | nil =>
    apply goal
    rw [hc,memL_nil]
    simp only [memL_cons,memL_nil]
    rw [Bool.eq_iff_iff];simp;omega
   | cons r t =>
    rw [hc] at hn
    obtain ⟨h1,h2,h3,h4⟩:=hn
    dsimp only
    split
    ·apply goal
     rw [hc,memL_cons,memL_cons]
     rw [<- Bool.or_assoc];congr 1
     rw [Bool.eq_iff_iff];simp;omega
    ·apply goal
     rw [hc,memL_cons];congr 1
     rw [Bool.eq_iff_iff];simp;omega
  ·rw [if_neg hS,ih]
   by_cases e:m=n
   ·subst e
    have:S m=false:=by simpa using hS
    simp [this]
   ·have a1:decide (n+1<=m)=decide (n<=m):=by simp;omega
    rw [a1]
theorem canon_normal (S:Int->Bool):Normal (canon S):=canonFrom_normal S 401 (-200) (by decide)
theorem canon_mem (S:Int->Bool) (m:Int):memL (canon S) m=(decide (-200<=m)&&decide (m<=200)&&S m):=canonFrom_mem S 401 (-200) m (by decide)
theorem is_canon {rs:List Rg} {S:Int->Bool} (h:Normal rs) (hm:∀ n,-200<=n->n<=200->memL rs n=S n):rs=canon S:=by
 refine normal_unique h (canon_normal S) (fun n=>?_)
 rw [canon_mem]
 by_cases h1:-200<=n
 ·by_cases h2:n<=200
  ·simp [h1,h2,hm n h1 h2]
  ·rw [memL_high (n:=n) (by omega) h];simp [h2]
 ·rw [memL_low (n:=n) (lo:=-200) (by omega) h];simp [h1]
theorem canon_congr {S T:Int->Bool} (h:∀ n,-200<=n->n<=200->S n=T n):canon S=canon T :=
 is_canon (canon_normal S) (fun n h1 h2=>by rw [canon_mem];simp [h1,h2,h n h1 h2])
theorem canon_self {rs:List Rg} (h:Normal rs):canon (memL rs)=rs:=(is_canon h (fun _ _ _=>rfl)).symm
def norm (rs:List Rg):List Rg:=canon (memL rs)
def meetL (a b:List Rg):List Rg:=canon fun n=>memL a n&&memL b n
def joinL (a b:List Rg):List Rg:=canon fun n=>memL a n||memL b n
def minusL (a b:List Rg):List Rg:=canon fun n=>memL a n&&!memL b n
def complL (a:List Rg):List Rg:=canon fun n=>!memL a n
def inD (n:Int):Bool:=decide (-200<=n)&&decide (n<=200)
theorem memL_norm (rs:List Rg) (n:Int):memL (norm rs) n=(inD n&&memL rs n):=canon_mem _ _
theorem norm_norm (rs:List Rg):norm (norm rs)=norm rs:=canon_self (canon_normal _)
end
section
open Go.RowKit
def cellsR (rs:List Rg):List Value:=rs.flatMap fun r=>[Value.int .i64 r.1,Value.int .i64 r.2]
theorem cellsR_length (rs:List Rg):(cellsR rs).length=rs.length * 2:=by
 induction rs with
 | nil=>rfl
 | cons r rs ih=>simp [cellsR] at ih |-;omega
theorem cellsR_cons (r:Rg) (rs:List Rg):cellsR (r::rs)=.int .i64 r.1::.int .i64 r.2::cellsR rs:=rfl
theorem cellsR_append (a b:List Rg):cellsR (a++b)=cellsR a++cellsR b:=by simp [cellsR]
theorem cellsR_at (rs:List Rg):∀ j,(hj:j<rs.length)->(cellsR rs)[j * 2]?=some (.int .i64 rs[j].1)/\(cellsR rs)[j * 2+1]?=some (.int .i64 rs[j].2):=by
 induction rs with
 | nil=>intro j hj;simp at hj
 | cons r rs ih =>
  intro j hj
  cases j with
  | zero=>exact ⟨rfl,rfl⟩
  | succ j =>
   have:=ih j (by simpa using hj)
   rw [cellsR_cons,show (j+1) * 2=j * 2+1+1 by omega]
   exact this
theorem cellsR_one (rs:List Rg):∀ u∈cellsR rs,u.oneCell'=true:=by
 intro u hu
 obtain ⟨r,_,h⟩:=List.mem_flatMap.1 hu
 simp at h
 rcases h with rfl | rfl <;> rfl
def RgAt (w:World) (v:Value) (rs:List Rg):Prop:=SlAt w 2 v rs.length (cellsR rs)
theorem RgAt.below {w w':World} {v:Value} {rs:List Rg} (h:RgAt w v rs) (hb:Below w.heap.size w w'):RgAt w' v rs:=SlAt.below h hb
theorem RgAt.nil {w:World}:RgAt w (.slice none 0 0) []:=SlAt.nil
theorem RgAt.own {w:World} {base:Nat} {e:TypeId} {v:Value} {rs:List Rg} (h:w.ownsRow base e 2 v rs.length (cellsR rs)):RgAt w v rs:=SlAt.of_own h
theorem RgAt.at {w:World} {v:Value} {rs:List Rg} (h:RgAt w v rs) (hp:0<rs.length) :
  ∃ b off cap,v=.slice (some ⟨b,off,none⟩) rs.length cap/\rs.length<=cap/\b<w.heap.size /\
   ∀ j,(hj:j<rs.length)->w.cell? ⟨b,off+j * 2,none⟩=some (.int .i64 rs[j].1)/\w.cell? ⟨b,off+j * 2+1,none⟩=some (.int .i64 rs[j].2):=by
 obtain ⟨b,off,cap,rfl,h1,_,h2,h3⟩:=SlAt.pos h (by omega)
 refine ⟨b,off,cap,rfl,h1,h2,fun j hj=>?_⟩
 obtain ⟨a1,a2⟩:=cellsR_at rs j hj
 have b1:=h3 (j * 2) (by omega)
 have b2:=h3 (j * 2+1) (by omega)
 rw [a1] at b1
 rw [a2] at b2
 exact ⟨b1,b2⟩
theorem RgAt.empty {w:World} {b o:Nat} (_u:Nat):RgAt w (.slice (some ⟨b,o,none⟩) 0 0) [] :=
 ⟨rfl,_,_,rfl,rN _,by simp [maxLen],fun _=>rfl,fun h=>by simp at h⟩
theorem RgAt.tail_lt {w:World} {b o c:Nat} {r:Rg} {xs:List Rg} (h:RgAt w (.slice (some ⟨b,o,none⟩) (xs.length+1) c) (r::xs)):RgAt w (.slice (some ⟨b,o+2,none⟩) xs.length (c - 1)) xs:=by
 have h':SlAt w 2 (.slice (some ⟨b,o,none⟩) (xs.length+1) c) (xs.length+1) (cellsR (r::xs)):=h
 exact SlAt.drop (by decide) h' 1 (by omega) (by omega) rfl (fun _ b' o' he=>by simp at he;rw [he.1,he.2]) (fun _ he=>by cases he)
theorem Tryz.infoRg:(Tryz.prog.info? 77).map (fun i=>(i.zero,i.size,i.bytes))=some (some (.agg #[.int .i64 0,.int .i64 0]),2,16):=by kernel_rfl
theorem wpList_append2g {P:Program} {w0:World} {ops:Array Oper} {rest:List Oper} {o:Oper} {a:Act} {Q:Exit->Act->World->Prop} (hgd:o.guard=none) (s x:Operand) (t:TypeId)
  (ho:o.op=.call { callee:=.builtin .append,args:=#[s,x],argTypes:=#[t,t] })
  (base:Nat) (e:TypeId) (i:TypeInfo) (z:Value) (bytes:Nat) (ht:P.underlying t=some (.slice e)) (hi:P.info? e=some i) (hz:i.zero=some z)
  (hsize:i.size=2) (hby:i.bytes=bytes) (hzs:z.cells.size=2)
  (v:Value) (n:Nat) (xs:List Value) (hs:a.eval s=v) (hown:w0.ownsRow base e 2 v n xs) {e':TypeId}
  (u1 u2:Value) {g:Nat} (hx:a.eval x=.slice (some ⟨g,0,none⟩) 1 1) (hg:w0.heap.size=g) (h1:u1.oneCell'=true) (h2:u2.oneCell'=true)
  (hbytes:(n+1) * bytes<=140737488355328/\n+1<=140737488355328) (hbase:base<=w0.heap.size)
  (h:∀ v' w',w'.ownsRow base e 2 v' (n+1) (xs++[u1,u2])->Below base w0 w'->(∀ b off u,v.ownBlock≠some b->w0.cell? ⟨b,off,none⟩=some u->w'.cell? ⟨b,off,none⟩=some u)->wpList P ops Q rest (a.put o.dst v') w') :
  wpList P ops Q (o::rest) a (w0.alloc (.cells #[u1,u2] e')):=by
 subst hg
 refine wpList_append_own _ hgd s x t ho base e i z 2 bytes ht hi hz hsize hby hzs (by decide) v n xs hs (hown.alloc _) ⟨w0.heap.size,0,none⟩ 1 1 [u1,u2] hx rfl ?_ ?_ ?_ hbytes.1 ?_ ?_
 ·intro j y hj
  match j,hj with
  | 0,hj=>simp at hj;subst hj;simp [Addr.add]
  | 1,hj=>simp at hj;subst hj;simp [Addr.add]
 ·intro y hy;simp at hy;rcases hy with rfl | rfl <;> assumption
 ·unfold maxLen;omega
 ·simp;omega
 ·intro v' w' r1 r2 r3
  refine h v' w' r1 (below_grown hbase r2 (ownBlock_ge hown)) (fun b off u hne hc=>?_)
  have hlt:=World.block_lt_of_cell? w0 _ hc
  obtain ⟨_,_,_,_,hk⟩:=r2
  have hc2:=Lib.cell?_alloc_some (.cells #[u1,u2] e') hc
  rw [<- hc2]
  exact World.cell?_of_block (hk b (by simp at hlt |-;omega) (fun he=>hne he.symm))
theorem wpList_append2 {P:Program} {w0:World} {ops:Array Oper} {rest:List Oper} {o:Oper} {a:Act} {Q:Exit->Act->World->Prop} (hgd:o.guard=none) (s x:Operand) (t:TypeId)
  (ho:o.op=.call { callee:=.builtin .append,args:=#[s,x],argTypes:=#[t,t] })
  (base:Nat) (e:TypeId) (i:TypeInfo) (z:Value) (bytes:Nat) (ht:P.underlying t=some (.slice e)) (hi:P.info? e=some i) (hz:i.zero=some z)
  (hsize:i.size=2) (hby:i.bytes=bytes) (hzs:z.cells.size=2)
  (v:Value) (n:Nat) (xs:List Value) (hs:a.eval s=v) (hown:w0.ownsRow base e 2 v n xs) {e':TypeId}
  (u1 u2:Value) {g:Nat} (hx:a.eval x=.slice (some ⟨g,0,none⟩) 1 1) (hg:w0.heap.size=g) (h1:u1.oneCell'=true) (h2:u2.oneCell'=true)
  (hbytes:(n+1) * bytes<=140737488355328/\n+1<=140737488355328) (hbase:base<=w0.heap.size)
  (h:∀ v' w',w'.ownsRow base e 2 v' (n+1) (xs++[u1,u2])->Below base w0 w'->True->wpList P ops Q rest (a.put o.dst v') w') :
  wpList P ops Q (o::rest) a (w0.alloc (.cells #[u1,u2] e')) :=
 wpList_append2g hgd s x t ho base e i z bytes ht hi hz hsize hby hzs v n xs hs hown u1 u2 hx hg h1 h2 hbytes hbase (fun v' w' a b _=>h v' w' a b trivial)
end
section
open Go.RowKit Go.ChangeShapes Go.WideShapes Go.ChangeAt
theorem cellsRg:Tryz.prog.cellsOf 77=2:=by kernel_rfl
theorem cellsInt:Tryz.prog.cellsOf 3=1:=by kernel_rfl
theorem pair_cut {xs:List Value} {n i:Nat} (hl:xs.length=n * 2) (hi:i<n):∃ x0 x1,xs[i * 2]?=some x0/\xs[i * 2+1]?=some x1/\(xs.drop (i * 2)).take 2=[x0,x1]:=by
 have h0:i * 2<xs.length:=by omega
 have h1:i * 2+1<xs.length:=by omega
 refine ⟨xs[i * 2],xs[i * 2+1],List.getElem?_eq_getElem h0,List.getElem?_eq_getElem h1,?_⟩
 rw [List.drop_eq_getElem_cons h0,List.drop_eq_getElem_cons h1]
 rfl
end
section
def clampR (r:Rg):Rg:=(max r.1 (-200),min r.2 200)
def clampL (rs:List Rg):List Rg:=(rs.map clampR).filter fun r=>decide (r.1<=r.2)
theorem clampL_snoc (rs:List Rg) (r:Rg):clampL (rs++[r])=clampL rs++(if (clampR r).1<=(clampR r).2 then [clampR r] else []):=by
 unfold clampL
 rw [List.map_append,List.filter_append]
 congr 1
 simp only [List.map_cons,List.map_nil,List.filter_cons,List.filter_nil]
 split <;> simp_all
theorem clampL_len (rs:List Rg):(clampL rs).length<=rs.length:=by
 unfold clampL;exact Nat.le_trans (List.length_filter_le _ _) (by simp)
theorem clampL_ok (rs:List Rg):∀ r∈clampL rs,-200<=r.1/\r.1<=r.2/\r.2<=200:=by
 intro r hr
 obtain ⟨h1,h2⟩:=List.mem_filter.1 hr
 obtain ⟨s,_,rfl⟩:=List.mem_map.1 h1
 simp only [decide_eq_true_eq] at h2
 simp only [clampR] at h2 |-
 omega
theorem memL_clampL (rs:List Rg) (n:Int) (h1:-200<=n) (h2:n<=200):memL (clampL rs) n=memL rs n:=by
 rw [Bool.eq_iff_iff]
 simp only [memL,List.any_eq_true,clampL,List.mem_filter,List.mem_map,Bool.and_eq_true,decide_eq_true_eq]
 constructor
 ·rintro ⟨r,⟨⟨s,hs,rfl⟩,_⟩,h3,h4⟩
  simp only [clampR] at h3 h4
  exact ⟨s,hs,by omega,by omega⟩
 ·rintro ⟨s,hs,h3,h4⟩
  refine ⟨clampR s,⟨⟨s,hs,rfl⟩,?_⟩,?_,?_⟩ <;> simp only [clampR] <;> omega
def pushR (out:List Rg) (r:Rg):List Rg :=
 match out.getLast? with
 | none=>out++[r]
 | some p=>if r.1<=p.2+1 then out.dropLast++[(p.1,max p.2 r.2)] else out++[r]
def mergeL (l:List Rg):List Rg:=l.foldl pushR []
theorem pushR_nil (r:Rg):pushR [] r=[r]:=rfl
theorem pushR_snoc (out:List Rg) (p r:Rg):pushR (out++[p]) r=if r.1<=p.2+1 then out++[(p.1,max p.2 r.2)] else out++[p]++[r]:=by
 unfold pushR;simp
theorem mergeL_snoc (l:List Rg) (r:Rg):mergeL (l++[r])=pushR (mergeL l) r:=by unfold mergeL;rw [List.foldl_append];rfl
theorem pushR_len (out:List Rg) (r:Rg):(pushR out r).length<=out.length+1:=by
 rcases List.eq_nil_or_concat out with rfl | ⟨o,p,rfl⟩
 ·exact rN _
 ·rw [List.concat_eq_append,pushR_snoc];split <;> simp
theorem mergeL_len (l:List Rg):(mergeL l).length<=l.length:=by
 have:∀ (l o:List Rg),(l.foldl pushR o).length<=o.length+l.length:=by
  intro l
  induction l with
  | nil=>intro o;simp
  | cons r l ih=>intro o;rw [List.foldl_cons];have:=ih (pushR o r);have:=pushR_len o r;simp;omega
 simpa [mergeL] using this l []
theorem NormFrom.snoc {lo:Int}:∀ {out:List Rg} {p:Rg},NormFrom lo (out++[p])↔NormFrom lo out/\lo<=p.1/\p.1<=p.2/\p.2<=200/\(∀ q∈out,q.2+2<=p.1)
 | [],p=>by simp [NormFrom]
 | r::out,p=>by
  simp only [List.cons_append,NormFrom,NormFrom.snoc (out:=out) (p:=p),List.mem_cons,forall_eq_or_imp]
  constructor
  ·rintro ⟨a,b,c,d,e,f,g,h⟩;exact ⟨⟨a,b,c,d⟩,by omega,f,g,e,h⟩
  ·rintro ⟨⟨a,b,c,d⟩,e,f,g,h,i⟩;exact ⟨a,b,c,d,h,f,g,i⟩
theorem pushR_ok (out:List Rg) (r:Rg) (ho:Normal out) (hr:-200<=r.1/\r.1<=r.2/\r.2<=200) (hs:∀ p∈out,p.1<=r.1) :
  Normal (pushR out r)/\(∀ n,memL (pushR out r) n=(memL out n||(decide (r.1<=n)&&decide (n<=r.2))))/\∀ p∈pushR out r,p.1<=r.1:=by
 rcases List.eq_nil_or_concat out with rfl | ⟨o,p,rfl⟩
 ·exact ⟨⟨hr.1,hr.2.1,hr.2.2,trivial⟩,fun n=>by simp [pushR_nil,memL_cons,memL_nil],fun p hp=>by simp [pushR_nil] at hp;subst hp;exact Int.le_refl _⟩
 ·rw [List.concat_eq_append] at ho hs |-
  obtain ⟨n1,n2,n3,n4,n5⟩:=NormFrom.snoc.1 ho
  have hp:=hs p (by simp)
  rw [pushR_snoc]
  split
  ·next hc =>
   refine ⟨NormFrom.snoc.2 ⟨n1,n2,by dsimp only;omega,by dsimp only;omega,n5⟩,fun n=>?_,fun q hq=>?_⟩
   ·rw [memL_append,memL_append,memL_cons,memL_cons,memL_nil,Bool.or_assoc]
    congr 1
    rw [Bool.eq_iff_iff];simp;omega
   ·rcases List.mem_append.1 hq with h | h
    ·exact hs q (by simp [h])
    ·simp at h;subst h;exact hp
  ·next hc =>
   refine ⟨NormFrom.snoc.2 ⟨ho,hr.1,hr.2.1,hr.2.2,fun q hq=>?_⟩,fun n=>by rw [memL_append];simp [memL_cons,memL_nil],fun q hq=>?_⟩
   ·rcases List.mem_append.1 hq with h | h
    ·have:=n5 q h;omega
    ·simp at h;subst h;omega
   ·rcases List.mem_append.1 hq with h | h
    ·exact hs q h
    ·simp at h;subst h;exact Int.le_refl _
theorem mergeL_ok (l:List Rg) (hok:∀ r∈l,-200<=r.1/\r.1<=r.2/\r.2<=200) (hs:l.Pairwise fun a b=>a.1<=b.1):Normal (mergeL l)/\∀ n,memL (mergeL l) n=memL l n:=by
 have key:∀ (l o:List Rg),(∀ r∈l,-200<=r.1/\r.1<=r.2/\r.2<=200)->l.Pairwise (fun a b=>a.1<=b.1)->Normal o->(∀ p∈o,∀ r∈l,p.1<=r.1) ->
   Normal (l.foldl pushR o)/\∀ n,memL (l.foldl pushR o) n=(memL o n||memL l n):=by
  intro l
  induction l with
  | nil=>intro o _ _ ho _;exact ⟨ho,fun n=>by simp [memL_nil]⟩
  | cons r l ih =>
   intro o hok hs ho hb
   obtain ⟨s1,s2⟩:=List.pairwise_cons.1 hs
   obtain ⟨a,b,c⟩:=pushR_ok o r ho (hok r (by simp)) (fun p hp=>hb p hp r (by simp))
   obtain ⟨d,e⟩:=ih (pushR o r) (fun x hx=>hok x (by simp [hx])) s2 a (fun p hp x hx=>by have:=c p hp;have:=s1 x hx;omega)
   exact ⟨d,fun n=>by rw [List.foldl_cons,e,b,memL_cons,Bool.or_assoc]⟩
 obtain ⟨a,b⟩:=key l [] hok hs trivial (fun p hp=>by simp at hp)
 exact ⟨a,fun n=>by unfold mergeL;rw [b,memL_nil,Bool.false_or]⟩
theorem mergeL_norm (rs l:List Rg) (hp:∀ r,r∈l↔r∈clampL rs) (hs:l.Pairwise fun a b=>a.1<=b.1):mergeL l=norm rs:=by
 obtain ⟨a,b⟩:=mergeL_ok l (fun r hr=>clampL_ok rs r ((hp r).1 hr)) hs
 refine is_canon a (fun n h1 h2=>?_)
 rw [b,<- memL_clampL rs n h1 h2,Bool.eq_iff_iff]
 simp only [memL,List.any_eq_true,hp]
theorem NormFrom.len:∀ {L:List Rg} {lo:Int},lo<=202->NormFrom lo L->(L.length:Int) * 2<=202 - lo
 | [],lo,h,_=>by simp;omega
 | r::rs,lo,h,⟨h1,h2,h3,h4⟩=>by
  have:=NormFrom.len (L:=rs) (lo:=r.2+2) (by omega) h4
  simp only [List.length_cons];omega
theorem normal_len {L:List Rg} (h:Normal L):L.length<=201:=by
 have:=NormFrom.len (by decide) h;omega
theorem canon_len (S:Int->Bool):(canon S).length<=201:=normal_len (canon_normal S)
theorem norm_len (rs:List Rg):(norm rs).length<=201:=canon_len _
theorem norm_normal (rs:List Rg):Normal (norm rs):=canon_normal _
theorem NormFrom.bounds:∀ {L:List Rg} {lo:Int},NormFrom lo L->∀ p∈L,lo<=p.1/\p.1<=p.2/\p.2<=200
 | [],_,_,p,hp=>by simp at hp
 | r::L,lo,⟨h1,h2,h3,h4⟩,p,hp=>by
  rcases List.mem_cons.1 hp with rfl | hp
  ·exact ⟨h1,h2,h3⟩
  ·have:=NormFrom.bounds h4 p hp;omega
theorem norm_bounds (rs:List Rg):∀ p∈norm rs,-200<=p.1/\p.1<=p.2/\p.2<=200:=(norm_normal rs).bounds
theorem norm_of_normal {l:List Rg} (h:Normal l):norm l=l:=canon_self h
def meetM:List Rg->List Rg->List Rg
 | [],_=>[]
 | _::_,[]=>[]
 | r::x,s::y =>
  (if max r.1 s.1<=min r.2 s.2 then [(max r.1 s.1,min r.2 s.2)] else [])++(if r.2<s.2 then meetM x (s::y) else meetM (r::x) y)
termination_by x y=>x.length+y.length
theorem meetM_nil (y:List Rg):meetM [] y=[]:=by unfold meetM;rfl
theorem meetM_nil2 (x:List Rg):meetM x []=[]:=by cases x <;> (unfold meetM;rfl)
theorem meetM_cons (r s:Rg) (x y:List Rg):meetM (r::x) (s::y)=(if max r.1 s.1<=min r.2 s.2 then [(max r.1 s.1,min r.2 s.2)] else [])++(if r.2<s.2 then meetM x (s::y) else meetM (r::x) y):=by
 rw [meetM]
theorem meetM_ok:∀ (m:Nat) (x y:List Rg) (lx ly:Int),x.length+y.length<=m->NormFrom lx x->NormFrom ly y ->
  NormFrom (max lx ly) (meetM x y)/\∀ n,memL (meetM x y) n=(memL x n&&memL y n)
 | _,[],y,lx,ly,_,hx,hy=>by rw [meetM_nil];exact ⟨trivial,fun n=>by simp [memL_nil]⟩
 | _,r::x,[],lx,ly,_,hx,hy=>by rw [meetM_nil2];exact ⟨trivial,fun n=>by simp [memL_nil]⟩
 | 0,r::x,s::y,lx,ly,hm,hx,hy=>by simp at hm
 | m+1,r::x,s::y,lx,ly,hm,hx,hy=>by
  have hx0:=hx
  have hy0:=hy
  obtain ⟨a1,a2,a3,a4⟩:=hx
  obtain ⟨b1,b2,b3,b4⟩:=hy
  simp only [List.length_cons] at hm
  rw [meetM_cons]
  by_cases hlt:r.2<s.2
  ·rw [if_pos hlt]
   obtain ⟨c,d⟩:=meetM_ok m x (s::y) (r.2+2) ly (by simp;omega) a4 hy0
   constructor
   ·split
    ·exact ⟨by dsimp only;omega,by dsimp only;omega,by dsimp only;omega,c.mono (by dsimp only;omega)⟩
    ·exact c.mono (by omega)
   ·intro n
    rw [memL_append,d,memL_cons r x,memL_cons s y]
    have e:memL (if max r.1 s.1<=min r.2 s.2 then [(max r.1 s.1,min r.2 s.2)] else []) n=((decide (r.1<=n)&&decide (n<=r.2))&&(decide (s.1<=n)&&decide (n<=s.2))):=by
     rw [Bool.eq_iff_iff]
     split <;> simp [memL_cons,memL_nil] <;> omega
    rw [e]
    by_cases hn:n<=r.2
    ·rw [memL_low (n:=n) (lo:=r.2+2) (by omega) a4,memL_low (n:=n) (lo:=s.2+2) (by omega) b4]
     simp
    ·simp [hn]
  ·rw [if_neg hlt]
   obtain ⟨c,d⟩:=meetM_ok m (r::x) y lx (s.2+2) (by simp;omega) hx0 b4
   constructor
   ·split
    ·exact ⟨by dsimp only;omega,by dsimp only;omega,by dsimp only;omega,c.mono (by dsimp only;omega)⟩
    ·exact c.mono (by omega)
   ·intro n
    rw [memL_append,d,memL_cons r x,memL_cons s y]
    have e:memL (if max r.1 s.1<=min r.2 s.2 then [(max r.1 s.1,min r.2 s.2)] else []) n=((decide (r.1<=n)&&decide (n<=r.2))&&(decide (s.1<=n)&&decide (n<=s.2))):=by
     rw [Bool.eq_iff_iff]
     split <;> simp [memL_cons,memL_nil] <;> omega
    rw [e]
    by_cases hn:n<=s.2
    ·rw [memL_low (n:=n) (lo:=s.2+2) (by omega) b4]
     by_cases hn2:n<=r.2
     ·rw [memL_low (n:=n) (lo:=r.2+2) (by omega) a4];simp
     ·omega
    ·simp [hn]
theorem meetM_norm (a b:List Rg):meetM (norm a) (norm b)=meetL a b:=by
 obtain ⟨c,d⟩:=meetM_ok _ (norm a) (norm b) (-200) (-200) (rN _) (norm_normal a) (norm_normal b)
 refine is_canon (c.mono (by decide)) (fun n h1 h2=>?_)
 rw [d,memL_norm,memL_norm];simp [inD,h1,h2]
def complW (from':Int):List Rg->List Rg
 | []=>if from'<=200 then [(from',200)] else []
 | r::l=>(if from'<r.1 then [(from',r.1 - 1)] else [])++complW (r.2+1) l
theorem complW_ok:∀ (l:List Rg) (f:Int),-200<=f->NormFrom f l->NormFrom f (complW f l)/\∀ n,n<=200->memL (complW f l) n=(decide (f<=n)&&!memL l n)
 | [],f,hf,_=>by
  unfold complW
  split
  ·exact ⟨⟨Int.le_refl _,by assumption,Int.le_refl _,trivial⟩,fun n hn=>by simp [memL_cons,memL_nil,hn]⟩
  ·exact ⟨trivial,fun n hn=>by simp [memL_nil];omega⟩
 | r::l,f,hf,⟨h1,h2,h3,h4⟩=>by
  obtain ⟨a,b⟩:=complW_ok l (r.2+1) (by omega) (h4.mono (by omega))
  unfold complW
  constructor
  ·split
   ·exact ⟨Int.le_refl _,by dsimp only;omega,by dsimp only;omega,a.mono (by dsimp only;omega)⟩
   ·exact a.mono (by omega)
  ·intro n hn
   rw [memL_append,b n hn,memL_cons]
   by_cases hlow:n<=r.2
   ·rw [memL_low (n:=n) (lo:=r.2+2) (by omega) h4,Bool.eq_iff_iff]
    split <;> simp [memL_cons,memL_nil] <;> omega
   ·generalize memL l n=q
    cases q <;> rw [Bool.eq_iff_iff] <;> split <;> simp [memL_cons,memL_nil] <;> omega
theorem complW_norm (a:List Rg):complW (-200) (norm a)=complL a:=by
 obtain ⟨c,d⟩:=complW_ok (norm a) (-200) (by decide) (norm_normal a)
 refine is_canon c (fun n h1 h2=>?_)
 rw [d n h2,memL_norm];simp [inD,h1,h2]
def sizeL:List Rg->Int
 | []=>0
 | r::l=>(r.2 - r.1+1)+sizeL l
def cnt (S:Int->Bool):Nat->Int->Int
 | 0,_=>0
 | k+1,n=>(if S n=true then 1 else 0)+cnt S k (n+1)
theorem sizeL_canonFrom (S:Int->Bool):∀ (k:Nat) (n:Int),sizeL (canonFrom S k n)=cnt S k n
 | 0,_=>rfl
 | k+1,n=>by
  have ih:=sizeL_canonFrom S k (n+1)
  unfold canonFrom cnt
  by_cases hS:S n=true
  ·rw [if_pos hS,if_pos hS,<- ih]
   cases hc:canonFrom S k (n+1) with
   | nil=>simp [sizeL]
   | cons r t =>
    dsimp only
    split <;> simp only [sizeL] <;> omega
  ·rw [if_neg hS,if_neg hS,ih];omega
theorem sizeL_canon (S:Int->Bool):sizeL (canon S)=cnt S 401 (-200):=sizeL_canonFrom S 401 (-200)
theorem cnt_nonneg (S:Int->Bool):∀ (k:Nat) (n:Int),0<=cnt S k n/\cnt S k n<=k
 | 0,_=>⟨Int.le_refl _,Int.le_refl _⟩
 | k+1,n=>by have:=cnt_nonneg S k (n+1);unfold cnt;split <;> omega
theorem sizeL_append (a b:List Rg):sizeL (a++b)=sizeL a+sizeL b:=by
 induction a with
 | nil=>simp [sizeL]
 | cons r a ih=>simp only [List.cons_append,sizeL,ih];omega
def atL:List Rg->Int->Option Int
 | [],_=>none
 | r::l,i=>if i ≥ r.2 - r.1+1 then atL l (i - (r.2 - r.1+1)) else some (r.1+i)
def seek (S:Int->Bool):Nat->Int->Int->Option Int
 | 0,_,_=>none
 | k+1,n,i=>if S n=true then (if i=0 then some n else seek S k (n+1) (i - 1)) else seek S k (n+1) i
theorem atL_canonFrom (S:Int->Bool):∀ (k:Nat) (n i:Int),n+k=201->0<=i->atL (canonFrom S k n) i=seek S k n i
 | 0,_,_,_,_=>rfl
 | k+1,n,i,hk,hi=>by
  unfold canonFrom seek
  have hn:=canonFrom_normal S k (n+1) (by omega)
  by_cases hS:S n=true
  ·rw [if_pos hS,if_pos hS]
   by_cases h0:i=0
   ·subst h0
    rw [if_pos rfl]
    cases hc:canonFrom S k (n+1) with
    | nil=>simp [atL]
    | cons r t =>
     rw [hc] at hn
     have:=hn.2.1
     have:=hn.1
     dsimp only
     split
     ·simp only [atL];rw [if_neg (by omega)];simp
     ·simp [atL]
   ·rw [if_neg h0,<- atL_canonFrom S k (n+1) (i - 1) (by omega) (by omega)]
    cases hc:canonFrom S k (n+1) with
    | nil=>simp [atL];omega
    | cons r t =>
     rw [hc] at hn
     dsimp only
     split
     ·next he =>
      simp only [atL]
      by_cases hc:i ≥ r.2 - n+1
      ·rw [if_pos hc,if_pos (by omega)];congr 1;omega
      ·rw [if_neg hc,if_neg (by omega)];congr 1;omega
     ·rw [atL];dsimp only;rw [if_pos (by omega)];congr 1;omega
  ·rw [if_neg hS,if_neg hS];exact atL_canonFrom S k (n+1) i (by omega) hi
theorem atL_canon (S:Int->Bool) (i:Int) (hi:0<=i):atL (canon S) i=seek S 401 (-200) i:=atL_canonFrom S 401 (-200) i (by decide) hi
def endsL (l:List Rg):Int×Int×Bool :=
 match l with
 | []=>(0,0,false)
 | r::t=>(r.1,((r::t).getLast (by simp)).2,true)
def setTop (O:List Rg) (n:Int):List Rg :=
 match O.getLast? with
 | none=>O
 | some p=>O.dropLast++[(p.1,n)]
theorem setTop_snoc (M:List Rg) (p:Rg) (n:Int):setTop (M++[p]) n=M++[(p.1,n)]:=by unfold setTop;simp
def accL (S:Int->Bool):Nat->List Rg×Bool
 | 0=>([],false)
 | k+1 =>
  if S ((k:Int) - 200)=true then
   (if (accL S k).2=true then setTop (accL S k).1 ((k:Int) - 200) else (accL S k).1++[((k:Int) - 200,(k:Int) - 200)],true)
  else ((accL S k).1,false)
theorem accL_ok (S:Int->Bool):∀ k:Nat,k<=401->Normal (accL S k).1/\(∀ n,memL (accL S k).1 n=(decide (-200<=n)&&decide (n<(k:Int) - 200)&&S n)) /\
  ((accL S k).2=true->∃ M p,(accL S k).1=M++[p]/\p.2=(k:Int) - 201)/\((accL S k).2=false->∀ p∈(accL S k).1,p.2+2<=(k:Int) - 200)
 | 0,_=>⟨trivial,fun n=>by rw [accL,memL_nil];symm;simp;omega,fun h=>by simp [accL] at h,fun _ p hp=>by simp [accL] at hp⟩
 | k+1,hk=>by
  obtain ⟨h1,h2,h3,h4⟩:=accL_ok S k (by omega)
  unfold accL
  generalize accL S k=st at h1 h2 h3 h4
  obtain ⟨O,op⟩:=st
  dsimp only at h1 h2 h3 h4 |-
  by_cases hS:S ((k:Int) - 200)=true
  ·rw [if_pos hS]
   cases op with
   | true =>
    obtain ⟨M,p,rfl,hp⟩:=h3 rfl
    rw [if_pos rfl,setTop_snoc]
    obtain ⟨n1,n2,n3,n4,n5⟩:=NormFrom.snoc.1 h1
    refine ⟨NormFrom.snoc.2 ⟨n1,n2,by dsimp only;omega,by dsimp only;omega,n5⟩,fun n=>?_,fun _=>⟨M,_,rfl,by push_cast;first | omega | (dsimp only;omega)⟩,fun h=>by cases h⟩
    have:=h2 n
    rw [memL_append,memL_cons,memL_nil] at this |-
    by_cases e:n=(k:Int) - 200
    ·subst e
     rw [hS,Bool.eq_iff_iff];simp;omega
    ·have e1:(decide (p.1<=n)&&decide (n<=(k:Int) - 200))=(decide (p.1<=n)&&decide (n<=p.2)):=by
      rw [Bool.eq_iff_iff];simp;omega
     have e2:decide (n<((k+1:Nat):Int) - 200)=decide (n<(k:Int) - 200):=by
      rw [decide_eq_decide];push_cast;omega
     dsimp only
     rw [e1,e2,this]
   | false =>
    rw [if_neg (by simp)]
    refine ⟨NormFrom.snoc.2 ⟨h1,by dsimp only;omega,Int.le_refl _,by dsimp only;omega,h4 rfl⟩,fun n=>?_,fun _=>⟨O,_,rfl,by push_cast;first | omega | (dsimp only;omega)⟩,fun h=>by cases h⟩
    rw [memL_append,memL_cons,memL_nil,h2 n]
    by_cases e:n=(k:Int) - 200
    ·subst e
     rw [hS,Bool.eq_iff_iff];simp;omega
    ·have e1:(decide ((k:Int) - 200<=n)&&decide (n<=(k:Int) - 200))=false:=by simp;omega
     have e2:decide (n<((k+1:Nat):Int) - 200)=decide (n<(k:Int) - 200):=by
      rw [decide_eq_decide];push_cast;omega
     dsimp only
     rw [e1,e2];simp
  ·rw [if_neg hS]
   refine ⟨h1,fun n=>?_,fun h=>(by cases h),fun _ p hp=>?_⟩
   ·rw [h2 n]
    by_cases e:n=(k:Int) - 200
    ·subst e
     have:S ((k:Int) - 200)=false:=by simpa using hS
     simp [this]
    ·have e2:decide (n<((k+1:Nat):Int) - 200)=decide (n<(k:Int) - 200):=by
      rw [decide_eq_decide];push_cast;omega
     rw [e2]
   ·push_cast
    cases op with
    | true =>
     obtain ⟨M,q,rfl,hq⟩:=h3 rfl
     rcases List.mem_append.1 hp with h | h
     ·have:=(NormFrom.snoc.1 h1).2.2.2.2 p h
      have:=(NormFrom.snoc.1 h1).2.2.1
      omega
     ·simp at h;subst h;omega
    | false=>have:=h4 rfl p hp;omega
theorem accL_canon (S:Int->Bool):(accL S 401).1=canon S:=by
 obtain ⟨h1,h2,_⟩:=accL_ok S 401 (rN _)
 refine is_canon h1 (fun n a b=>?_)
 rw [h2 n];simp [a];omega
theorem accL_len (S:Int->Bool) (k:Nat) (hk:k<=401):(accL S k).1.length<=201:=normal_len (accL_ok S k hk).1
theorem normal_snoc {out:List Rg} {p:Rg}:Normal (out++[p])↔Normal out/\-200<=p.1/\p.1<=p.2/\p.2<=200/\(∀ q,out.getLast?=some q->¬ p.1 - 1<=q.2):=by
 unfold Normal
 rw [NormFrom.snoc]
 constructor
 ·rintro ⟨a,b,c,d,e⟩
  refine ⟨a,b,c,d,fun q hq=>?_⟩
  have:=e q (List.mem_of_getLast? hq)
  omega
 ·rintro ⟨a,b,c,d,e⟩
  refine ⟨a,b,c,d,fun q hq=>?_⟩
  rcases List.eq_nil_or_concat out with rfl | ⟨M,t,rfl⟩
  ·simp at hq
  ·rw [List.concat_eq_append] at *
   have h1:=e t (by simp)
   rcases List.mem_append.1 hq with h | h
   ·have h2:=(NormFrom.snoc.1 a).2.2.2.2 q h
    have h3:=(NormFrom.snoc.1 a).2.2.1
    omega
   ·simp at h;subst h;omega
theorem normal_take {l:List Rg} (h:Normal l) (k:Nat):Normal (l.take k):=by
 have h':=h
 rw [<- List.take_append_drop k l] at h'
 have:∀ {x y:List Rg} {lo:Int},NormFrom lo (x++y)->NormFrom lo x:=by
  intro x
  induction x with
  | nil=>intros;trivial
  | cons r x ih=>intro y lo hh;exact ⟨hh.1,hh.2.1,hh.2.2.1,ih hh.2.2.2⟩
 exact this h'

theorem cnt_add (S:Int->Bool):∀ (a b:Nat) (n:Int),cnt S (a+b) n=cnt S a n+cnt S b (n+a)
 | 0,b,n=>by simp [cnt]
 | a+1,b,n=>by
  rw [show a+1+b=(a+b)+1 by omega]
  simp only [cnt]
  rw [cnt_add S a b (n+1),show n+1+(a:Int)=n+((a+1:Nat):Int) by push_cast;omega]
  omega
theorem seek_some (S:Int->Bool):∀ (k:Nat) (n i v:Int),seek S k n i=some v->n<=v/\v<n+k/\S v=true/\cnt S (v - n).toNat n=i
 | 0,n,i,v,h=>by cases h
 | k+1,n,i,v,h=>by
  unfold seek at h
  by_cases hS:S n=true
  ·rw [if_pos hS] at h
   by_cases h0:i=0
   ·rw [if_pos h0] at h
    cases h
    refine ⟨Int.le_refl _,by push_cast;omega,hS,?_⟩
    rw [show (n - n).toNat=0 by omega];simp [cnt,h0]
   ·rw [if_neg h0] at h
    obtain ⟨a,b,c,d⟩:=seek_some S k (n+1) (i - 1) v h
    refine ⟨by omega,by push_cast;omega,c,?_⟩
    rw [show (v - n).toNat=(v - (n+1)).toNat+1 by omega]
    simp only [cnt]
    rw [if_pos hS,d];omega
  ·rw [if_neg hS] at h
   obtain ⟨a,b,c,d⟩:=seek_some S k (n+1) i v h
   refine ⟨by omega,by push_cast;omega,c,?_⟩
   rw [show (v - n).toNat=(v - (n+1)).toNat+1 by omega]
   simp only [cnt]
   rw [if_neg hS,d];omega
theorem seek_in (S:Int->Bool):∀ (k:Nat) (n i:Int),0<=i->i<cnt S k n->∃ v,seek S k n i=some v
 | 0,n,i,h0,h1=>by simp [cnt] at h1;omega
 | k+1,n,i,h0,h1=>by
  unfold cnt at h1
  unfold seek
  by_cases hS:S n=true
  ·rw [if_pos hS] at h1 |-
   by_cases h2:i=0
   ·exact ⟨n,by rw [if_pos h2]⟩
   ·rw [if_neg h2];exact seek_in S k (n+1) (i - 1) (by omega) (by omega)
  ·rw [if_neg hS] at h1 |-
   exact seek_in S k (n+1) i h0 (by omega)
theorem cnt_step (S:Int->Bool) (n u v:Int) (h1:n<=u) (h2:u<v) (hS:S u=true):cnt S (u - n).toNat n+1<=cnt S (v - n).toNat n:=by
 rw [show (v - n).toNat=(u - n).toNat+((v - u).toNat - 1+1) by omega,cnt_add]
 have e:n+((u - n).toNat:Int)=u:=by omega
 rw [e]
 simp only [cnt]
 rw [if_pos hS]
 have:=(cnt_nonneg S ((v - u).toNat - 1) (u+1)).1
 omega
theorem cnt_mono (S:Int->Bool) (n u v:Int) (h1:n<=u) (h2:u<=v):cnt S (u - n).toNat n<=cnt S (v - n).toNat n:=by
 rw [show (v - n).toNat=(u - n).toNat+(v - u).toNat by omega,cnt_add]
 have:=(cnt_nonneg S (v - u).toNat (n+((u - n).toNat:Int))).1
 omega
def placeS (S:Int->Bool) (i:Int):Option Int:=if i<0 then none else atL (canon S) i
theorem placeS_eq (S:Int->Bool) (i:Int) (h:0<=i):placeS S i=seek S 401 (-200) i:=by
 unfold placeS;rw [if_neg (by omega),atL_canon S i h]
theorem placeS_in (S:Int->Bool) (i:Int) (h0:0<=i) (h1:i<sizeL (canon S)):∃ v,placeS S i=some v/\-200<=v/\v<=200/\S v=true:=by
 rw [sizeL_canon] at h1
 obtain ⟨v,hv⟩:=seek_in S 401 (-200) i h0 h1
 obtain ⟨a,b,c,_⟩:=seek_some S _ _ _ _ hv
 exact ⟨v,by rw [placeS_eq S i h0,hv],a,by omega,c⟩
theorem placeS_next (S:Int->Bool) (i v v':Int) (h0:0<=i) (h1:placeS S i=some v) (h2:placeS S (i+1)=some v'):v<v'/\∀ k,v<k->k<v'->S k=false:=by
 rw [placeS_eq S _ h0] at h1
 rw [placeS_eq S _ (by omega)] at h2
 obtain ⟨a1,b1,c1,d1⟩:=seek_some S _ _ _ _ h1
 obtain ⟨a2,b2,c2,d2⟩:=seek_some S _ _ _ _ h2
 have hlt:v<v':=by
  rcases (show v<v'\/v'<=v by omega) with h | h
  ·exact h
  ·have:=cnt_mono S (-200) v' v a2 h;omega
 refine ⟨hlt,fun k hk1 hk2=>?_⟩
 cases hS:S k with
 | false=>rfl
 | true =>
  have x1:=cnt_step S (-200) v k a1 hk1 c1
  have x2:=cnt_step S (-200) k v' (by omega) hk2 hS
  omega
theorem sizeL_pos:∀ (l:List Rg),(∀ r∈l,r.1<=r.2)->0<=sizeL l/\(sizeL l=0->l=[])
 | [],_=>⟨Int.le_refl _,fun _=>rfl⟩
 | r::l,h=>by
  have h1:=h r (by simp)
  have h2:=(sizeL_pos l (fun x hx=>h x (by simp [hx]))).1
  simp only [sizeL]
  exact ⟨by omega,fun h=>by omega⟩
end
section
open Go.Shelf
def Tryz.sortRg_ren:Go.Shelf.Ren:=⟨fun | 6=>80 | 15=>99 | 14=>98 | 28=>119 | 29=>120 | 20=>111 | 21=>112 | 22=>113 | 23=>114 | 24=>115 | 25=>116 | 26=>117 | 27=>118 | 46=>125 | 47=>126 | 48=>127 | 49=>128 | 50=>129 | 57=>132 | n=>n,fun | 22=>61 | 24=>77 | 25=>119 | 3=>3 | 39=>109 | 0=>0 | 53=>163 | 55=>165 | 4=>4 | 46=>157 | 45=>156 | 50=>62 | 5=>5 | 9=>9 | 66=>170 | 70=>174 | 76=>178 | 77=>167 | n=>n,fun | n=>n⟩
theorem Tryz.sortRg:Go.Proofs.SlLaysF0.n6 Tryz.prog Tryz.sortRg_ren:={
 mixed:=by kernel_rfl
 f6:=⟨Tryz.f80.name,by decide,Tryz.func80.trans (congrArg some (by kernel_rfl))⟩
 f14:=⟨Tryz.f98.name,by decide,Tryz.func98.trans (congrArg some (by kernel_rfl))⟩
 f15:=Tryz.func99.trans (congrArg some (by kernel_rfl))
 f20:=⟨Tryz.f111.name,by decide,Tryz.func111.trans (congrArg some (by kernel_rfl))⟩
 f21:=⟨Tryz.f112.name,by decide,Tryz.func112.trans (congrArg some (by kernel_rfl))⟩
 f22:=⟨Tryz.f113.name,by decide,Tryz.func113.trans (congrArg some (by kernel_rfl))⟩
 f23:=⟨Tryz.f114.name,by decide,Tryz.func114.trans (congrArg some (by kernel_rfl))⟩
 f24:=⟨Tryz.f115.name,by decide,Tryz.func115.trans (congrArg some (by kernel_rfl))⟩
 f25:=⟨Tryz.f116.name,by decide,Tryz.func116.trans (congrArg some (by kernel_rfl))⟩
 f26:=⟨Tryz.f117.name,by decide,Tryz.func117.trans (congrArg some (by kernel_rfl))⟩
 f27:=⟨Tryz.f118.name,by decide,Tryz.func118.trans (congrArg some (by kernel_rfl))⟩
 f28:=Tryz.func119.trans (congrArg some (by kernel_rfl))
 f29:=Tryz.func120.trans (congrArg some (by kernel_rfl))
 f46:=⟨Tryz.f125.name,by decide,Tryz.func125.trans (congrArg some (by kernel_rfl))⟩
 f47:=Tryz.func126.trans (congrArg some (by kernel_rfl))
 f48:=Tryz.func127.trans (congrArg some (by kernel_rfl))
 f49:=⟨Tryz.f128.name,by decide,Tryz.func128.trans (congrArg some (by kernel_rfl))⟩
 f50:=⟨Tryz.f129.name,by decide,Tryz.func129.trans (congrArg some (by kernel_rfl))⟩
 f57:=⟨Tryz.f132.name,by decide,Tryz.func132.trans (congrArg some (by kernel_rfl))⟩
 t0:=Tryz.underlying0
 a0:=Tryz.isAgg0
 z0:=Tryz.sizeOf0
 v0:=Tryz.zeroValue0
 t3:=Tryz.underlying3
 a3:=Tryz.isAgg3
 z3:=Tryz.sizeOf3
 v3:=Tryz.zeroValue3
 t4:=Tryz.underlying4
 a4:=Tryz.isAgg4
 z4:=Tryz.sizeOf4
 v4:=Tryz.zeroValue4
 t5:=Tryz.underlying5
 a5:=Tryz.isAgg5
 z5:=Tryz.sizeOf5
 v5:=Tryz.zeroValue5
 t9:=Tryz.underlying9
 a9:=Tryz.isAgg9
 z9:=Tryz.sizeOf9
 v9:=Tryz.zeroValue9
 t22:=Tryz.underlying61
 a22:=Tryz.isAgg61
 z22:=Tryz.sizeOf61
 v22:=Tryz.zeroValue61
 t25:=Tryz.underlying119
 a25:=Tryz.isAgg119
 z25:=Tryz.sizeOf119
 v25:=Tryz.zeroValue119
 t39:=Tryz.underlying109
 a39:=Tryz.isAgg109
 z39:=Tryz.sizeOf109
 v39:=Tryz.zeroValue109
 t45:=Tryz.underlying156
 a45:=Tryz.isAgg156
 z45:=Tryz.sizeOf156
 v45:=Tryz.zeroValue156
 t46:=Tryz.underlying157
 a46:=Tryz.isAgg157
 z46:=Tryz.sizeOf157
 v46:=Tryz.zeroValue157
 t50:=Tryz.underlying62
 a50:=Tryz.isAgg62
 z50:=Tryz.sizeOf62
 v50:=Tryz.zeroValue62
 t53:=Tryz.underlying163
 a53:=Tryz.isAgg163
 z53:=Tryz.sizeOf163
 v53:=Tryz.zeroValue163
 t55:=Tryz.underlying165
 a55:=Tryz.isAgg165
 z55:=Tryz.sizeOf165
 v55:=Tryz.zeroValue165
 t66:=Tryz.underlying170
 a66:=Tryz.isAgg170
 z66:=Tryz.sizeOf170
 v66:=Tryz.zeroValue170
 t70:=Tryz.underlying174
 a70:=Tryz.isAgg174
 z70:=Tryz.sizeOf174
 v70:=Tryz.zeroValue174
 t76:=Tryz.underlying178
 a76:=Tryz.isAgg178
 z76:=Tryz.sizeOf178
 v76:=Tryz.zeroValue178
 t77:=Tryz.underlying167
 a77:=Tryz.isAgg167
 z77:=Tryz.sizeOf167
 v77:=Tryz.zeroValue167 }
def Tryz.cmpInt_ren:Go.Shelf.Ren:=⟨fun | 5=>82 | 7=>100 | n=>n,fun | 22=>3 | 3=>3 | 4=>4 | n=>n,fun | n=>n⟩
theorem Tryz.cmpInt:Go.Proofs.SlLaysC2.n5 Tryz.prog Tryz.cmpInt_ren:={
 mixed:=by kernel_rfl
 f5:=⟨Tryz.f82.name,by decide,Tryz.func82.trans (congrArg some (by kernel_rfl))⟩
 f7:=⟨Tryz.f100.name,by decide,Tryz.func100.trans (congrArg some (by kernel_rfl))⟩
 t3:=Tryz.underlying3
 a3:=Tryz.isAgg3
 z3:=Tryz.sizeOf3
 v3:=Tryz.zeroValue3
 t4:=Tryz.underlying4
 a4:=Tryz.isAgg4
 z4:=Tryz.sizeOf4
 v4:=Tryz.zeroValue4
 t22:=Tryz.underlying3
 a22:=Tryz.isAgg3
 z22:=Tryz.sizeOf3
 v22:=Tryz.zeroValue3 }
def Tryz.contRg_ren:Go.Shelf.Ren:=⟨fun | 8=>174 | 6=>177 | n=>n,fun | 22=>61 | 23=>77 | 25=>208 | 4=>4 | 3=>3 | 0=>0 | n=>n,fun | n=>n⟩
theorem Tryz.contRg:Go.Proofs.SlLaysH0.n8 Tryz.prog Tryz.contRg_ren:={
 mixed:=by kernel_rfl
 f6:=⟨Tryz.f177.name,by decide,Tryz.func177.trans (congrArg some (by kernel_rfl))⟩
 f8:=⟨Tryz.f174.name,by decide,Tryz.func174.trans (congrArg some (by kernel_rfl))⟩
 t0:=Tryz.underlying0
 a0:=Tryz.isAgg0
 z0:=Tryz.sizeOf0
 v0:=Tryz.zeroValue0
 t3:=Tryz.underlying3
 a3:=Tryz.isAgg3
 z3:=Tryz.sizeOf3
 v3:=Tryz.zeroValue3
 t4:=Tryz.underlying4
 a4:=Tryz.isAgg4
 z4:=Tryz.sizeOf4
 v4:=Tryz.zeroValue4
 t22:=Tryz.underlying61
 a22:=Tryz.isAgg61
 z22:=Tryz.sizeOf61
 v22:=Tryz.zeroValue61
 t25:=Tryz.underlying208
 a25:=Tryz.isAgg208
 z25:=Tryz.sizeOf208
 v25:=Tryz.zeroValue208 }
end
end Go.Proofs.YtaekdgikgbdnnaaGreat
