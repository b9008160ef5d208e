/- Part of a proof about the core: of its walks and plain laws. -/
import Derived.Tactics
import Derived.Still
import Derived.Laws.World
import Derived.KernelRfl
import Derived.Scope
import Derived.ScopeJumps
import Derived.StillTail
import Derived.Deep.LoopGhost
import Derived.Deep.Quiet
set_option linter.all false
section
namespace Go.Kt
structure G where
 up:Int
 live:Bool
def aaf (l:List G) (g:Int):Bool:=decide (0<=g)&&(match l[g.toNat]? with | some x=>x.live | none=>false)
structure WF (l:List G):Prop where
 pos:0<l.length
 few:l.length<=64
 root:l[0]? =some ⟨-1,true⟩
 up:∀ (i:Nat) x,l[i]? =some x ->0<i ->0<=x.up/\x.up<i
 live:∀ (i:Nat) x y,l[i]? =some x ->0<i ->x.live=true ->l[x.up.toNat]? =some y ->y.live=true
theorem aa7 {l:List G} {g:Int} :aaf l g=true↔∃ n:Nat,g=n/\∃ x,l[n]? =some x/\x.live=true:=by
 unfold aaf
 rw [Bool.and_eq_true,decide_eq_true_eq]
 constructor
 ·rintro ⟨h0,h⟩
  refine ⟨g.toNat,by omega,?_⟩
  split at h
  ·next x hx=>exact ⟨x,hx,h⟩
  ·cases h
 ·rintro ⟨n,rfl,x,hx,hl⟩
  refine ⟨by omega,?_⟩
  rw [Int.toNat_natCast,hx];exact hl
theorem adP {l:List G} {g:Int} (h:aaf l g=true):0<=g/\g<l.length:=by
 obtain ⟨n,rfl,x,hx,_⟩:=aa7.1 h
 have:=(List.getElem?_eq_some_iff.1 hx).1
 omega
def chain (l:List G) (g:Nat):List Nat:=
 if h:0<g/\0<=((l[g]?).map G.up).getD (-1)/\((l[g]?).map G.up).getD (-1)<g then g::chain l (((l[g]?).map G.up).getD (-1)).toNat else [g]
termination_by g
decreasing_by omega
theorem aje (l:List G):chain l 0= [0]:=by rw [chain,dif_neg (by omega)]
theorem ahY {l:List G} {g:Nat} {x:G} (h:WF l) (hx:l[g]? =some x) (h0:0<g):chain l g=g::chain l x.up.toNat:=by
 have:=h.up g x hx h0
 rw [chain]
 rw [hx]
 simp only [Option.map_some,Option.getD_some]
 rw [dif_pos ⟨h0,this.1,this.2⟩]
theorem awu (l:List G) (g:Nat):∃ r,chain l g=g::r:=by
 rw [chain];split<;>exact ⟨_,rfl⟩
theorem au0 {l:List G} (h:WF l):∀ (g:Nat),g<l.length ->(∀ x∈chain l g,x<=g)/\(chain l g).length<=g+1:=by
 intro g
 induction g using Nat.strongRecOn with
 | _ g ih=>
  intro hg
  rcases Nat.eq_zero_or_pos g with h0 | h0
  ·subst h0;rw [aje];simp
  ·obtain ⟨x,hx⟩:∃ x,l[g]? =some x:=⟨_,List.getElem?_eq_getElem hg⟩
   have hu:=h.up g x hx h0
   rw [ahY h hx h0]
   have:=ih x.up.toNat (by omega) (by omega)
   refine ⟨fun y hy=> ?_,by rw [List.length_cons];omega⟩
   rcases List.mem_cons.1 hy with rfl | hy
   ·omega
   ·have:=this.1 y hy;omega
theorem aCE {l:List G} (h:WF l):∀ (g:Nat),g<l.length ->(chain l g).Nodup:=by
 intro g
 induction g using Nat.strongRecOn with
 | _ g ih=>
  intro hg
  rcases Nat.eq_zero_or_pos g with h0 | h0
  ·subst h0;rw [aje];simp
  ·obtain ⟨x,hx⟩:∃ x,l[g]? =some x:=⟨_,List.getElem?_eq_getElem hg⟩
   have hu:=h.up g x hx h0
   rw [ahY h hx h0,List.nodup_cons]
   refine ⟨fun hm=> ?_,ih _ (by omega) (by omega)⟩
   have:=(au0 h x.up.toNat (by omega)).1 g hm
   omega
theorem aEf {l:List G} (h:WF l):∀ (g:Nat),g<l.length ->0∈chain l g:=by
 intro g
 induction g using Nat.strongRecOn with
 | _ g ih=>
  intro hg
  rcases Nat.eq_zero_or_pos g with h0 | h0
  ·subst h0;rw [aje];simp
  ·obtain ⟨x,hx⟩:∃ x,l[g]? =some x:=⟨_,List.getElem?_eq_getElem hg⟩
   have hu:=h.up g x hx h0
   rw [ahY h hx h0]
   exact List.mem_cons_of_mem _ (ih _ (by omega) (by omega))
def aac (l:List G) (g:Int):List Int:=if aaf l g=true then (chain l g.toNat).map Int.ofNat else []
def aFp (l:List G) (g:Int):Int:=((aac l g).length:Int) - 1
def ab9 (l:List G) (g:Int):Int:=if aaf l g=true then ((l[g.toNat]?).map G.up).getD (-1) else -1
def ahP (l:List G) (is:Nat ->Bool):List Int:=((List.range l.length).filter fun i:Nat=>aaf l (i:Int)&&is i).map Int.ofNat
def abe (l:List G) (g:Int):List Int:=if aaf l g=true then ahP l (fun i=>(aac l i).contains g) else []
def acR (l:List G) (g:Int):List Int:=if aaf l g=true then ahP l (fun i=>((l[i]?).map G.up).getD (-1)==g) else []
def addI (l:List G) (p:Int):List G×Int×Int:=
 if aaf l p=false then (l, -1,2) else if aFp l p≥7 then (l, -1,21) else if l.length≥64 then (l, -1,3) else (l++ [⟨p,true⟩],l.length,0)
def aby (l:List G) (g:Int):List G×Int:=
 if g=0 then (l,1) else if aaf l g=false then (l,2) else if acR l g≠ [] then (l,4) else (l.set g.toNat ⟨((l[g.toNat]?).map G.up).getD (-1),false⟩,0)
def new:List G:= [⟨-1,true⟩]
theorem aIe:WF new:=⟨by decide,by decide,rfl,fun i x hx h0=>by
 match i,hx with
 | 0,_=>omega
 | i+1,hx=>simp [new] at hx,fun i x y hx h0=>by
 match i,hx with
 | 0,_=>omega
 | i+1,hx=>simp [new] at hx⟩
theorem aHi {l:List G} (h:WF l) (p:Int):WF (addI l p).1:=by
 unfold addI
 split
 ·exact h
 split
 ·exact h
 split
 ·exact h
 next hl _ hn=>
  have hl:aaf l p=true:=by simpa using hl
  obtain ⟨n,rfl,x,hx,hxl⟩:=aa7.1 hl
  have hlt:=(List.getElem?_eq_some_iff.1 hx).1
  refine ⟨by simp,by simp;omega,?_,fun i y hy h0=> ?_,fun i y z hy h0 hyl hz=> ?_⟩
  ·rw [List.getElem?_append_left h.pos];exact h.root
  ·rcases Nat.lt_or_ge i l.length with hi | hi
   ·rw [List.getElem?_append_left hi] at hy;exact h.up i y hy h0
   ·rw [List.getElem?_append_right hi] at hy
    have:i - l.length=0:=by
     rcases Nat.eq_zero_or_pos (i - l.length) with h' | h'
     ·exact h'
     ·rw [List.getElem?_eq_none (by simp;omega)] at hy;cases hy
    rw [this] at hy
    have:=Option.some.inj hy
    subst this
    exact ⟨by show (0:Int)<=(n:Int);omega,by show (n:Int)<i;omega⟩
  ·rcases Nat.lt_or_ge i l.length with hi | hi
   ·rw [List.getElem?_append_left hi] at hy
    have hu:=h.up i y hy h0
    rw [List.getElem?_append_left (by omega)] at hz
    exact h.live i y z hy h0 hyl hz
   ·rw [List.getElem?_append_right hi] at hy
    have:i - l.length=0:=by
     rcases Nat.eq_zero_or_pos (i - l.length) with h' | h'
     ·exact h'
     ·rw [List.getElem?_eq_none (by simp;omega)] at hy;cases hy
    rw [this] at hy
    have:=Option.some.inj hy
    subst this
    have e:((n:Int)).toNat=n:=by omega
    simp only [e] at hz
    rw [List.getElem?_append_left hlt,hx] at hz
    rw [<- Option.some.inj hz];exact hxl
theorem aEt {l:List G} (h:WF l) (g:Int):WF (aby l g).1:=by
 unfold aby
 split
 ·exact h
 split
 ·exact h
 split
 ·exact h
 next hg hl hk=>
  have hl:aaf l g=true:=by simpa using hl
  have hk:acR l g= []:=by simpa using hk
  obtain ⟨n,rfl,x,hx,hxl⟩:=aa7.1 hl
  have hlt:=(List.getElem?_eq_some_iff.1 hx).1
  rw [Int.toNat_natCast,hx]
  simp only [Option.map_some,Option.getD_some]
  have hn0:n≠0:=fun e=>hg (by rw [e];rfl)
  refine ⟨by rw [List.length_set];exact h.pos,by rw [List.length_set];exact h.few,?_,fun i y hy h0=> ?_,fun i y z hy h0 hyl hz=> ?_⟩
  ·rw [List.getElem?_set_ne hn0];exact h.root
  ·by_cases e:n=i
   ·subst e
    rw [List.getElem?_set_self hlt] at hy
    have:=Option.some.inj hy
    subst this
    exact h.up n x hx h0
   ·rw [List.getElem?_set_ne e] at hy;exact h.up i y hy h0
  ·by_cases e:n=i
   ·subst e
    rw [List.getElem?_set_self hlt] at hy
    have:=Option.some.inj hy
    subst this
    cases hyl
   ·rw [List.getElem?_set_ne e] at hy
    by_cases e2:n=y.up.toNat
    ·exfalso
     have hu:=h.up i y hy h0
     have hi:=(List.getElem?_eq_some_iff.1 hy).1
     have:(i:Int)∈acR l n:=by
      unfold acR ahP
      rw [if_pos hl]
      refine List.mem_map.2 ⟨i,List.mem_filter.2 ⟨List.mem_range.2 hi,?_⟩,rfl⟩
      rw [Bool.and_eq_true]
      refine ⟨aa7.2 ⟨i,rfl,y,hy,hyl⟩,?_⟩
      show (((l[i]?).map G.up).getD (-1)==(n:Int))=true
      rw [hy]
      simp only [Option.map_some,Option.getD_some,beq_iff_eq]
      omega
     rw [hk] at this;cases this
    ·rw [List.getElem?_set_ne e2] at hz
     exact h.live i y z hy h0 hyl hz
end Go.Kt
end
section
namespace Go.Vc
open Go
structure Sl where
 p:Option Addr
 n:Nat
 c:Nat
inductive C1 where
 | int (k:IntKind) | bool | str | ptr | slice | map | raw
def C1.ty:C1 ->Type
 | .int _=>Int | .bool=>Bool | .str=>ByteArray | .ptr=>Option Addr | .slice=>Sl | .map=>Option Nat | .raw=>Value
def C1.mk:(c:C1) ->c.ty ->Value
 | .int k,n=> .int k n
 | .bool,b=> .bool b
 | .str,s=> .string s
 | .ptr,p=> .pointer p
 | .slice,s=> .slice s.p s.n s.c
 | .map,r=> .map r
 | .raw,v=>v
def C1.un:(c:C1) ->Value ->Option c.ty
 | .int k,.int k' n=>match decide (k=k') with | true=>some n | false=>none
 | .bool,.bool b=>some b
 | .str,.string s=>some s
 | .ptr,.pointer p=>some p
 | .slice,.slice p n c=>some ⟨p,n,c⟩
 | .map,.map r=>some r
 | .raw,v=>some v
 | _,_=>none
theorem C1.un_some {c:C1} {v:Value} {x:c.ty} (h:c.un v=some x):v=c.mk x:=by
 cases c<;>cases v<;>simp only [C1.un,reduceCtorEq] at h
 case int.int k k' n=>
  split at h
  ·rename_i e;simp only [decide_eq_true_eq] at e;subst e;exact congrArg (Value.int k) (Option.some.inj h)
  ·cases h
 case bool.bool=>exact congrArg Value.bool (Option.some.inj h)
 case str.string=>exact congrArg Value.string (Option.some.inj h)
 case ptr.pointer=>exact congrArg Value.pointer (Option.some.inj h)
 case map.map=>exact congrArg Value.map (Option.some.inj h)
 case slice.slice p n c=>have h':(⟨p,n,c⟩:Sl)=x:=Option.some.inj h;subst h';rfl
 all_goals exact Option.some.inj h
inductive K1 where
 | one (c:C1) | agg (l:List C1) | arr (n:Nat) (k:IntKind)
inductive Kd where
 | k (x:K1) | tup (l:List K1)
def aya:List C1 ->Array Value ->(Array Value ->Prop) ->Prop
 | [],acc,f=>f acc
 | c::l,acc,f=>∃ x:c.ty,aya l (acc.push (c.mk x)) f
def K1.ex:K1 ->(Value ->Prop) ->Prop
 | .one c,f=>∃ x:c.ty,f (c.mk x)
 | .agg l,f=>aya l #[] (fun cs=>f (.agg cs))
 | .arr n k,f=>∃ xs:List Int,xs.length=n/\f (.agg (xs.map (Value.int k)).toArray)
def aAx:List K1 ->Array Value ->(Array Value ->Prop) ->Prop
 | [],acc,f=>f acc
 | k::l,acc,f=>k.ex fun v=>aAx l (acc.push v) f
def Kd.ex:Kd ->(Value ->Prop) ->Prop
 | .k x,f=>x.ex f
 | .tup l,f=>aAx l #[] (fun vs=>f (.tuple vs))
theorem aru:∀ (l:List C1) (acc:Array Value) (f:Array Value ->Prop),aya l acc f ->∃ vs,f vs
 | [],acc,_,h=>⟨acc,h⟩
 | _::l,_,f,⟨_,h⟩=>aru l _ f h
theorem K1.ex_some {k:K1} {f:Value ->Prop} (h:k.ex f):∃ v,f v:=by
 cases k with
 | one c=>obtain ⟨x,h⟩:=h;exact ⟨_,h⟩
 | agg l=>obtain ⟨v,h⟩:=aru l _ _ h;exact ⟨_,h⟩
 | arr n k=>obtain ⟨x,_,h⟩:=h;exact ⟨_,h⟩
theorem apg:∀ (l:List K1) (acc:Array Value) (f:Array Value ->Prop),aAx l acc f ->∃ vs,f vs
 | [],acc,_,h=>⟨acc,h⟩
 | _::l,_,f,h=>let ⟨_,h⟩:=K1.ex_some h;apg l _ f h
theorem Kd.ex_some {k:Kd} {f:Value ->Prop} (h:k.ex f):∃ v,f v:=by
 cases k with
 | k x=>exact K1.ex_some h
 | tup l=>obtain ⟨v,h⟩:=apg l _ _ h;exact ⟨_,h⟩
def aggQ (P:Program) (t:TypeId):Option Bool:=
 match P.underlying t with
 | some (.struct _)=>some true
 | some (.array _ _)=>some true
 | some _=>some false
 | none=>none
def szQ (P:Program) (t:TypeId):Option Nat:=
 match P.info? t with
 | some i=>some i.size
 | none=>none
def anr (P:Program) (t:TypeId):Option Value:=
 match P.info? t with
 | some i=>i.zero
 | none=>none
section
variable {P:Program} {w:World}
theorem apD {t:TypeId} {z:Value} (h:anr P t=some z):(zeroValue t).run P w= .ok z w:=by
 unfold anr at h
 split at h
 ·rename_i i hi;simp [zeroValue,typeInfo,hi,h]
 ·cases h
theorem aai {t:TypeId} {d:TypeDesc} (h:P.underlying t=some d):(underlying t).run P w= .ok d w:=by
 simp [underlying,h]
theorem ak6 {t:TypeId} {b:Bool} (h:aggQ P t=some b):(isAgg t).run P w= .ok b w:=by
 unfold aggQ at h
 cases hu:P.underlying t with
 | none=>simp [hu] at h
 | some d=>cases d<;>simp [hu] at h<;>subst h<;>simp [isAgg,aai hu]
theorem run_sizeOf {t:TypeId} {n:Nat} (h:szQ P t=some n):(sizeOf t).run P w= .ok n w:=by
 unfold szQ at h
 cases hu:P.info? t with
 | none=>simp [hu] at h
 | some i=>simp [hu] at h;subst h;simp [sizeOf,typeInfo,hu]
end
structure Grow (w w':World):Prop where
 os:w'.os=w.os
 tape:w'.tape=w.tape
 output:w'.output=w.output
 size:w.heap.size<=w'.heap.size
 heap:∀ b,b<w.heap.size ->w'.heap[b]? =w.heap[b]?
theorem Grow.refl (w:World):Grow w w:=⟨rfl,rfl,rfl,Nat.le_refl _,fun _ _=>rfl⟩
theorem Grow.trans {a b c:World} (h:Grow a b) (h':Grow b c):Grow a c:=
 ⟨h'.os.trans h.os,h'.tape.trans h.tape,h'.output.trans h.output,Nat.le_trans h.size h'.size,fun x hx=>(h'.heap x (Nat.lt_of_lt_of_le hx h.size)).trans (h.heap x hx)⟩
theorem Grow.drew (w:World):Grow w w.drew:=⟨rfl,rfl,rfl,Nat.le_refl _,fun _ _=>rfl⟩
theorem Grow.alloc (w:World) (o:Obj):Grow w (w.alloc o):=
 ⟨rfl,rfl,rfl,by show w.heap.size<=(w.heap.push o).size;simp,fun b hb=>by show (w.heap.push o)[b]? =w.heap[b]?;rw [Array.getElem?_push,if_neg (Nat.ne_of_lt hb)]⟩
theorem Grow.cell {w w':World} (h:Grow w w') {a:Addr} {v:Value} (hc:w.cell? a=some v):w'.cell? a=some v:=by
 unfold World.cell? at hc ⊢
 cases hb:w.heap[a.block]? with
 | none=>simp [hb] at hc
 | some o=>
  have hlt:a.block<w.heap.size:=by
   rcases Nat.lt_or_ge a.block w.heap.size with h | h
   ·exact h
   ·simp [Array.getElem?_eq_none h] at hb
  rw [h.heap _ hlt,hb]
  simpa [hb] using hc
def ayc:List C1 ->Addr ->Nat ->Array Value ->World ->(Array Value ->Prop) ->Prop
 | [],_,_,acc,_,f=>f acc
 | c::l,a,i,acc,w,f=>∃ x:c.ty,w.cell? (a.add i)=some (c.mk x)/\ayc l a (i+1) (acc.push (c.mk x)) w f
def aID (n:Nat) (k:IntKind) (a:Addr) (w:World) (f:Value ->Prop):Prop:=
 ∃ xs:List Int,xs.length=n/\(∀ i,i<n ->w.cell? (a.add i)=some (.int k (xs.getD i 0)))/\f (.agg (xs.map (Value.int k)).toArray)
def ldK (P:Program) (k:K1) (t:TypeId) (a:Addr) (w:World) (f:Value ->Prop):Prop:=
 match k with
 | .one c=>match aggQ P t with
  | some false=>∃ x:c.ty,w.cell? a=some (c.mk x)/\f (c.mk x)
  | _=>False
 | .agg l=>match aggQ P t,szQ P t with
  | some true,some n=>bif n==l.length then ayc l a 0 #[] w (fun cs=>f (.agg cs)) else False
  | _,_=>False
 | .arr n k=>match aggQ P t,szQ P t with
  | some true,some m=>bif m==n then aID n k a w f else False
  | _,_=>False
theorem aut {P:Program} :∀ (l:List C1) (a:Addr) (i:Nat) (acc:Array Value) (w:World) (f:Array Value ->Prop),ayc l a i acc w f ->
  ∃ vs,(∀ w',Grow w w' ->(loadCellsFrom a i l.length acc).run P w'= .ok vs w')/\f vs
 | [],_,_,acc,_,_,h=>⟨acc,fun _ _=>by simp [loadCellsFrom],h⟩
 | c::l,a,i,acc,w,f,⟨x,hx,h⟩=>by
  obtain ⟨vs,h1,h2⟩:=aut (P:=P) l a (i+1) _ w f h
  exact ⟨vs,fun w' g=>by simp [loadCellsFrom,g.cell hx,h1 w' g],h2⟩
theorem ayS {P:Program} {k:IntKind} {a:Addr} {w:World} (xs:List Int):∀ (m i:Nat) (acc:Array Value),i+m=xs.length ->
  (∀ j,j<xs.length ->w.cell? (a.add j)=some (.int k (xs.getD j 0))) ->
  (loadCellsFrom a i m acc).run P w= .ok (acc++((xs.drop i).map (Value.int k)).toArray) w
 | 0,i,acc,hi,_=>by
  have:xs.drop i= []:=by simp;omega
  simp [loadCellsFrom,this]
 | m+1,i,acc,hi,h=>by
  have hlt:i<xs.length:=by omega
  have ih:=ayS (P:=P) xs m (i+1) (acc.push (.int k (xs.getD i 0))) (by omega) h
  simp only [loadCellsFrom,Sem.run_bind,run_load,h i hlt,Result.andThen_ok,ih]
  congr 1
  rw [show (List.drop i xs).map (Value.int k)=Value.int k (xs.getD i 0)::(List.drop (i+1) xs).map (Value.int k) by
   have e:xs.getD i 0=xs[i]:=by simp [List.getD,hlt]
   rw [e,List.drop_eq_getElem_cons hlt,List.map_cons]]
  apply Array.ext'
  simp only [Array.toList_append,Array.toList_push,List.append_assoc,List.singleton_append]
theorem aDz {P:Program} {k:K1} {t:TypeId} {a:Addr} {w:World} {f:Value ->Prop} (h:ldK P k t a w f):
  ∃ v,(∀ w',Grow w w' ->(loadVar t a).run P w'= .ok v w')/\f v:=by
 unfold ldK at h
 cases k with
 | one c=>
  dsimp only at h
  split at h
  ·rename_i e
   obtain ⟨x,hx,hf⟩:=h
   exact ⟨_,fun w' g=>by simp [loadVar,ak6 e,g.cell hx],hf⟩
  ·exact h.elim
 | agg l=>
  dsimp only at h
  split at h
  ·rename_i n e1 e2
   cases hn:n==l.length with
   | false=>simp [hn] at h
   | true=>
    rw [hn,cond_true] at h
    simp at hn;subst hn
    obtain ⟨vs,h1,h2⟩:=aut (P:=P) l a 0 #[] w _ h
    exact ⟨_,fun w' g=>by simp [loadVar,ak6 e1,run_sizeOf e2,loadCells,h1 w' g],h2⟩
  ·exact h.elim
 | arr n k=>
  dsimp only at h
  split at h
  ·rename_i m e1 e2
   cases hn:m==n with
   | false=>simp [hn] at h
   | true=>
    rw [hn,cond_true] at h
    simp at hn;subst hn
    obtain ⟨xs,h1,h2,h3⟩:=h
    subst h1
    exact ⟨_,fun w' g=>by simp [loadVar,ak6 e1,run_sizeOf e2,loadCells,ayS (P:=P) xs xs.length 0 #[] (by omega) (fun j hj=>g.cell (h2 j hj))],h3⟩
  ·exact h.elim
def NN (p:Option Addr) (f:Addr ->Prop):Prop:=∃ a,p=some a/\f a
@[simp] theorem aIW (a:Addr) (f:Addr ->Prop):NN (some a) f↔f a:=by simp [NN]
@[simp] theorem aIV (f:Addr ->Prop):NN none f↔False:=by simp [NN]
def vNil (x:Value) (f:Value ->Prop):Prop:=
 match x with
 | .pointer p=>NN p fun a=>f (.pointer (some a))
 | .func (.func g) fi ca=>f (.func (.func g) fi ca)
 | _=>False
def fldQ (P:Program) (s:TypeId) (i:Nat):Option Nat:=
 match P.underlying s with
 | some (.struct fs)=>match fs[i]? with
  | some fd=>match szQ P fd.type with
   | some (_+1)=>some fd.offset
   | _=>none
  | none=>none
 | _=>none
def apI (P:Program) (s:TypeId) (x:Value) (i:Nat) (f:Value ->Prop):Prop:=
 match x with
 | .pointer (some a)=>match fldQ P s i with
  | some o=>f (.pointer (some (a.add o)))
  | none=>False
 | _=>False
def anp (P:Program) (k:K1) (t:TypeId) (x:Value) (w:World) (f:Value ->Prop):Prop:=
 match x with
 | .pointer (some a)=>ldK P k t a w f
 | _=>False
def aEE (c x y:Value) (f:Value ->Prop):Prop:=
 match c,x,y with
 | .bool b,.bool p,.bool q=>f (.bool (bif b then p else q))
 | .bool true,x,_=>f x
 | .bool false,_,y=>f y
 | _,_,_=>False
def andI (k:IntKind) (m n:Int):Int:=k.wrap (BitVec.ofInt k.bits m &&& BitVec.ofInt k.bits n).toNat
def orI (k:IntKind) (m n:Int):Int:=k.wrap (BitVec.ofInt k.bits m ||| BitVec.ofInt k.bits n).toNat
def xorI (k:IntKind) (m n:Int):Int:=k.wrap (BitVec.ofInt k.bits m ^^^ BitVec.ofInt k.bits n).toNat
def aDh (k:IntKind) (m n:Int):Int:=k.wrap (BitVec.ofInt k.bits m &&& ~~~ BitVec.ofInt k.bits n).toNat
def notI (k:IntKind) (n:Int):Int:=k.wrap (BitVec.ofInt k.bits (if k.signed then -1 else k.max) ^^^ BitVec.ofInt k.bits n).toNat
def vInt (op:BinOp) (k:IntKind) (m:Int) (k':IntKind) (n:Int) (f:Value ->Prop):Prop:=
 match op with
 | .shl=>0<=n/\f (.int k (k.wrap (m*2 ^ (min n.toNat k.bits))))
 | .shr=>0<=n/\f (.int k (m.fdiv (2 ^ (min n.toNat k.bits))))
 | op=>match decide (k=k') with
  | false=>False
  | true=>match op with
   | .add=>f (.int k (k.wrap (m+n)))
   | .sub=>f (.int k (k.wrap (m - n)))
   | .mul=>f (.int k (k.wrap (m*n)))
   | .quo=>n≠0/\f (.int k (k.wrap (m.tdiv n)))
   | .rem=>n≠0/\f (.int k (m.tmod n))
   | .and=>f (.int k (andI k m n))
   | .or=>f (.int k (orI k m n))
   | .xor=>f (.int k (xorI k m n))
   | .andNot=>f (.int k (aDh k m n))
   | .eql=>f (.bool (m==n))
   | .neq=>f (.bool (m !=n))
   | .lss=>f (.bool (m<n))
   | .leq=>f (.bool (m<=n))
   | .gtr=>f (.bool (m>n))
   | .geq=>f (.bool (m≥n))
   | _=>False
def vStr (op:BinOp) (s t:ByteArray) (f:Value ->Prop):Prop:=
 match op with
 | .add=>s.size+t.size<=9223372036854775807/\f (.string (s++t))
 | .eql=>f (.bool (s.toList==t.toList))
 | .neq=>f (.bool (!(s.toList==t.toList)))
 | .lss=>f (.bool (Op.bytesLess s.toList t.toList))
 | _=>False
def asX (P:Program) (t:TypeId):Bool:=match P.underlying t with | some .bool=>true | _=>false
def awZ (P:Program) (t:TypeId):Bool:=match P.underlying t with | some (.pointer _)=>true | _=>false
def amx (P:Program) (t:TypeId):Bool:=match P.underlying t with | some (.slice _)=>true | _=>false
def awY (P:Program) (t:TypeId):Bool:=match P.underlying t with | some (.map _ _)=>true | _=>false
def EqV (P:Program) (op:BinOp) (t:TypeId) (x y:Value) (b:Bool):Prop:=
 (∀ ox oy w,(eqGuard op t ox oy x y).run P w= .ok () w)/\∀ w,(binOp op t x y).run P w= .ok (.bool b) w
def axC (P:Program) (op:BinOp) (t:TypeId) (x y:Value) (f:Value ->Prop):Prop:=
 match op with
 | .eql=>∃ b:Bool,EqV P .eql t x y b/\f (.bool b)
 | .neq=>∃ b:Bool,EqV P .neq t x y b/\f (.bool b)
 | _=>False
def aIP (P:Program) (op:BinOp) (t:TypeId) (x y:Value) (f:Value ->Prop):Prop:=
 match x,y with
 | .int k m,.int k' n=>vInt op k m k' n f
 | .string s,.string u=>vStr op s u f
 | .bool p,.bool q=>match asX P t,op with
  | true,.eql=>f (.bool (p==q))
  | true,.neq=>f (.bool (!(p==q)))
  | _,_=>False
 | .pointer p,.pointer none=>match awZ P t,op with
  | true,.eql=>f (.bool p.isNone)
  | true,.neq=>f (.bool (!p.isNone))
  | _,_=>False
 | .slice p _ _,.slice none _ _=>match amx P t,op with
  | true,.eql=>f (.bool p.isNone)
  | true,.neq=>f (.bool (!p.isNone))
  | _,_=>False
 | .map r,.map none=>match awY P t,op with
  | true,.eql=>f (.bool r.isNone)
  | true,.neq=>f (.bool (!r.isNone))
  | _,_=>False
 | x,y=>axC P op t x y f
def vBin (P:Program) (op:BinOp) (t:TypeId) (x y:Value) (f:Value ->Prop):Prop:=
 match y with
 | .nilFunc=>axC P op t x .nilFunc f
 | y=>aIP P op t x y f
def vUn (op:UnOp) (x:Value) (f:Value ->Prop):Prop:=
 match op,x with
 | .not,.bool b=>f (.bool !b)
 | .neg,.int k n=>f (.int k (k.wrap (0 - n)))
 | .xor,.int k n=>f (.int k (notI k n))
 | _,_=>False
def aIY (P:Program) (d:TypeId) (x:Value) (f:Value ->Prop):Prop:=
 match P.underlying d,x with
 | some (.int k),.int _ n=>f (.int k (k.wrap n))
 | some .string,.string s=>f (.string s)
 | _,_=>False
def akM (P:Program) (t:TypeId):Bool:=match P.underlying t with | some .string=>true | _=>false
def aIO (s:ByteArray) (i:Int) (f:Int ->Prop):Prop:=0<=i/\∃ b:UInt8,s[i.toNat]? =some b/\f (b.toNat:Int)
def aCo (P:Program) (t:TypeId) (x i:Value) (f:Value ->Prop):Prop:=
 match x,i with
 | .string s,.int _ i=>match akM P t with
  | true=>aIO s i fun b=>f (.int .u8 b)
  | false=>False
 | _,_=>False
def arrQ (P:Program) (t:TypeId):Option (Nat×Nat):=
 match P.underlying t with
 | some (.array n e)=>match szQ P e with
  | some m=>some (n,m)
  | none=>none
 | _=>none
def sliQ (P:Program) (t:TypeId):Option Nat:=
 match P.underlying t with
 | some (.slice e)=>szQ P e
 | _=>none
def elAt (p:Option Addr) (n:Nat) (i:Int) (m:Nat) (f:Addr ->Prop):Prop:=∃ a,p=some a/\(0<=i/\i<n)/\f (a.add (i.toNat*m))
def apJ (P:Program) (t:TypeId) (x i:Value) (f:Value ->Prop):Prop:=
 match x,i with
 | .slice p n _,.int _ i=>match sliQ P t with
  | some m=>elAt p n i m fun a=>f (.pointer (some a))
  | none=>False
 | .pointer p,.int _ i=>match arrQ P t with
  | some (n,m)=>elAt p n i m fun a=>f (.pointer (some a))
  | none=>False
 | _,_=>False
def aEs (P:Program) (t:TypeId) (cs:Array Value) (off:Nat):Option Value:=
 match aggQ P t,szQ P t with
 | some true,some n=>some (.agg (cs.extract off (off+n)))
 | some false,_=>cs[off]?
 | _,_=>none
def aCn (P:Program) (t:TypeId) (x:Value) (i:Nat) (f:Value ->Prop):Prop:=
 match P.underlying t,x with
 | some (.struct fs),.agg cs=>match fs[i]? with
  | some fd=>match aEs P fd.type cs fd.offset with
   | some v=>f v
   | none=>False
  | none=>False
 | _,_=>False
def av2 (x:Value) (i:Nat) (f:Value ->Prop):Prop:=
 match x with
 | .tuple vs=>match vs[i]? with
  | some v=>f v
  | none=>False
 | _=>False
def slB (n m:Nat) (lo hi mx:Option Value) (f:Nat ->Nat ->Nat ->Prop):Prop:=
 let low (h c:Nat):Prop:=match lo with
  | none=>f 0 h c
  | some (.int _ l)=>(0<=l/\l<=h)/\f l.toNat h c
  | _=>False
 match hi,mx with
 | none,none=>low n m
 | some (.int _ h),none=>(0<=h/\h<=m)/\low h.toNat m
 | some (.int _ h),some (.int _ c)=>(0<=c/\c<=m)/\(0<=h/\h<=c.toNat)/\low h.toNat c.toNat
 | _,_=>False
def slA (a:Option Addr) (l c m:Nat):Option Addr:=if c=l then a else a.map (·.add (l*m))
def slA1 (a:Addr) (l c m:Nat):Option Addr:=some (if c=l then a else a.add (l*m))
def aCq (P:Program) (t:TypeId) (x:Value) (lo hi mx:Option Value) (f:Value ->Prop):Prop:=
 match x with
 | .slice p n c=>match sliQ P t with
  | some m=>slB n c lo hi mx fun l h c=>f (.slice (slA p l c m) (h - l) (c - l))
  | none=>False
 | .string s=>match akM P t,mx with
  | true,none=>slB s.size s.size lo hi none fun l h _=>f (.string (s.extract l h))
  | _,_=>False
 | .pointer (some a)=>match arrQ P t with
  | some (n,m)=>slB n n lo hi mx fun l h c=>f (.slice (slA1 a l c m) (h - l) (c - l))
  | none=>False
 | _=>False
def min1 (x y:Int):Int:=if y<x then y else x
def max1 (x y:Int):Int:=if y>x then y else x
def ay6 (P:Program) (b:Builtin) (t:TypeId) (args:List Value) (f:Value ->Prop):Prop:=
 match b,args with
 | .len,[.slice _ n _]=>match amx P t with | true=>f (.int .i64 n) | false=>False
 | .len,[.string s]=>match akM P t with | true=>f (.int .i64 s.size) | false=>False
 | .len,[.pointer _]=>match P.underlying t with
  | some (.pointer e)=>match arrQ P e with | some (n,_)=>f (.int .i64 n) | none=>False
  | _=>False
 | .len,[.agg _]=>match arrQ P t with
  | some (n,_)=>f (.int .i64 n)
  | none=>False
 | .min,[.int k x,.int _ y]=>f (.int k (min1 x y))
 | .max,[.int k x,.int _ y]=>f (.int k (max1 x y))
 | _,_=>False
def av1 (P:Program) (b:Builtin) (ts:Array TypeId) (args:Array Value) (f:Value ->Prop):Prop:=
 match ts[0]? with
 | some t=>ay6 P b t args.toList f
 | none=>False
def aET (P:Program) (t:TypeId) (ps:Array (Nat×Value)):Option (Array Value):=
 match anr P t,P.underlying t with
 | some z,some (.struct fs)=>match fs.toList.mapM fun f=>(szQ P f.type).map fun n=>(f.offset,n) with
  | some l=>Instr.fill (fun i=>l[i]?) z.cells ps.toList
  | none=>none
 | some z,some (.array _ e)=>match szQ P e with
  | some m=>Instr.fill (fun i=>some (i*m,m)) z.cells ps.toList
  | none=>none
 | _,_=>none
def asH (P:Program) (t:TypeId) (ps:Array (Nat×Value)) (f:Value ->Prop):Prop:=
 match aET P t ps with
 | some cs=>f (.agg cs)
 | none=>False
def aBA (P:Program) (t:TypeId):Option Bool:=match P.underlying t with | some (.interface _)=>some true | some _=>some false | none=>none
def adn:Op ->Bool
 | .load .. | .lookup .. | .convert .. =>true
 | _=>false
def aca (P:Program) (t:TypeId) (m k:Value) (ok:Bool) (w:World) (v:Value):Prop:=∀ w',Grow w w' ->(Instr.lookup t m k ok).run P w'= .ok v w'
def CvV (P:Program) (s d:TypeId) (x:Value) (w:World) (v:Value):Prop:=∀ w',Grow w w' ->(convert s d x).run P w'= .ok v w'
def aCk (P:Program) (s d:TypeId) (x:Value) (w:World) (f:Value ->Prop):Prop:=
 match P.underlying d,x with
 | some (.int k),.int _ n=>f (.int k (k.wrap n))
 | some .string,.string t=>f (.string t)
 | some .string,.slice p n c=>∃ l:ByteArray,CvV P s d (.slice p n c) w (.string l)/\f (.string l)
 | _,_=>False
def vQ (P:Program) (τ:TypeId ->K1) (ρ:TypeId ->Kd) (o:Oper) (ev:Operand ->Value) (w:World) (f:Value ->Prop):Prop:=
 match o.op with
 | .move x=>f (ev x)
 | .assign x=>f (ev x)
 | .pick c x y=>aEE (ev c) (ev x) (ev y) f
 | .nilCheck x=>vNil (ev x) f
 | .fieldAddr s x i=>apI P s (ev x) i f
 | .load t x=>anp P (τ t) t (ev x) w f
 | .binOp op t x y _=>vBin P op t (ev x) (ev y) f
 | .unOp op _ x=>vUn op (ev x) f
 | .convert s d x=>aCk P s d (ev x) w f
 | .index t x i=>aCo P t (ev x) (ev i) f
 | .indexAddr t x i=>apJ P t (ev x) (ev i) f
 | .field t x i=>aCn P t (ev x) i f
 | .extract t i=>av2 (ev t) i f
 | .slice t x lo hi mx=>aCq P t (ev x) (lo.map ev) (hi.map ev) (mx.map ev) f
 | .build t ps=>asH P t (ps.map fun (i,x)=>(i,ev x)) f
 | .makeInterface t x=>match aBA P t with | some false=>f (.iface t (ev x)) | _=>False
 | .lookup t m k ok=>(ρ o.type).ex fun v=>aca P t (ev m) (ev k) ok w v/\f v
 | .makeFunc fn fi ca=>f (.func fn (fi.map ev) (ca.map ev))
 | .call {callee:= .builtin b,args,argTypes} =>av1 P b argTypes (args.map ev) f
 | _=>False
inductive Tr where
 | nil
 | node (v:Value) (l r:Tr)
noncomputable def Tr.get (T:Tr):Nat ->Value:=
 Tr.rec (fun _=>undef) (fun v _ _ gl gr n=>bif Nat.beq n 0 then v else bif Nat.beq (n % 2) 1 then gl (n / 2) else gr (n / 2 - 1)) T
noncomputable def Tr.putF (f:Nat):Tr ->Nat ->Value ->Tr:=
 Nat.rec (fun T _ _=>T) (fun _ ih T n x=>
  Tr.rec (bif Nat.beq n 0 then .node x .nil .nil else bif Nat.beq (n % 2) 1 then .node undef (ih .nil (n / 2) x) .nil else .node undef .nil (ih .nil (n / 2 - 1) x))
   (fun v l r _ _=>bif Nat.beq n 0 then .node x l r else bif Nat.beq (n % 2) 1 then .node v (ih l (n / 2) x) r else .node v l (ih r (n / 2 - 1) x)) T) f
noncomputable def Tr.put (T:Tr) (d:Option Nat) (v:Value):Tr:=match d with | some d=>Tr.putF 13 T d v | none=>T
theorem Tr.get_nil (n:Nat):Tr.get .nil n=undef:=rfl
theorem Tr.get_node (v:Value) (l r:Tr) (n:Nat):Tr.get (.node v l r) n=bif Nat.beq n 0 then v else bif Nat.beq (n % 2) 1 then l.get (n / 2) else r.get (n / 2 - 1):=rfl
theorem Tr.putF_node (f:Nat) (v:Value) (l r:Tr) (n:Nat) (x:Value):Tr.putF (f+1) (.node v l r) n x=
  bif Nat.beq n 0 then .node x l r else bif Nat.beq (n % 2) 1 then .node v (Tr.putF f l (n / 2) x) r else .node v l (Tr.putF f r (n / 2 - 1) x):=rfl
theorem adF (a b:Nat):Nat.beq a b=(a==b):=by rw [Bool.eq_iff_iff];simp
theorem Tr.get_putF:∀ (f:Nat) (T:Tr) (n m:Nat) (x:Value),n+1<2 ^ f ->(Tr.putF f T n x).get m=if m=n then x else T.get m
 | 0,_,_,_,_,h=>by simp at h
 | f+1,T,n,m,x,h=>by
  have e:Tr.putF (f+1) T n x=match T with
   | .nil=>Tr.putF (f+1) (.node undef .nil .nil) n x
   | T=>Tr.putF (f+1) T n x:=by cases T<;>rfl
  have hnil:∀ k,(Tr.nil).get k=(Tr.node undef .nil .nil).get k:=by
   intro k;rw [Tr.get_node,Tr.get_nil];cases Nat.beq k 0<;>cases Nat.beq (k % 2) 1<;>rfl
  have key:∀ (v:Value) (l r:Tr),(Tr.putF (f+1) (.node v l r) n x).get m=if m=n then x else (Tr.node v l r).get m:=by
   intro v l r
   rw [Tr.putF_node]
   have h2:2 ^ (f+1)=2 ^ f+2 ^ f:=by rw [Nat.pow_succ];omega
   by_cases hn:n=0
   ·subst hn
    simp only [adF,beq_self_eq_true,cond_true]
    rw [Tr.get_node,Tr.get_node]
    by_cases hm:m=0
    ·subst hm;simp [adF]
    ·have:(m==0)=false:=by simpa using hm
     simp only [adF,this,cond_false,if_neg hm]
   ·have hn':Nat.beq n 0=false:=by rw [adF];simpa using hn
    rw [hn',cond_false]
    by_cases hp:n % 2=1
    ·have hp':Nat.beq (n % 2) 1=true:=by rw [adF];simpa using hp
     rw [hp',cond_true,Tr.get_node,Tr.get_node,Tr.get_putF f l (n / 2) (m / 2) x (by omega)]
     by_cases hm:m=0
     ·subst hm;rw [if_neg (by omega:¬ 0=n)];rfl
     ·have hm':Nat.beq m 0=false:=by rw [adF];simpa using hm
      rw [hm',cond_false,cond_false]
      by_cases hq:m % 2=1
      ·have hq':Nat.beq (m % 2) 1=true:=by rw [adF];simpa using hq
       rw [hq',cond_true,cond_true]
       by_cases e:m=n
       ·subst e;simp
       ·rw [if_neg e,if_neg (by omega:¬ m / 2=n / 2)]
      ·have hq':Nat.beq (m % 2) 1=false:=by rw [adF];simpa using hq
       rw [hq',cond_false,cond_false,if_neg (fun e:m=n=>hq (by rw [e];exact hp))]
    ·have hp':Nat.beq (n % 2) 1=false:=by rw [adF];simpa using hp
     rw [hp',cond_false,Tr.get_node,Tr.get_node,Tr.get_putF f r (n / 2 - 1) (m / 2 - 1) x (by omega)]
     by_cases hm:m=0
     ·subst hm;rw [if_neg (by omega:¬ 0=n)];rfl
     ·have hm':Nat.beq m 0=false:=by rw [adF];simpa using hm
      rw [hm',cond_false,cond_false]
      by_cases hq:m % 2=1
      ·have hq':Nat.beq (m % 2) 1=true:=by rw [adF];simpa using hq
       rw [hq',cond_true,cond_true,if_neg (fun e:m=n=>hp (by rw [<- e];exact hq))]
      ·have hq':Nat.beq (m % 2) 1=false:=by rw [adF];simpa using hq
       rw [hq',cond_false,cond_false]
       by_cases e:m=n
       ·subst e;simp
       ·rw [if_neg e,if_neg (by omega:¬ m / 2 - 1=n / 2 - 1)]
  cases T with
  | nil=>rw [hnil m];exact key _ _ _
  | node v l r=>exact key v l r
theorem Tr.get_put (T:Tr) (d m:Nat) (v:Value) (h:d<8000):(T.put (some d) v).get m=if m=d then v else T.get m:=
 Tr.get_putF 13 T d m v (by omega)
noncomputable def Tr.ev (T:Tr):Operand ->Value
 | .tmp t=>T.get t
 | .const v=>v
 | .global g=> .pointer (some ⟨g,0,none⟩)
 | .func f=> .func (.func f) #[] #[]
end Go.Vc
end
section
namespace Go.Vc
open Go
section
variable {P:Program} {w:World}
theorem aF7 {c x y:Value} {f:Value ->Prop} (h:aEE c x y f):∃ v,(∀ w,(do pure (Next.value (if <- asBool c then x else y)):Sem Next).run P w= .ok (.value v) w)/\f v:=by
 unfold aEE at h
 split at h
 ·rename_i b p q;cases b<;>exact ⟨_,fun w=>by simp [asBool],h⟩
 ·exact ⟨_,fun w=>by simp [asBool],h⟩
 ·exact ⟨_,fun w=>by simp [asBool],h⟩
 ·exact h.elim
theorem aGX {op:BinOp} {t:TypeId} {k k':IntKind} {m n:Int} {f:Value ->Prop} (h:vInt op k m k' n f):
  ∃ v,(∀ w,(binOp op t (.int k m) (.int k' n)).run P w= .ok v w)/\f v:=by
 unfold vInt at h
 split at h
 ·obtain ⟨h0,h⟩:=h
  refine ⟨_,fun w=> ?_,h⟩
  simp [binOp,Op.shift,show ¬ n<0 by omega]
 ·obtain ⟨h0,h⟩:=h
  refine ⟨_,fun w=> ?_,h⟩
  simp [binOp,Op.shift,show ¬ n<0 by omega]
 ·split at h
  ·exact h.elim
  ·rename_i e
   simp only [decide_eq_true_eq] at e
   subst e
   split at h<;>first
    | exact h.elim
    | (obtain ⟨h0,h⟩:=h;exact ⟨_,fun w=>by simp [binOp,Op.intDiv,h0],h⟩)
    | exact ⟨_,fun w=>by simp [binOp,Op.intArith,Op.intBits,Op.intCmp,andI,orI,xorI,aDh],h⟩
theorem aG0 {op:BinOp} {t:TypeId} {s u:ByteArray} {f:Value ->Prop} (h:vStr op s u f):
  ∃ v,(∀ w,(binOp op t (.string s) (.string u)).run P w= .ok v w)/\f v:=by
 unfold vStr at h
 split at h
 ·obtain ⟨h0,h⟩:=h
  refine ⟨_,fun w=> ?_,h⟩
  have:¬ ((s.size+u.size:Nat):Int)>IntKind.i64.max:=by simp [IntKind.max,IntKind.bits,IntKind.signed];omega
  simp only [binOp,Op.stringOp,if_neg this,Sem.run_pure]
 ·exact ⟨_,fun w=>by simp [binOp,Op.stringOp],h⟩
 ·exact ⟨_,fun w=>by simp [binOp,Op.stringOp],h⟩
 ·exact ⟨_,fun w=>by simp [binOp,Op.stringOp],h⟩
 ·exact h.elim
def NoEq (a b:Value):Prop:=match a,b with | .nilIface,.nilIface=>False | .agg _,.agg _=>False | _,_=>True
theorem ag6 {op:BinOp} {t:TypeId} {x y:Operand} {a b:Value} (h:NoEq a b):
  (eqGuard op t x y a b).run P w= .ok () w:=by
 unfold eqGuard
 cases op<;>cases a<;>cases b<;>first | exact h.elim | simp
theorem arA {t:TypeId} (h:asX P t=true):P.underlying t=some .bool:=by
 unfold asX at h;split at h<;>simp_all
theorem anN {t:TypeId} (h:akM P t=true):P.underlying t=some .string:=by
 unfold akM at h;split at h<;>simp_all
theorem aus {t:TypeId} (h:awZ P t=true):∃ e,P.underlying t=some (.pointer e):=by
 unfold awZ at h;split at h<;>simp_all
theorem alA {t:TypeId} (h:amx P t=true):∃ e,P.underlying t=some (.slice e):=by
 unfold amx at h;split at h<;>simp_all
theorem aur {t:TypeId} (h:awY P t=true):∃ e e',P.underlying t=some (.map e e'):=by
 unfold awY at h;split at h<;>simp_all
theorem anf {t:TypeId} {x y:Value} {b:Bool} (h:(Op.equalIn 10000 t x y).run P w= .ok b w):(Op.equal t x y).run P w= .ok b w:=h
theorem run_equal_bool {t:TypeId} {p q:Bool} (h:P.underlying t=some .bool):(Op.equal t (.bool p) (.bool q)).run P w= .ok (p==q) w:=by
 apply anf;rw [Op.equalIn];simp [aai h]
theorem apN {t e:TypeId} {p:Option Addr} (h:P.underlying t=some (.pointer e)):(Op.equal t (.pointer p) (.pointer none)).run P w= .ok p.isNone w:=by
 apply anf;rw [Op.equalIn];cases p<;>simp [aai h]
theorem ang {t e:TypeId} {p:Option Addr} {n c n' c':Nat} (h:P.underlying t=some (.slice e)):(Op.equal t (.slice p n c) (.slice none n' c')).run P w= .ok p.isNone w:=by
 apply anf;rw [Op.equalIn];cases p<;>simp [aai h]
theorem apM {t e e':TypeId} {r:Option Nat} (h:P.underlying t=some (.map e e')):(Op.equal t (.map r) (.map none)).run P w= .ok r.isNone w:=by
 apply anf;rw [Op.equalIn];cases r<;>simp [aai h]
theorem al6 {op:BinOp} {t:TypeId} {x y:Value} {f:Value ->Prop} (h:axC P op t x y f):
  (∀ ox oy w,(eqGuard op t ox oy x y).run P w= .ok () w)/\∃ v,(∀ w,(binOp op t x y).run P w= .ok v w)/\f v:=by
 unfold axC at h
 split at h
 ·obtain ⟨b,⟨h1,h2⟩,h3⟩:=h;exact ⟨h1,_,h2,h3⟩
 ·obtain ⟨b,⟨h1,h2⟩,h3⟩:=h;exact ⟨h1,_,h2,h3⟩
 ·exact h.elim
theorem aGW {op:BinOp} {t:TypeId} {x y:Value} {f:Value ->Prop} (h:vBin P op t x y f):
  (∀ ox oy w,(eqGuard op t ox oy x y).run P w= .ok () w)/\∃ v,(∀ w,(binOp op t x y).run P w= .ok v w)/\f v:=by
 cases x<;>cases y<;>try (exact al6 h)
 case bool.bool p q=>
  refine ⟨fun _ _ _=>ag6 trivial,?_⟩
  replace h:(match (generalizing:=false) asX P t,op with | true,.eql=>f (.bool (p==q)) | true,.neq=>f (.bool (!(p==q))) | _,_=>False):=h
  split at h
  ·rename_i e;exact ⟨_,fun w=>by simp [binOp,run_equal_bool (arA e)],h⟩
  ·rename_i e;exact ⟨_,fun w=>by simp [binOp,run_equal_bool (arA e)],h⟩
  ·exact h.elim
 case int.int k m k' n=>exact ⟨fun _ _ _=>ag6 trivial,aGX h⟩
 case string.string s u=>exact ⟨fun _ _ _=>ag6 trivial,aG0 h⟩
 case pointer.pointer p q=>
  cases q with
  | some q=>exact al6 h
  | none=>
   refine ⟨fun _ _ _=>ag6 trivial,?_⟩
   replace h:(match (generalizing:=false) awZ P t,op with | true,.eql=>f (.bool p.isNone) | true,.neq=>f (.bool (!p.isNone)) | _,_=>False):=h
   split at h
   ·rename_i e;obtain ⟨_,e⟩:=aus e;exact ⟨_,fun w=>by simp [binOp,apN e],h⟩
   ·rename_i e;obtain ⟨_,e⟩:=aus e;exact ⟨_,fun w=>by simp [binOp,apN e],h⟩
   ·exact h.elim
 case slice.slice p n c q n' c'=>
  cases q with
  | some q=>exact al6 h
  | none=>
   refine ⟨fun _ _ _=>ag6 trivial,?_⟩
   replace h:(match (generalizing:=false) amx P t,op with | true,.eql=>f (.bool p.isNone) | true,.neq=>f (.bool (!p.isNone)) | _,_=>False):=h
   split at h
   ·rename_i e;obtain ⟨_,e⟩:=alA e;exact ⟨_,fun w=>by simp [binOp,ang e],h⟩
   ·rename_i e;obtain ⟨_,e⟩:=alA e;exact ⟨_,fun w=>by simp [binOp,ang e],h⟩
   ·exact h.elim
 case map.map r q=>
  cases q with
  | some q=>exact al6 h
  | none=>
   refine ⟨fun _ _ _=>ag6 trivial,?_⟩
   replace h:(match (generalizing:=false) awY P t,op with | true,.eql=>f (.bool r.isNone) | true,.neq=>f (.bool (!r.isNone)) | _,_=>False):=h
   split at h
   ·rename_i e;obtain ⟨_,_,e⟩:=aur e;exact ⟨_,fun w=>by simp [binOp,apM e],h⟩
   ·rename_i e;obtain ⟨_,_,e⟩:=aur e;exact ⟨_,fun w=>by simp [binOp,apM e],h⟩
   ·exact h.elim
theorem aHQ {op:UnOp} {x:Value} {f:Value ->Prop} (h:vUn op x f):∃ v,(∀ w,(Op.unary op x).run P w= .ok v w)/\f v:=by
 unfold vUn at h
 split at h
 ·exact ⟨_,fun w=>by simp [Op.unary],h⟩
 ·exact ⟨_,fun w=>by simp [Op.unary,Op.intArith],h⟩
 ·exact ⟨_,fun w=>by simp [Op.unary,Op.intBits,notI],h⟩
 ·exact h.elim
theorem aGY {o:Oper} {ev:Operand ->Value} {x:Operand} {f:Value ->Prop} (ho:o.op= .nilCheck x) (h:vNil (ev x) f):
  ∃ v,(∀ w,(execOp ev o).run P w= .ok (.value v) w)/\f v:=by
 unfold vNil at h
 split at h
 ·rename_i p e
  obtain ⟨q,rfl,h⟩:=h
  exact ⟨_,fun w=>by simp [execOp,ho,e],h⟩
 ·rename_i g fi ca e
  exact ⟨_,fun w=>by simp [execOp,ho,e],h⟩
 ·exact h.elim
theorem aFs {s:TypeId} {i o:Nat} (h:fldQ P s i=some o):∃ fs fd n,P.underlying s=some (.struct fs)/\fs[i]? =some fd/\szQ P fd.type=some (n+1)/\fd.offset=o:=by
 unfold fldQ at h
 split at h
 ·rename_i fs e1
  split at h
  ·rename_i fd e2
   split at h
   ·rename_i n e3
    exact ⟨fs,fd,n,e1,e2,e3,Option.some.inj h⟩
   ·cases h
  ·cases h
 ·cases h
theorem ayw {s:TypeId} {x:Value} {i:Nat} {f:Value ->Prop} (h:apI P s x i f):∃ v,(∀ w,(Instr.fieldAt s x i).run P w= .ok v w)/\f v:=by
 unfold apI at h
 split at h
 ·rename_i a
  split at h
  ·rename_i o e
   obtain ⟨fs,fd,n,e1,e2,e3,rfl⟩:=aFs e
   exact ⟨_,fun w=>by simp [Instr.fieldAt,aai e1,e2,Instr.sureAddr,fieldPlace,run_sizeOf e3],h⟩
  ·exact h.elim
 ·exact h.elim
theorem aF5 {k:K1} {t:TypeId} {x:Value} {f:Value ->Prop} (h:anp P k t x w f):∃ v,(∀ w',Grow w w' ->(Instr.loadAt t x).run P w'= .ok v w')/\f v:=by
 unfold anp at h
 split at h
 ·obtain ⟨v,h1,h2⟩:=aDz h
  exact ⟨v,fun w' g=>by simp [Instr.loadAt,Instr.sureAddr,h1 w' g],h2⟩
 ·exact h.elim
theorem aEA {s d:TypeId} {x:Value} {w:World} {f:Value ->Prop} (hs:(P.underlying s).isSome=true) (h:aCk P s d x w f):∃ v,(∀ w',Grow w w' ->(convert s d x).run P w'= .ok v w')/\f v:=by
 obtain ⟨ds,hs⟩:=Option.isSome_iff_exists.1 hs
 unfold aCk at h
 split at h
 ·rename_i k k' n e
  exact ⟨_,fun w _=>by simp [convert,aai hs,aai e,Conv.intToInt],h⟩
 ·rename_i s e
  exact ⟨_,fun w _=>by simp [convert,aai hs,aai e],h⟩
 ·obtain ⟨l,h1,h2⟩:=h
  exact ⟨_,h1,h2⟩
 ·exact h.elim
theorem aEC {t:TypeId} {x i:Value} {f:Value ->Prop} (h:aCo P t x i f):∃ v,(∀ w,(Instr.index t x i).run P w= .ok v w)/\f v:=by
 unfold aCo at h
 split at h
 ·rename_i s k i
  split at h
  ·rename_i e
   obtain ⟨h0,b,hb,h⟩:=h
   exact ⟨_,fun w=>by simp [Instr.index,asIntOf,aai (anN e),h0,hb],h⟩
  ·exact h.elim
 ·exact h.elim
theorem ay3 {t:TypeId} {m:Nat} (h:sliQ P t=some m):∃ e,P.underlying t=some (.slice e)/\szQ P e=some m:=by
 unfold sliQ at h
 split at h
 ·rename_i e he;exact ⟨e,he,h⟩
 ·cases h
theorem am0 {t:TypeId} {n m:Nat} (h:arrQ P t=some (n,m)):∃ e,P.underlying t=some (.array n e)/\szQ P e=some m:=by
 unfold arrQ at h
 split at h
 ·rename_i n' e he
  split at h
  ·rename_i m' hm
   injection h with h;injection h with h1 h2;subst h1;subst h2
   exact ⟨e,he,hm⟩
  ·cases h
 ·cases h
theorem ayx {t:TypeId} {x i:Value} {f:Value ->Prop} (h:apJ P t x i f):∃ v,(∀ w,(Instr.indexAt t x i).run P w= .ok v w)/\f v:=by
 unfold apJ at h
 split at h
 ·rename_i p n c k i
  split at h
  ·rename_i m e
   obtain ⟨e,e1,e2⟩:=ay3 e
   obtain ⟨a,rfl,hb,h⟩:=h
   exact ⟨_,fun w=>by simp [Instr.indexAt,asIntOf,aai e1,hb,run_sizeOf e2],h⟩
  ·exact h.elim
 ·rename_i p k i
  split at h
  ·rename_i n m e
   obtain ⟨e,e1,e2⟩:=am0 e
   obtain ⟨a,rfl,hb,h⟩:=h
   exact ⟨_,fun w=>by simp [Instr.indexAt,asIntOf,aai e1,hb,run_sizeOf e2,Instr.sureAddr],h⟩
  ·exact h.elim
 ·exact h.elim
theorem aFF {t:TypeId} {cs:Array Value} {off:Nat} {v:Value} (h:aEs P t cs off=some v):(part t cs off).run P w= .ok v w:=by
 unfold aEs at h
 split at h
 ·rename_i n e1 e2
  injection h with h;subst h
  simp [part,ak6 e1,run_sizeOf e2]
 ·rename_i e1
  simp [part,ak6 e1,h]
 ·cases h
theorem aEB {t:TypeId} {x:Value} {i:Nat} {f:Value ->Prop} (h:aCn P t x i f):∃ v,(∀ w,(Instr.field t x i).run P w= .ok v w)/\f v:=by
 unfold aCn at h
 split at h
 ·rename_i fs cs e
  split at h
  ·rename_i fd e2
   split at h
   ·rename_i v e3
    exact ⟨v,fun w=>by simp [Instr.field,aai e,e2,asAgg,aFF e3],h⟩
   ·exact h.elim
  ·exact h.elim
 ·exact h.elim
theorem aCm {x:Value} {i:Nat} {f:Value ->Prop} (h:av2 x i f):∃ v,(∀ w,(Instr.extract x i).run P w= .ok v w)/\f v:=by
 unfold av2 at h
 split at h
 ·split at h
  ·rename_i v e;exact ⟨v,fun w=>by simp [Instr.extract,e],h⟩
  ·exact h.elim
 ·exact h.elim
theorem ayu {s:Bool} {n m:Nat} {lo hi mx:Option Value} {f:Nat ->Nat ->Nat ->Prop} (h:slB n m lo hi mx f):
  ∃ l k c,(∀ w,(Instr.sliceBounds s n m lo hi mx).run P w= .ok (l,k,c) w)/\f l k c:=by
 have bound:∀ (w:World) (k:IntKind) (i:Int) (y:Nat) (code:BoundsCode),0<=i/\i<=y ->(Instr.sliceBound (.int k i) y code).run P w= .ok i.toNat w:=by
  intro w k i y code hb
  simp [Instr.sliceBound,asIntOf,hb]
 unfold slB at h
 dsimp only at h
 split at h
 ·split at h
  ·exact ⟨_,_,_,fun w=>by simp [Instr.sliceBounds],h⟩
  ·obtain ⟨hb,h⟩:=h
   exact ⟨_,_,_,fun w=>by simp [Instr.sliceBounds,bound _ _ _ _ _ hb],h⟩
  ·exact h.elim
 ·obtain ⟨hb,h⟩:=h
  split at h
  ·exact ⟨_,_,_,fun w=>by simp [Instr.sliceBounds,bound _ _ _ _ _ hb],h⟩
  ·obtain ⟨hb2,h⟩:=h
   exact ⟨_,_,_,fun w=>by simp [Instr.sliceBounds,bound _ _ _ _ _ hb,bound _ _ _ _ _ hb2],h⟩
  ·exact h.elim
 ·obtain ⟨hb,hb1,h⟩:=h
  split at h
  ·exact ⟨_,_,_,fun w=>by simp [Instr.sliceBounds,bound _ _ _ _ _ hb,bound _ _ _ _ _ hb1],h⟩
  ·obtain ⟨hb2,h⟩:=h
   exact ⟨_,_,_,fun w=>by simp [Instr.sliceBounds,bound _ _ _ _ _ hb,bound _ _ _ _ _ hb1,bound _ _ _ _ _ hb2],h⟩
  ·exact h.elim
 ·exact h.elim
theorem aEG {t:TypeId} {x:Value} {lo hi mx:Option Value} {f:Value ->Prop} (h:aCq P t x lo hi mx f):
  ∃ v,(∀ w,(Instr.sliceAt t x lo hi mx).run P w= .ok v w)/\f v:=by
 unfold aCq at h
 split at h
 ·rename_i p n c
  split at h
  ·rename_i m e
   obtain ⟨e,e1,e2⟩:=ay3 e
   obtain ⟨l,k,c',hr,h⟩:=ayu (P:=P) (s:=true) h
   exact ⟨_,fun w=>by simp only [Instr.sliceAt,Instr.slice,Sem.run_bind,aai e1,Result.andThen_ok,hr,run_sizeOf e2,Sem.run_pure,slA],h⟩
  ·exact h.elim
 ·rename_i s
  split at h
  ·rename_i e
   obtain ⟨l,k,c',hr,h⟩:=ayu (P:=P) (s:=false) h
   exact ⟨_,fun w=>by simp only [Instr.sliceAt,Instr.slice,Sem.run_bind,aai (anN e),Result.andThen_ok,hr,Sem.run_pure,Option.isSome_none,Bool.false_eq_true,if_false],h⟩
  ·exact h.elim
 ·rename_i a
  split at h
  ·rename_i n m e
   obtain ⟨e,e1,e2⟩:=am0 e
   obtain ⟨l,k,c',hr,h⟩:=ayu (P:=P) (s:=false) h
   exact ⟨_,fun w=>by simp only [Instr.sliceAt,Instr.sureAddr,Sem.run_bind,aai e1,Result.andThen_ok,hr,run_sizeOf e2,Sem.run_pure,slA1],h⟩
  ·exact h.elim
 ·exact h.elim
theorem aCj {b:Builtin} {ts:Array TypeId} {t:TypeId} {args:Array Value} {f:Value ->Prop} (h:av1 P b ts args f):
  ∃ v,(∀ cs w,(builtin b ts t cs args).run P w= .ok (.value v) w)/\f v:=by
 unfold av1 at h
 split at h
 ·rename_i t0 ht
  obtain ⟨args⟩:=args
  unfold ay6 at h
  split at h
  ·split at h
   ·rename_i e;obtain ⟨_,e⟩:=alA e;exact ⟨_,by intro cs w;simp_all [builtin,Builtin.len_,aai e,goInt],h⟩
   ·exact h.elim
  ·split at h
   ·rename_i e;exact ⟨_,by intro cs w;simp_all [builtin,Builtin.len_,aai (anN e),goInt],h⟩
   ·exact h.elim
  ·split at h
   ·rename_i e1 e
    split at h
    ·rename_i n m e2;obtain ⟨_,e2,_⟩:=am0 e2;exact ⟨_,by intro cs w;simp_all [builtin,Builtin.len_,aai e,aai e2,goInt],h⟩
    ·exact h.elim
   ·exact h.elim
  ·split at h
   ·rename_i e;obtain ⟨_,e,_⟩:=am0 e;exact ⟨_,by intro cs w;simp_all [builtin,Builtin.len_,aai e,goInt],h⟩
   ·exact h.elim
  ·exact ⟨_,by intro cs w;simp_all [builtin,Builtin.min_,Builtin.min2,min1],h⟩
  ·exact ⟨_,by intro cs w;simp_all [builtin,Builtin.max_,Builtin.max2,max1],h⟩
  ·exact h.elim
 ·exact h.elim
theorem aw2:∀ (l:List Field) (r:List (Nat×Nat)),(l.mapM fun f=>(szQ P f.type).map fun n=>(f.offset,n))=some r ->
  (l.mapM fun f=>(do pure (f.offset,<- sizeOf f.type):Sem (Nat×Nat))).run P w= .ok r w
 | [],r,h=>by simp at h;subst h;simp
 | f::l,r,h=>by
  rw [List.mapM_cons] at h
  cases hs:szQ P f.type with
  | none=>simp [hs] at h
  | some n=>
   cases hl:l.mapM fun f=>(szQ P f.type).map fun n=>(f.offset,n) with
   | none=>simp [hs,hl] at h
   | some r'=>
    simp [hs,hl] at h
    subst h
    have ih:=aw2 l r' hl
    simp only [Sem.run_bind,Sem.run_pure,List.mapM_cons] at ih ⊢
    simp only [run_sizeOf hs,Result.andThen_ok,ih]
theorem aEx {t:TypeId} {ps:Array (Nat×Value)} {f:Value ->Prop} (h:asH P t ps f):∃ v,(∀ w,(Instr.build t ps).run P w= .ok v w)/\f v:=by
 unfold asH at h
 split at h
 ·rename_i cs e
  refine ⟨_,fun w=> ?_,h⟩
  unfold aET at e
  split at e
  ·rename_i z fs hz hu
   split at e
   ·rename_i l hl
    have hm:=aw2 (w:=w) _ _ hl
    simp only [Instr.build,Sem.run_bind,apD hz,Result.andThen_ok,aai hu,Array.mapM_eq_mapM_toList,Sem.run_map,hm]
    simp [e]
   ·cases e
  ·rename_i z n el hz hu
   split at e
   ·rename_i m hm
    simp [Instr.build,apD hz,aai hu,run_sizeOf hm,e]
   ·cases e
  ·cases e
 ·exact h.elim
theorem asK {τ:TypeId ->K1} {ρ:TypeId ->Kd} {o:Oper} {ev:Operand ->Value} {f:Value ->Prop} (hconv:∀ s d x,o.op= .convert s d x ->(P.underlying s).isSome=true) (h:vQ P τ ρ o ev w f):
  ∃ v,(∀ w',(adn o.op=true ->Grow w w') ->(execOp ev o).run P w'= .ok (.value v) w')/\f v:=by
 unfold vQ at h
 split at h
 ·rename_i x ho;exact ⟨_,fun w' _=>by simp [execOp,ho],h⟩
 ·rename_i x ho;exact ⟨_,fun w' _=>by simp [execOp,ho],h⟩
 ·rename_i c x y ho;obtain ⟨v,h1,h2⟩:=aF7 (P:=P) h;exact ⟨v,fun w' _=>by simpa [execOp,ho] using h1 w',h2⟩
 ·rename_i x ho;obtain ⟨v,h1,h2⟩:=aGY (P:=P) ho h;exact ⟨v,fun w' _=>h1 w',h2⟩
 ·rename_i s x i ho;obtain ⟨v,h1,h2⟩:=ayw h;exact ⟨v,fun w' _=>by simp [execOp,ho,h1],h2⟩
 ·rename_i t x ho;obtain ⟨v,h1,h2⟩:=aF5 h;exact ⟨v,fun w' g=>by simp [execOp,ho,h1 w' (g (by rw [ho];rfl))],h2⟩
 ·rename_i op t x y t' ho;obtain ⟨h0,v,h1,h2⟩:=aGW h;exact ⟨v,fun w' _=>by simp [execOp,ho,h0,h1],h2⟩
 ·rename_i op t x ho;obtain ⟨v,h1,h2⟩:=aHQ (P:=P) h;exact ⟨v,fun w' _=>by simp [execOp,ho,h1],h2⟩
 ·rename_i s d x ho;obtain ⟨v,h1,h2⟩:=aEA (hconv s d x ho) h;exact ⟨v,fun w' g=>by simp [execOp,ho,h1 w' (g (by rw [ho];rfl))],h2⟩
 ·rename_i t x i ho;obtain ⟨v,h1,h2⟩:=aEC h;exact ⟨v,fun w' _=>by simp [execOp,ho,h1],h2⟩
 ·rename_i t x i ho;obtain ⟨v,h1,h2⟩:=ayx h;exact ⟨v,fun w' _=>by simp [execOp,ho,h1],h2⟩
 ·rename_i t x i ho;obtain ⟨v,h1,h2⟩:=aEB h;exact ⟨v,fun w' _=>by simp [execOp,ho,h1],h2⟩
 ·rename_i t i ho;obtain ⟨v,h1,h2⟩:=aCm (P:=P) h;exact ⟨v,fun w' _=>by simp [execOp,ho,h1],h2⟩
 ·rename_i t x lo hi mx ho;obtain ⟨v,h1,h2⟩:=aEG h;exact ⟨v,fun w' _=>by simp [execOp,ho,h1],h2⟩
 ·rename_i t ps ho;obtain ⟨v,h1,h2⟩:=aEx h;exact ⟨v,fun w' _=>by simp [execOp,ho,h1],h2⟩
 ·rename_i t x ho
  split at h
  ·rename_i e
   refine ⟨_,fun w' _=> ?_,h⟩
   unfold aBA at e
   split at e
   ·cases e
   ·rename_i d hn hu
    simp only [execOp,ho,Instr.makeInterface,Sem.run_bind,aai hu,Result.andThen_ok]
    cases d<;>first | rfl | exact (hn _ rfl).elim
   ·cases e
  ·exact h.elim
 ·rename_i t m k ok ho
  obtain ⟨v,h1,h2⟩:=Kd.ex_some h
  exact ⟨v,fun w' g=>by simp [execOp,ho,h1 w' (g (by rw [ho];rfl))],h2⟩
 ·rename_i fn fi ca ho;exact ⟨_,fun w' _=>by simp [execOp,ho,Instr.makeFunc],h⟩
 ·rename_i b args ts ho
  obtain ⟨v,h1,h2⟩:=aCj (t:=o.type) h
  exact ⟨v,fun w' _=>by simp [execOp,ho,resolve,invoke,h1],h2⟩
 ·exact h.elim
end
end Go.Vc
end
section
namespace Go.Vc
open Go
def okCell (w:World) (a:Addr):Prop:=(∃ v,w.cell? a=some v)/\w.frozen? a=false
def stN:List Value ->Addr ->Nat ->World ->(World ->Prop) ->Prop
 | [],_,_,w,f=>f w
 | v::l,a,i,w,f=>okCell w (a.add i)/\stN l a (i+1) (w.setCell (a.add i) v) f
def amc (w:World) (a:Addr) (i:Nat):List Value ->World
 | []=>w
 | v::l=>amc (w.setCell (a.add i) v) a (i+1) l
def axx (n:Nat) (k:IntKind) (v:Value) (a:Addr) (w:World) (f:World ->Prop):Prop:=
 ∃ ys:List Int,v= .agg (ys.map (Value.int k)).toArray/\ys.length=n/\(∀ i,i<n ->okCell w (a.add i))/\f (amc w a 0 (ys.map (Value.int k)))
def St (a:Addr) (v:Value) (f:World ->Prop) (w:World):Prop:=okCell w a/\f (w.setCell a v)
def StN (vs:List Value) (a:Addr) (f:World ->Prop) (w:World):Prop:=stN vs a 0 w f
def aoK (P:Program) (k:K1) (t:TypeId) (x v:Value) (w:World) (f:World ->Prop):Prop:=
 match x with
 | .pointer (some a)=>match k with
  | .one _=>match szQ P t with
   | some 1=>match v.oneCell' with
    | true=>St a v f w
    | false=>False
   | _=>False
  | .agg _=>match v with
   | .agg cs=>match szQ P t with
    | some n=>bif n==cs.size&&cs.toList.all (·.oneCell') then StN cs.toList a f w else False
    | none=>False
   | _=>False
  | .arr n k=>match szQ P t with
   | some m=>bif m==n then axx n k v a w f else False
   | none=>False
 | _=>False
def Al (o:Obj) (f:Addr ->World ->Prop) (w:World):Prop:=f ⟨w.heap.size,0,none⟩ (w.alloc o)
def AlM (f:Nat ->World ->Prop) (w:World):Prop:=f w.heap.size (w.alloc (.map #[] 0))
def auF (P:Program) (t:TypeId) (n:Nat) (ps:List (Nat×Value)):Option (TypeId×Array Value):=
 match P.underlying t with
 | some (.slice e)=>match szQ P e,anr P e with
  | some m,some z=>match decide (n*m<=2 ^ 24)&&decide (0<n*m),Instr.fill (fun i=>some (i*m,m)) (((List.replicate n z.cells.toList).flatten).toArray) ps with
   | true,some cs=>bif m==z.cells.size then some (e,cs) else none
   | _,_=>none
  | _,_=>none
 | _=>none
def auI (P:Program) (t:TypeId) (n:Nat) (ps:Array (Nat×Value)) (f:Value ->World ->Prop) (w:World):Prop:=
 match auF P t n ps.toList with
 | some (e,cs)=>Al (.cells cs e) (fun q=>f (.slice (some q) n n)) w
 | none=>False
def aIA (P:Program) (g:FuncId) (args:Array Value) (k:Kd) (w:World) (f:Value ->World ->Prop):Prop:=
 Calls P g args w fun e w'=>k.ex fun v=>e= .returned v/\f v w'
def aIB (P:Program) (g:FuncId) (args:Array Value) (k:Kd) (w:World) (f:Value ->World ->Prop) (p:List PanicEntry ->World ->Prop):Prop:=
 Calls P g args w fun e w'=>(k.ex fun v=>e= .returned v/\f v w')\/∃ ch,e= .panicked ch/\p ch w'
def aEy (P:Program) (pan:FuncId ->Bool) (g:Value) (args:Array Value) (k:Kd) (w:World) (f:Value ->World ->Prop) (p:List PanicEntry ->World ->Prop):Prop:=
 match g with
 | .func (.func g) fi ca=>match P.funcs[g]? with
  | some fn=>match fn.body.isSome&& !(fn.name== "runtime.NumGoroutine") with
   | true=>bif pan g then aIB P g (fi++args++ca) k w f p else aIA P g (fi++args++ca) k w f
   | false=>False
  | none=>False
 | _=>False
def aju (P:Program) (g:FuncId):Bool:=match P.funcs[g]? with
 | some fn=>fn.body.isSome&& !(fn.name== "runtime.NumGoroutine")
 | none=>false
def abo (P:Program) (g:Value) (args:Array Value) (w:World) (R:Ending ->World ->Prop):Prop:=
 ∃ (h:FuncId) (ca:Array Value),g= .func (.func h) #[] ca/\aju P h=true/\Calls P h (args++ca) w R
def aF3 (P:Program) (g:Value) (args:Array Value) (k:Kd) (w:World) (f:Value ->World ->Prop):Prop:=
 abo P g args w fun e w'=>k.ex fun v=>e= .returned v/\f v w'
def eff (P:Program) (s:Sem Value) (k:Kd) (w:World) (f:Value ->World ->Prop):Prop:=k.ex fun v=>∃ w',s.run P w= .ok v w'/\f v w'
def aIR (P:Program) (it:Value) (str:Bool) (t:TypeId) (w:World) (f:Value ->World ->Prop):Prop:=
 (∃ w',(Instr.next it str t).run P w= .ok (.tuple #[.bool false]) w'/\f (.tuple #[.bool false]) w')\/
 (match str with
  | true=>∃ k c:Int,∃ w',(Instr.next it true t).run P w= .ok (.tuple #[.bool true,.int .i64 k,.int .i32 c]) w'/\f (.tuple #[.bool true,.int .i64 k,.int .i32 c]) w'
  | false=>∃ k v:Value,∃ w',(Instr.next it false t).run P w= .ok (.tuple #[.bool true,k,v]) w'/\f (.tuple #[.bool true,k,v]) w')
def effU (P:Program) (s:Sem Unit) (w:World) (f:World ->Prop):Prop:=∃ w',s.run P w= .ok () w'/\f w'
structure Ann where
 quiet:Nat ->Bool:=fun _=>false
 dyn:Nat ->Bool:=fun _=>false
 ent:Nat ->List K1:=fun _=> [.one .raw,.one .raw]
 calm:Nat ->Bool:=fun _=>false
 sig:Nat ->Option (List Nat×List Nat):=fun _=>none
 fork:Nat ->Bool:=fun _=>false
 head:Nat ->Nat:=fun _=>0
 loop:Nat ->List (Nat×C1):=fun _=> []
 goto:Nat ->Option (List (Nat×C1)):=fun _=>none
 join:Nat ->Option (List (Nat×C1)):=fun _=>none
def dynB (A:Ann) (o:Oper):Bool:=match o.dst with | some d=>A.dyn d | none=>false
def isQ:Op ->Bool
 | .move _ | .assign _ | .pick .. | .nilCheck _ | .fieldAddr .. | .load .. | .unOp .. | .indexAddr .. | .field .. | .extract .. | .slice .. | .makeFunc .. | .build .. | .makeInterface .. | .lookup .. =>true
 | _=>false
def vE (P:Program) (τ:TypeId ->K1) (ρ:TypeId ->Kd) (pan:FuncId ->Bool) (A:Ann) (o:Oper) (ev:Operand ->Value) (w:World) (f:Value ->World ->Prop) (p:List PanicEntry ->World ->Prop):Prop:=
 match o.op with
 | .store t x v=>aoK P (τ t) t (ev x) (ev v) w (f undef)
 | .box t x=>Al (.cells (ev x).cells t) (fun q=>f (.pointer (some q))) w
 | .alloc t=>match anr P t with
  | some z=>Al (.cells z.cells t) (fun q=>f (.pointer (some q))) w
  | none=>False
 | .call {callee:= .value g,args,.. } =>bif dynB A o then aF3 P (ev g) (args.map ev) (ρ o.type) w f else aEy P pan (ev g) (args.map ev) (ρ o.type) w f p
 | .call {callee:= .builtin .append,args,argTypes} =>eff P (Builtin.append_ argTypes o.type (args.map ev)) (ρ o.type) w f
 | .call {callee:= .builtin .copy,args,argTypes} =>eff P (Builtin.copy_ argTypes o.type (args.map ev)) (ρ o.type) w f
 | .call {callee:= .builtin .delete,args,argTypes} =>eff P (Builtin.delete_ argTypes o.type (args.map ev)) (ρ o.type) w f
 | .call {callee:= .builtin .clear,args,argTypes} =>eff P (Builtin.clear_ argTypes o.type (args.map ev)) (ρ o.type) w f
 | .call {callee:= .builtin .len,args,argTypes} =>eff P (Builtin.len_ argTypes o.type (args.map ev)) (ρ o.type) w f
 | .call {callee:= .builtin .cap,args,argTypes} =>eff P (Builtin.cap_ argTypes o.type (args.map ev)) (ρ o.type) w f
 | .buildSlice t n ps=>auI P t n (ps.map fun (i,x)=>(i,ev x)) f w
 | .makeSlice t l c=>eff P (Instr.makeSlice t (ev l) (ev c)) (ρ o.type) w f
 | .makeMap _ none=>AlM (fun q=>f (.map (some q))) w
 | .mapUpdate t m k x=>effU P (Instr.mapUpdate t (ev m) (ev k) (ev x)) w (f undef)
 | .insert t m k x=>effU P (Instr.mapUpdate t (ev m) (ev k) (ev x)) w (f undef)
 | .mapEntry t m k=>eff P (Instr.mapEntry t (ev m) (ev k)) (ρ o.type) w f
 | .entryStore t m s x=>effU P (Instr.entryStore t (ev m) (ev s) (ev x)) w (f undef)
 | .range t x=>eff P (Instr.range t (ev x)) (.k (.one .ptr)) w f
 | .next it s=>aIR P (ev it) s o.type w f
 | .entry it=>match o.dst with
  | some d=>aAx (A.ent d) #[] fun vs=>∃ w',(Instr.entry (ev it)).run P w= .ok (.tuple vs) w'/\f (.tuple vs) w'
  | none=>False
 | .convert s d x=>eff P (convert s d (ev x)) (ρ o.type) w f
 | .index t x i=>eff P (Instr.index t (ev x) (ev i)) (ρ o.type) w f
 | .binOp op t x y _=>eff P (do eqGuard op t x y (ev x) (ev y);binOp op t (ev x) (ev y)) (ρ o.type) w f
 | .typeAssert x t u ok=>eff P (Instr.typeAssert (ev x) t u ok) (ρ o.type) w f
 | .panic x=>match ev x with
  | .iface t v=>p [{v:= .iface t v,recovered:=false}] w
  | _=>False
 | _=>False
def aFJ (A:Ann) (o:Oper):Bool:=isQ o.op||(match o.dst with | some d=>A.quiet d | none=>false)
def vOp (P:Program) (τ:TypeId ->K1) (ρ:TypeId ->Kd) (pan:FuncId ->Bool) (A:Ann) (o:Oper) (T:Tr) (w:World) (next:Tr ->World ->Prop) (Q:Exit ->Tr ->World ->Prop):Prop:=
 bif aFJ A o then vQ P τ ρ o T.ev w (fun v=>next (T.put o.dst v) w)
 else vE P τ ρ pan A o T.ev w (fun v w'=>next (T.put o.dst v) w') (fun ch w'=>Q (.panic ch) T w')
def ae0 (ops:Array Oper) (o:Oper) (T:Tr) (yes no:Tr ->Prop):Prop:=
 match o.guard with
 | none=>yes T
 | some (j,want)=>match (ops[j]?).bind (·.dst) with
  | none=>False
  | some d=>match T.get d with
   | .bool b=>bif b then (bif want then yes (T.put (some d) (.bool true)) else no (T.put (some d) (.bool true)))
     else (bif want then no (T.put (some d) (.bool false)) else yes (T.put (some d) (.bool false)))
   | .tuple _=>no T
   | _=>False
def vOps (P:Program) (τ:TypeId ->K1) (ρ:TypeId ->Kd) (pan:FuncId ->Bool) (A:Ann) (ops:Array Oper) (Q:Exit ->Tr ->World ->Prop):List Oper ->Tr ->World ->Prop
 | [],T,w=>Q .normal T w
 | o::rest,T,w=>ae0 ops o T (fun T=>vOp P τ ρ pan A o T w (vOps P τ ρ pan A ops Q rest) Q) (fun T=>vOps P τ ρ pan A ops Q rest (T.put o.dst undef) w)
def vQs (P:Program) (τ:TypeId ->K1) (ρ:TypeId ->Kd) (ops:Array Oper) (w:World) (Q:Tr ->Prop):List Oper ->Tr ->Prop
 | [],T=>Q T
 | o::rest,T=>ae0 ops o T (fun T=>vQ P τ ρ o T.ev w (fun v=>vQs P τ ρ ops w Q rest (T.put o.dst v))) (fun T=>vQs P τ ρ ops w Q rest (T.put o.dst undef))
def aIN (P:Program) (g:FuncId) (args:Array Value) (k:Kd) (w:World) (f:Value ->Prop):Prop:=
 k.ex fun v=>(∀ w1,Grow w w1 ->Calls P g args w1 fun e w2=>e= .returned v/\Grow w1 w2)/\f v
def aF8 (P:Program) (g:Value) (args:Array Value) (k:Kd) (w:World) (f:Value ->Prop):Prop:=
 match g with
 | .func (.func g) fi ca=>match aju P g with
  | true=>aIN P g (fi++args++ca) k w f
  | false=>False
 | _=>False
def vQC (P:Program) (τ:TypeId ->K1) (ρ:TypeId ->Kd) (o:Oper) (ev:Operand ->Value) (w:World) (f:Value ->Prop):Prop:=
 match o.op with
 | .call {callee:= .value g,args,.. } =>aF8 P (ev g) (args.map ev) (ρ o.type) w f
 | _=>vQ P τ ρ o ev w f
def vQCs (P:Program) (τ:TypeId ->K1) (ρ:TypeId ->Kd) (ops:Array Oper) (w:World) (Q:Tr ->Prop):List Oper ->Tr ->Prop
 | [],T=>Q T
 | o::rest,T=>ae0 ops o T (fun T=>vQC P τ ρ o T.ev w (fun v=>vQCs P τ ρ ops w Q rest (T.put o.dst v))) (fun T=>vQCs P τ ρ ops w Q rest (T.put o.dst undef))
def aFB (ops:Array Oper) (j:Nat) (sub:Nat ->Nat):Nat:=match ops[j]? with
 | none=>0
 | some o=>o.after.toList.foldl (fun s e=>bif Region.binds .any e then s ||| 2 ^ e.on ||| sub e.on else s) 0
def ai9 (ops:Array Oper):Nat ->Nat ->Nat
 | 0,_=>0
 | f+1,j=>aFB ops j (ai9 ops f)
def vRe (P:Program) (τ:TypeId ->K1) (ρ:TypeId ->Kd) (ops:Array Oper) (T:Tr) (w:World) (next:Prop):List Nat ->Prop
 | []=>next
 | j::l=>match ops[j]? with
  | none=>False
  | some o=>ae0 ops o T (fun T=>vQ P τ ρ o T.ev w fun v=>v=(match o.dst with | some d=>T.get d | none=>v)/\vRe P τ ρ ops T w next l) (fun T=>vRe P τ ρ ops T w next l)
def vPan (Q:Exit ->Tr ->World ->Prop):Exit ->Tr ->World ->Prop
 | .panic ch,_,w=>∀ T:Tr,Q (.panic ch) T w
 | _,_,_=>False
def vSig (P:Program) (τ:TypeId ->K1) (ρ:TypeId ->Kd) (pan:FuncId ->Bool) (A:Ann) (ops:Array Oper) (effs:List Nat) (Q:Exit ->Tr ->World ->Prop):List Nat ->List Nat ->Tr ->World ->Prop
 | [],_,T,w=>Q .normal T w
 | i::rest,done,T,w=>match ops[i]? with
  | none=>False
  | some o=>bif effs.contains i
    then ae0 ops o T (fun T=>vOp P τ ρ pan A o T w (fun T' w'=>vRe P τ ρ ops T' w' (vSig P τ ρ pan A ops effs Q rest done T' w') (done.filter fun j=> !(ai9 ops ops.size i).testBit j)) (vPan Q))
     (fun T=>vSig P τ ρ pan A ops effs Q rest done (T.put o.dst undef) w)
    else ae0 ops o T (fun T=>vQ P τ ρ o T.ev w fun v=>vSig P τ ρ pan A ops effs Q rest (bif adn o.op then i::done else done) (T.put o.dst v) w)
     (fun T=>vSig P τ ρ pan A ops effs Q rest done (T.put o.dst undef) w)
def Dr (f:World ->Prop) (w:World):Prop:=f w.drew
def DrG (f:World ->Prop) (w:World):Prop:=∀ w',Grow w w' ->f w'
def axB (f:Nat ->Prop):List Nat ->Prop
 | []=>True
 | i::l=>f i/\axB f l
def vAny (P:Program) (τ:TypeId ->K1) (ρ:TypeId ->Kd) (pan:FuncId ->Bool) (A:Ann) (ops:Array Oper) (Q:Exit ->Tr ->World ->Prop):Nat ->Array Bool ->Tr ->World ->Prop
 | 0,listed,T,w=>match Region.ready .any ops listed with
  | []=>Q .normal T w
  | _=>False
 | fuel+1,listed,T,w=>match Region.ready .any ops listed with
  | []=>Q .normal T w
  | i::l=>axB (fun i=>match ops[i]? with
   | none=>False
   | some o=>ae0 ops o T (fun T=>vOp P τ ρ pan A o T w (vAny P τ ρ pan A ops Q fuel (listed.setIfInBounds i true)) Q) (fun T=>vAny P τ ρ pan A ops Q fuel (listed.setIfInBounds i true) (T.put o.dst undef) w)) (i::l)
def aoJ (P:Program) (τ:TypeId ->K1) (ρ:TypeId ->Kd) (pan:FuncId ->Bool) (A:Ann) (id:Nat) (ops:Array Oper) (draw:Bool) (Q:Exit ->Tr ->World ->Prop) (T:Tr) (w:World):Prop:=
 match draw with
 | false=>vOps P τ ρ pan A ops Q ops.toList T w
 | true=>match A.sig id with
  | some (σ,effs)=>Dr (fun w'=>vSig P τ ρ pan A ops effs Q σ [] T w') w
  | none=>bif A.fork id then Dr (fun w'=>vAny P τ ρ pan A ops Q ops.size (Array.replicate ops.size false) T w') w
  else bif A.calm id then vQCs P τ ρ ops w (fun T'=>DrG (fun w'=>Q .normal T' w') w) ops.toList T
  else Dr (fun w'=>vQs P τ ρ ops w' (fun T'=>vOps P τ ρ pan A ops Q (ops.toList.drop (A.head id)) T' w') (ops.toList.take (A.head id)) T) w
def aaU (l:List Oper):List Nat:=l.filterMap (·.dst)
def wr:Code ->List Nat
 | .region _ ops _=>aaU ops.toList
 | .seq x y=>wr x++wr y
 | .cond _ x y=>wr x++wr y
 | .block _ c=>wr c
 | .loop c=>wr c
 | .scope c=>wr c
 | .rangeFunc _ ps x y=>ps.toList++wr x++wr y
 | _=> []
def acg:Code ->Option Nat
 | .region id _ _=>some id
 | .seq x y=>(acg x).or (acg y)
 | .cond _ x y=>(acg x).or (acg y)
 | .block _ c=>acg c
 | .loop c=>acg c
 | .scope c=>acg c
 | _=>none
def InvT:List (Nat×C1) ->Type
 | []=>World ->Prop
 | (_,c)::l=>c.ty ->InvT l
def MeaT:List (Nat×C1) ->Type
 | []=>World ->Nat
 | (_,c)::l=>c.ty ->MeaT l
def ai5:(l:List (Nat×C1)) ->InvT l ->Tr ->World ->Prop
 | [],I,_,w=>I w
 | (s,c)::l,I,T,w=>match c.un (T.get s) with
  | some x=>ai5 l (I x) T w
  | none=>False
def asQ:(l:List (Nat×C1)) ->InvT l ->MeaT l ->Nat ->Tr ->World ->Prop
 | [],I,μ,m,_,w=>I w/\μ w<m
 | (s,c)::l,I,μ,m,T,w=>match c.un (T.get s) with
  | some x=>asQ l (I x) (μ x) m T w
  | none=>False
def AllS:(l:List (Nat×C1)) ->InvT l ->MeaT l ->Tr ->(Tr ->(World ->Prop) ->(World ->Nat) ->Prop) ->Prop
 | [],I,μ,T,K=>K T I μ
 | (s,c)::l,I,μ,T,K=>∀ x:c.ty,AllS l (I x) (μ x) (T.put (some s) (c.mk x)) K
def agV (W:List Nat) (l:List (Nat×C1)):List Nat:=W.filter fun s=> !(l.map (·.1)).contains s
noncomputable def afh (u:Nat ->Value):List Nat ->Tr ->Tr
 | [],T=>T
 | s::l,T=>afh u l (T.put (some s) (u s))
def aAC (l:List (Nat×C1)) (W:List Nat) (body:(Tr ->World ->Prop) ->Tr ->World ->Prop) (T:Tr) (w:World):Prop:=
 ∃ (I:InvT l) (μ:MeaT l),ai5 l I T w/\∀ u:Nat ->Value,AllS l I μ (afh u (agV W l) T) fun T' I' μ'=>∀ w',I' w' ->body (asQ l I μ (μ' w')) T' w'
def aAA:(l:List (Nat×C1)) ->MeaT l
 | []=>fun _=>0
 | (_,_)::l=>fun _=>aAA l
def aIQ (l:List (Nat×C1)) (W:List Nat) (first:(Tr ->World ->Prop) ->Tr ->World ->Prop) (rest:Tr ->World ->Prop) (T:Tr) (w:World):Prop:=
 ∃ J:InvT l,first (ai5 l J) T w/\∀ u:Nat ->Value,AllS l J (aAA l) (afh u (agV W l) T) fun T' J' _=>∀ w',J' w' ->rest T' w'
def arB (A:Ann) (y:Code):Option (List (Nat×C1)):=match acg y with
 | some r=>A.join r
 | none=>none
def aiw (next:Tr ->World ->Prop) (Q:Exit ->Tr ->World ->Prop):Exit ->Tr ->World ->Prop
 | .normal,T,w=>next T w
 | e,T,w=>Q e T w
def aHU (id:Nat) (Q:Exit ->Tr ->World ->Prop):Exit ->Tr ->World ->Prop
 | .exit id',T,w=>bif Nat.beq id' id then Q .normal T w else Q (.exit id') T w
 | e,T,w=>Q e T w
def axJ (Q:Exit ->Tr ->World ->Prop):Exit ->Tr ->World ->Prop
 | .goto _,_,_=>False
 | e,T,w=>Q e T w
def aG2 (l:Nat) (J:Tr ->World ->Prop) (Q:Exit ->Tr ->World ->Prop):Exit ->Tr ->World ->Prop
 | .goto l',T,w=>bif Nat.beq l' l then J T w else False
 | e,T,w=>Q e T w
def asY:Code ->Option Nat
 | .label l=>some l
 | .seq x y=>(asY x).or (asY y)
 | _=>none
def aF9 (l:List (Nat×C1)) (W:List Nat) (first pass:(Tr ->World ->Prop) ->Tr ->World ->Prop) (T:Tr) (w:World):Prop:=
 ∃ (I:InvT l) (μ:MeaT l),first (ai5 l I) T w/\∀ u:Nat ->Value,AllS l I μ (afh u (agV W l) T) fun T' I' μ'=>∀ w',I' w' ->pass (asQ l I μ (μ' w')) T' w'
def vc (P:Program) (τ:TypeId ->K1) (ρ:TypeId ->Kd) (pan:FuncId ->Bool) (A:Ann):Nat ->Code ->(Exit ->Tr ->World ->Prop) ->Tr ->World ->Prop
 | 0,_,_,_,_=>False
 | n+1,c,Q,T,w=>match c with
  | .skip=>Q .normal T w
  | .label _=>Q .normal T w
  | .exit id=>Q (.exit id) T w
  | .goto l=>Q (.goto l) T w
  | .ret=>Q .ret T w
  | .region id ops draw=>aoJ P τ ρ pan A id ops draw Q T w
  | .seq x y=>match arB A y with
   | none=>vc P τ ρ pan A n x (aiw (vc P τ ρ pan A n y Q) Q) T w
   | some ks=>aIQ ks (wr x) (fun J=>vc P τ ρ pan A n x (aiw J Q)) (vc P τ ρ pan A n y Q) T w
  | .cond c x y=>match T.ev c with
   | .bool t=>bif t then vc P τ ρ pan A n x Q T w else vc P τ ρ pan A n y Q T w
   | _=>False
  | .block id c=>vc P τ ρ pan A n c (aHU id Q) T w
  | .scope c=>match asY c with
   | none=>vc P τ ρ pan A n c (axJ Q) T w
   | some l=>match A.goto l with
    | none=>vc P τ ρ pan A n c (axJ Q) T w
    | some ks=>match findLabel c l with
     | some rest=>aF9 ks (wr c) (fun J=>vc P τ ρ pan A n c (aG2 l J Q)) (fun J=>vc P τ ρ pan A n rest (aG2 l J Q)) T w
     | none=>False
  | .loop c=>aAC (A.loop ((acg c).getD 0)) (wr c) (fun next=>vc P τ ρ pan A n c (aiw next Q)) T w
  | _=>False
end Go.Vc
end
section
namespace Go.Vc
open Go
section
variable {P:Program}
theorem ayo {w:World} {a b:Addr} {v:Value} (h:okCell w a):okCell (w.setCell b v) a:=by
 obtain ⟨⟨x,hx⟩,hf⟩:=h
 constructor
 ·unfold World.cell? at hx ⊢
  unfold World.setCell
  simp only [Array.getElem?_modify]
  cases hh:w.heap[a.block]? with
  | none=>simp [hh] at hx
  | some o=>
   simp only [hh] at hx
   by_cases e:b.block=a.block
   ·simp only [e,if_true,Option.map_some]
    cases o with
    | cells c t fr=>
     simp only at hx ⊢
     split at hx
     ·cases hx
     ·rename_i hs
      simp only [hs,if_false,Bool.false_eq_true]
      have hlt:a.off<c.size:=by
       rcases Nat.lt_or_ge a.off c.size with h | h
       ·exact h
       ·simp [Array.getElem?_eq_none h] at hx
      split
      ·exact ⟨x,hx⟩
      ·exact ⟨_,Array.getElem?_eq_getElem (by simpa using hlt)⟩
    | _=>simp at hx
   ·simp only [e,if_false]
    cases o with
    | cells c t fr=>exact ⟨x,hx⟩
    | _=>simp at hx
 ·unfold World.frozen? at hf ⊢
  unfold World.setCell
  simp only [Array.getElem?_modify]
  cases hh:w.heap[a.block]? with
  | none=>simp
  | some o=>
   simp only [hh] at hf
   by_cases e:b.block=a.block
   ·simp only [e,if_true,Option.map_some]
    cases o<;>simp_all
   ·simp only [e,if_false]
    cases o<;>simp_all
theorem asB {w:World} {a:Addr} {v:Value} (hv:v.oneCell'=true) (h:okCell w a):(store a v).run P w= .ok () (w.setCell a v):=by
 obtain ⟨⟨x,hx⟩,hf⟩:=h
 rw [run_store P w a v .plain hv]
 simp [hx,hf]
theorem aDO:∀ (l:List Value) (a:Addr) (i:Nat) (w:World) (f:World ->Prop),l.all (·.oneCell')=true ->stN l a i w f ->
  ∃ w',(storeCells a l i).run P w= .ok () w'/\f w'
 | [],_,_,w,_,_,h=>⟨w,rfl,h⟩
 | v::l,a,i,w,f,hl,⟨h1,h2⟩=>by
  simp only [List.all_cons,Bool.and_eq_true] at hl
  obtain ⟨w',h3,h4⟩:=aDO l a (i+1) _ f hl.2 h2
  exact ⟨w',by simp [storeCells,asB hl.1 h1,h3],h4⟩
theorem auz:∀ (l:List Value) (a:Addr) (i:Nat) (w:World),l.all (·.oneCell')=true ->(∀ j,i<=j ->j<i+l.length ->okCell w (a.add j)) ->
  (storeCells a l i).run P w= .ok () (amc w a i l)
 | [],_,_,_,_,_=>rfl
 | v::l,a,i,w,hl,h=>by
  simp only [List.all_cons,Bool.and_eq_true] at hl
  have h1:=h i (Nat.le_refl _) (by simp)
  have h2:=auz l a (i+1) (w.setCell (a.add i) v) hl.2 (fun j h3 h4=>ayo (h j (by omega) (by simp;omega)))
  simp [storeCells,asB hl.1 h1,h2,amc]
theorem aEH {k:K1} {t:TypeId} {x v:Value} {w:World} {f:World ->Prop} (h:aoK P k t x v w f):
  ∃ w',(Instr.storeAt t x v).run P w= .ok () w'/\f w':=by
 unfold aoK at h
 split at h
 ·rename_i a
  split at h
  ·split at h
   ·rename_i e
    split at h
    ·rename_i hv
     obtain ⟨h1,h2⟩:=h
     have hc:v.cells= #[v]:=by cases v<;>first | rfl | simp [Value.oneCell'] at hv
     exact ⟨_,by simp [Instr.storeAt,Instr.sureAddr,storeVar,hc,run_sizeOf e,storeCells,Addr.add,asB hv h1],h2⟩
    ·exact h.elim
   ·exact h.elim
  ·split at h
   ·rename_i cs
    split at h
    ·rename_i n e
     cases hb:(n==cs.size&&cs.toList.all (·.oneCell')) with
     | false=>rw [hb,cond_false] at h;exact h.elim
     | true=>
      rw [hb,cond_true] at h
      simp only [Bool.and_eq_true,beq_iff_eq] at hb
      obtain ⟨w',h1,h2⟩:=aDO (P:=P) _ _ _ _ _ hb.2 h
      refine ⟨w',?_,h2⟩
      have:¬ (Value.agg cs).cells.size≠n:=by simp [Value.cells,hb.1]
      simp only [Instr.storeAt,Instr.sureAddr,storeVar,Sem.run_bind,Sem.run_pure,Result.andThen_ok,run_sizeOf e]
      simp [Value.cells,hb.1,h1]
    ·exact h.elim
   ·exact h.elim
  ·split at h
   ·rename_i n k _ m e
    cases hb:(m==n) with
    | false=>rw [hb,cond_false] at h;exact h.elim
    | true=>
     rw [hb,cond_true] at h
     simp only [beq_iff_eq] at hb
     subst hb
     obtain ⟨ys,rfl,hl,hok,hf⟩:=h
     have:=auz (P:=P) (ys.map (Value.int k)) a 0 w (by simp [Value.oneCell']) (fun j _ hj=>hok j (by simp at hj;omega))
     refine ⟨_,?_,hf⟩
     simp [Instr.storeAt,Instr.sureAddr,storeVar,Value.cells,run_sizeOf e,hl,this]
   ·exact h.elim
 ·exact h.elim
theorem aF4 {pan:FuncId ->Bool} {o:Oper} {a:Act} {w:World} {g:Operand} {args:Array Operand} {ts:Array TypeId} {k:Kd} {f:Value ->World ->Prop} {p:List PanicEntry ->World ->Prop}
  {next:Act ->World ->Prop} {Q:Exit ->Act ->World ->Prop} (ho:o.op= .call {callee:= .value g,args,argTypes:=ts})
  (h:aEy P pan (a.eval g) (args.map a.eval) k w f p) (hf:∀ v w',f v w' ->next (a.put o.dst v) w') (hp:∀ ch w',p ch w' ->Q (.panic ch) a w'):o.wp P a w next Q:=by
 unfold aEy at h
 split at h
 ·rename_i g' fi ca hg
  split at h
  ·rename_i fn hfn
   split at h
   ·rename_i hb
    simp only [Bool.and_eq_true,Bool.not_eq_true',beq_eq_false_iff_ne] at hb
    obtain ⟨hb1,hb2⟩:=hb
    have hr:(execOp a.eval o).run P w= .ok (.enter g' (fi++args.map a.eval++ca)) w:=by
     have hnone:¬ fn.body=none:=by intro hx;simp [hx] at hb1
     simp [execOp,ho,resolve,hg,Deferred.ofValue,invoke,callFunc,hfn,hb2,hnone]
    unfold Oper.wp
    rw [hr]
    show Calls P g' (fi++args.map a.eval++ca) w _
    cases hpan:pan g' with
    | false=>
     rw [hpan,cond_false] at h
     refine Calls.mono h fun e w' he=> ?_
     obtain ⟨v,rfl,hv⟩:=Kd.ex_some he
     exact hf _ _ hv
    | true=>
     rw [hpan,cond_true] at h
     refine Calls.mono h fun e w' he=> ?_
     rcases he with he | ⟨ch,rfl,he⟩
     ·obtain ⟨v,rfl,hv⟩:=Kd.ex_some he
      exact hf _ _ hv
     ·exact hp _ _ he
   ·exact h.elim
  ·exact h.elim
 ·exact h.elim
theorem aEz {o:Oper} {a:Act} {w:World} {g:Operand} {args:Array Operand} {ts:Array TypeId} {k:Kd} {f:Value ->World ->Prop}
  {next:Act ->World ->Prop} {Q:Exit ->Act ->World ->Prop} (ho:o.op= .call {callee:= .value g,args,argTypes:=ts})
  (h:aF3 P (a.eval g) (args.map a.eval) k w f) (hf:∀ v w',f v w' ->next (a.put o.dst v) w'):o.wp P a w next Q:=by
 obtain ⟨g',ca,hg,hb,h⟩:=h
 unfold aju at hb
 split at hb
 ·rename_i fn hfn
  simp only [Bool.and_eq_true,Bool.not_eq_true',beq_eq_false_iff_ne] at hb
  obtain ⟨hb1,hb2⟩:=hb
  have hr:(execOp a.eval o).run P w= .ok (.enter g' (args.map a.eval++ca)) w:=by
   have hnone:¬ fn.body=none:=by intro hx;simp [hx] at hb1
   simp [execOp,ho,resolve,hg,Deferred.ofValue,invoke,callFunc,hfn,hb2,hnone]
  unfold Oper.wp
  rw [hr]
  show Calls P g' (args.map a.eval++ca) w _
  refine Calls.mono h fun e w' he=> ?_
  obtain ⟨v,rfl,hv⟩:=Kd.ex_some he
  exact hf _ _ hv
 ·cases hb
theorem aDx {s:Sem Value} {k:Kd} {w:World} {f:Value ->World ->Prop} (h:eff P s k w f):∃ v w',s.run P w= .ok v w'/\f v w':=by
 obtain ⟨v,w',h⟩:=Kd.ex_some h
 exact ⟨v,w',h⟩
theorem flat_get (z:List Value) (n j:Nat) (h:j<n*z.length):((List.replicate n z).flatten)[j]? =z[j % z.length]? :=by
 induction n generalizing j with
 | zero=>simp at h
 | succ n ih=>
  rw [List.replicate_succ,List.flatten_cons]
  by_cases hj:j<z.length
  ·rw [List.getElem?_append_left hj,Nat.mod_eq_of_lt hj]
  ·have hj':z.length<=j:=Nat.le_of_not_lt hj
   rw [List.getElem?_append_right hj',ih (j - z.length) (by rw [Nat.succ_mul] at h;omega)]
   rw [<- Nat.mod_eq_sub_mod hj']
theorem aDb (z:Array Value) (n:Nat) (m:Nat) (hm:m=z.size) (hz:0<n*m):(Array.range (n*m)).map (fun i=>z[i % z.size]!)=((List.replicate n z.toList).flatten).toArray:=by
 subst hm
 have hz':0<z.size:=by
  rcases Nat.eq_zero_or_pos z.size with h | h
  ·simp [h] at hz
  ·exact h
 apply Array.ext_getElem?
 intro j
 by_cases hj:j<n*z.size
 ·have:=flat_get z.toList n j (by simpa using hj)
  simp only [List.getElem?_toArray,this]
  have hlt:j % z.size<z.size:=Nat.mod_lt _ hz'
  simp [hj,hlt]
 ·have h1:((List.replicate n z.toList).flatten).length<=j:=by simp;omega
  simp only [List.getElem?_toArray,List.getElem?_eq_none h1]
  simp;omega
theorem aIo {τ:TypeId ->K1} {ρ:TypeId ->Kd} {pan:FuncId ->Bool} {A:Ann} {o:Oper} {a:Act} {w:World} {f:Value ->World ->Prop} {p:List PanicEntry ->World ->Prop}
  {next:Act ->World ->Prop} {Q:Exit ->Act ->World ->Prop} (h:vE P τ ρ pan A o a.eval w f p) (hf:∀ v w',f v w' ->next (a.put o.dst v) w') (hp:∀ ch w',p ch w' ->Q (.panic ch) a w'):
  o.wp P a w next Q:=by
 have val:∀ {s:Sem Value} {k:Kd},eff P s k w f ->execOp a.eval o=(do pure (.value (<- s))) ->o.wp P a w next Q:=by
  intro s k h e
  obtain ⟨v,w',h1,h2⟩:=aDx h
  unfold Oper.wp
  rw [e]
  simp only [Sem.run_bind,h1,Result.andThen_ok,Sem.run_pure,Oper.upon_value]
  exact hf _ _ h2
 have bval:∀ {b:Builtin} {args:Array Operand} {ts:Array TypeId} {k:Kd} {s:Sem Value},eff P s k w f ->o.op= .call {callee:= .builtin b,args,argTypes:=ts} ->
   (∀ cs,builtin b ts o.type cs (args.map a.eval)=(do pure (.value (<- s)))) ->o.wp P a w next Q:=by
  intro b args ts k s h ho e
  obtain ⟨v,w',h1,h2⟩:=aDx h
  unfold Oper.wp
  have:(execOp a.eval o).run P w= .ok (.value v) w':=by
   simp [execOp,ho,resolve,invoke,e,h1]
  rw [this]
  exact hf _ _ h2
 have uni:∀ {s:Sem Unit},effU P s w (f undef) ->execOp a.eval o=(do s;pure .skip) ->o.wp P a w next Q:=by
  intro s h e
  obtain ⟨w',h1,h2⟩:=h
  unfold Oper.wp
  rw [e]
  simp only [Sem.run_bind,h1,Result.andThen_ok,Sem.run_pure,Oper.upon_skip]
  exact hf _ _ h2
 unfold vE at h
 split at h
 ·rename_i t x v ho
  obtain ⟨w',h1,h2⟩:=aEH h
  refine uni (s:=Instr.storeAt t (a.eval x) (a.eval v)) ⟨w',h1,h2⟩ (by simp [execOp,ho])
 ·rename_i t x ho
  unfold Oper.wp
  have:(execOp a.eval o).run P w= .ok (.value (.pointer (some ⟨w.heap.size,0,none⟩))) (w.alloc (.cells (a.eval x).cells t)):=by
   simp [execOp,ho,Instr.box,newVar,newRow]
  rw [this]
  exact hf _ _ h
 ·rename_i t ho
  split at h
  ·rename_i z hz
   unfold Oper.wp
   have:(execOp a.eval o).run P w= .ok (.value (.pointer (some ⟨w.heap.size,0,none⟩))) (w.alloc (.cells z.cells t)):=by
    simp [execOp,ho,Instr.alloc,newVar,newRow,apD hz]
   rw [this]
   exact hf _ _ h
  ·exact h.elim
 ·rename_i g args ts ho
  cases hd:dynB A o with
  | true=>rw [hd,cond_true] at h;exact aEz ho h hf
  | false=>rw [hd,cond_false] at h;exact aF4 ho h hf hp
 ·rename_i args ts ho;exact bval h ho (fun cs=>by simp [builtin])
 ·rename_i args ts ho;exact bval h ho (fun cs=>by simp [builtin])
 ·rename_i args ts ho;exact bval h ho (fun cs=>by simp [builtin])
 ·rename_i args ts ho;exact bval h ho (fun cs=>by simp [builtin])
 ·rename_i args ts ho;exact bval h ho (fun cs=>by simp [builtin])
 ·rename_i args ts ho;exact bval h ho (fun cs=>by simp [builtin])
 ·rename_i t n ps ho
  unfold auI at h
  split at h
  ·rename_i e cs hcs
   unfold auF at hcs
   split at hcs
   ·rename_i e' hu
    split at hcs
    ·rename_i m z hm hz
     split at hcs
     ·rename_i cs' hd hfill
      cases hb:(m==z.cells.size) with
      | false=>rw [hb,cond_false] at hcs;cases hcs
      | true=>
       rw [hb,cond_true] at hcs
       injection hcs with hcs;injection hcs with h1 h2;subst h1;subst h2
       simp only [beq_iff_eq] at hb
       simp only [Bool.and_eq_true,decide_eq_true_eq] at hd
       unfold Oper.wp
       have hr:(execOp a.eval o).run P w= .ok (.value (.slice (some ⟨w.heap.size,0,none⟩) n n)) (w.alloc (.cells cs' e')):=by
        have hle:¬ n*m>2 ^ 24:=by omega
        simp only [execOp,ho,Instr.buildSlice,Sem.run_bind,aai hu,Result.andThen_ok,run_sizeOf hm,if_neg hle,Sem.run_pure]
        have hrange:=aDb z.cells n m hb hd.2
        simp only [if_neg (Nat.ne_of_gt hd.2),Sem.run_bind,apD hz,Result.andThen_ok,Sem.run_pure,hrange,hfill]
        simp [newRow]
       rw [hr]
       exact hf _ _ h
     ·cases hcs
    ·cases hcs
   ·cases hcs
  ·exact h.elim
 ·rename_i ho;exact val h (by simp [execOp,ho])
 ·rename_i ho
  unfold Oper.wp
  have hr:(execOp a.eval o).run P w= .ok (.value (.map (some w.heap.size))) (w.alloc (.map #[] 0)):=by simp [execOp,ho,Instr.makeMap]
  rw [hr]
  exact hf _ _ h
 ·rename_i ho;exact uni h (by simp [execOp,ho])
 ·rename_i ho;exact uni h (by simp [execOp,ho])
 ·rename_i ho;exact val h (by simp [execOp,ho])
 ·rename_i ho;exact uni h (by simp [execOp,ho])
 ·rename_i ho;exact val h (by simp [execOp,ho])
 ·rename_i it s ho
  have hx:∃ v w',(Instr.next (a.eval it) s o.type).run P w= .ok v w'/\f v w':=by
   rcases h with ⟨w',h1,h2⟩ | h
   ·exact ⟨_,w',h1,h2⟩
   ·cases s with
    | true=>obtain ⟨k,c,w',h1,h2⟩:=h;exact ⟨_,w',h1,h2⟩
    | false=>obtain ⟨k,v,w',h1,h2⟩:=h;exact ⟨_,w',h1,h2⟩
  obtain ⟨v,w',h1,h2⟩:=hx
  unfold Oper.wp
  have hr:(execOp a.eval o).run P w= .ok (.value v) w':=by simp [execOp,ho,h1]
  rw [hr]
  exact hf _ _ h2
 ·rename_i it ho
  split at h
  ·obtain ⟨vs,w',h1,h2⟩:=apg _ _ _ h
   unfold Oper.wp
   have hr:(execOp a.eval o).run P w= .ok (.value (.tuple vs)) w':=by simp [execOp,ho,h1]
   rw [hr]
   exact hf _ _ h2
  ·exact h.elim
 ·rename_i ho;exact val h (by simp [execOp,ho])
 ·rename_i ho;exact val h (by simp [execOp,ho])
 ·rename_i ho;exact val h (by simp [execOp,ho])
 ·rename_i ho;exact val h (by simp [execOp,ho])
 ·rename_i x ho
  split at h
  ·rename_i t v hx
   unfold Oper.wp
   have:(execOp a.eval o).run P w= .halt (.panic (.iface t v)) w:=by simp [execOp,ho,hx,Instr.panic]
   rw [this]
   exact hp _ _ h
  ·exact h.elim
 ·exact h.elim
end
end Go.Vc
end
section
namespace Go.Vc
open Go
section
variable {P:Program} {τ:TypeId ->K1} {ρ:TypeId ->Kd} {pan:FuncId ->Bool} {A:Ann}
structure Rel (N:Nat) (T:Tr) (a:Act):Prop where
 defers:a.defers= []
 size:a.tmps.size=N
 get:∀ t,a.tmps.getD t undef=T.get t
theorem Rel.ev {N:Nat} {T:Tr} {a:Act} (h:Rel N T a):a.eval=T.ev:=by
 funext x
 cases x with
 | tmp t=>exact h.get t
 | const v=>rfl
 | global g=>rfl
 | func f=>rfl
theorem Rel.at {N:Nat} {T:Tr} {a:Act} (h:Rel N T a) {d:Nat} (hd:d<N):a.tmps[d]? =some (T.get d):=by
 have hlt:d<a.tmps.size:=by rw [h.size];exact hd
 rw [Array.getElem?_eq_getElem hlt,<- h.get d]
 simp [Array.getD,hlt]
theorem Rel.put {N:Nat} {T:Tr} {a:Act} (h:Rel N T a) (hN:N<=8000) {d:Option Nat} (hd:∀ t,d=some t ->t<N) (v:Value):Rel N (T.put d v) (a.put d v):=by
 cases d with
 | none=>exact h
 | some d=>
  have hlt:=hd d rfl
  refine ⟨h.defers,by simp [Act.put,h.size],fun t=> ?_⟩
  rw [Tr.get_put T d t v (by omega),<- h.get t]
  have hs:d<a.tmps.size:=by rw [h.size];exact hlt
  simp only [Act.put,Array.getD_eq_getD_getElem?,Array.getElem?_setIfInBounds]
  by_cases e:d=t
  ·subst e;simp [hs]
  ·rw [if_neg e,if_neg (fun e'=>e e'.symm)]
theorem Rel.same {N:Nat} {T T':Tr} {a:Act} (h:Rel N T a) (ht:∀ t,T'.get t=T.get t):Rel N T' a:=⟨h.defers,h.size,fun t=>(h.get t).trans (ht t).symm⟩
def Fr (W:List Nat) (T T':Tr):Prop:=∀ t,t∉W ->T'.get t=T.get t
theorem Fr.refl (W:List Nat) (T:Tr):Fr W T T:=fun _ _=>rfl
theorem Fr.trans {W:List Nat} {a b c:Tr} (h:Fr W a b) (h':Fr W b c):Fr W a c:=fun t ht=>(h' t ht).trans (h t ht)
theorem Fr.mono {W W':List Nat} {a b:Tr} (h:Fr W a b) (hs:∀ t,t∈W ->t∈W'):Fr W' a b:=fun t ht=>h t (fun h'=>ht (hs t h'))
theorem Fr.put (W:List Nat) (T:Tr) (d:Option Nat) (v:Value) (h:∀ t,d=some t ->t∈W/\t<8000):Fr W T (T.put d v):=by
 cases d with
 | none=>exact .refl _ _
 | some d=>
  intro t ht
  rw [Tr.get_put T d t v (h d rfl).2,if_neg (fun e=>ht (by rw [e];exact (h d rfl).1))]
def ab0 (P:Program) (N:Nat) (l:List Oper):Bool:=l.all fun o=>(match o.op with
 | .convert s _ _=>(P.underlying s).isSome
 | _=>true)&&(match o.dst with | some d=>Nat.blt d N | none=>true)
def okS (l:List (Nat×C1)):Prop:=∀ x∈l,x.1<8000
def okW (c:Code):Bool:=(wr c).all fun t=>Nat.blt t 8000
theorem ar8 {c:Code} (h:okW c=true):∀ t∈wr c,t<8000:=fun t ht=>by simpa using List.all_eq_true.1 h t ht
def okSB (l:List (Nat×C1)):Bool:=l.all fun x=>Nat.blt x.1 8000
theorem as1 {l:List (Nat×C1)} (h:okSB l=true):okS l:=fun x hx=>by simpa using List.all_eq_true.1 h x hx
theorem aeI {N:Nat} {l:List Oper} (h:ab0 P N l=true) {o:Oper} (ho:o∈l):∀ s d x,o.op= .convert s d x ->(P.underlying s).isSome=true:=by
 intro s d x e
 have:=List.all_eq_true.1 h o ho
 simp only [Bool.and_eq_true,e] at this
 exact this.1
theorem ac7 {N:Nat} {l:List Oper} (h:ab0 P N l=true) {o:Oper} (ho:o∈l):∀ t,o.dst=some t ->t<N:=by
 intro t e
 have:=List.all_eq_true.1 h o ho
 simp only [Bool.and_eq_true,e] at this
 simpa using this.2
theorem al3 {N:Nat} {o:Oper} {l:List Oper} (h:ab0 P N (o::l)=true):ab0 P N l=true:=by
 unfold ab0 at h ⊢;rw [List.all_cons,Bool.and_eq_true] at h;exact h.2
def aIT (want:Bool):Value ->Bool
 | .bool b=>b==want
 | _=>false
theorem aGc {ops:Array Oper} {o:Oper} {a:Act} {j d:Nat} {want:Bool} {v:Value} (hg:o.guard=some (j,want)) (hd:(ops[j]?).bind (·.dst)=some d) (hb:a.tmps[d]? =some v):
  Region.wanted o (yielded ops a.tmps)=aIT want v:=by
 unfold Region.wanted yielded
 simp only [hg,hd,Option.bind_some,hb]
 cases v
 case bool b=>cases b<;>cases want<;>rfl
 all_goals rfl
theorem afw {N:Nat} {ops:Array Oper} {o:Oper} {T:Tr} {a:Act} {yes no:Tr ->Prop} {B:Prop} (hN:N<=8000) (hops:ab0 P N ops.toList=true) (hr:Rel N T a) (h:ae0 ops o T yes no)
  (hy:∀ T',(∀ t,T'.get t=T.get t) ->yes T' ->Region.wanted o (yielded ops a.tmps)=true ->B) (hn:∀ T',(∀ t,T'.get t=T.get t) ->no T' ->Region.wanted o (yielded ops a.tmps)=false ->B):B:=by
 unfold ae0 at h
 split at h
 ·rename_i hg
  exact hy T (fun _=>rfl) h (by simp [Region.wanted,hg])
 ·rename_i j want hg
  split at h
  ·exact h.elim
  ·rename_i d hd
   have hdN:d<N:=by
    cases hj:ops[j]? with
    | none=>simp [hj] at hd
    | some oj=>
     have hm:oj∈ops.toList:=by rw [Array.mem_toList_iff];exact Array.mem_of_getElem? hj
     exact ac7 hops hm d (by simpa [hj] using hd)
   have hat:=hr.at hdN
   have hw:=aGc hg hd hat
   split at h
   ·rename_i b hb
    rw [hb] at hw
    have hsame:∀ t,(T.put (some d) (.bool b)).get t=T.get t:=by
     intro t
     rw [Tr.get_put T d t _ (Nat.lt_of_lt_of_le hdN hN)]
     split
     ·rename_i e;subst e;exact hb.symm
     ·rfl
    cases b with
    | true=>
     rw [cond_true] at h
     cases want with
     | true=>exact hy _ hsame h hw
     | false=>exact hn _ hsame h hw
    | false=>
     rw [cond_false] at h
     cases want with
     | true=>exact hn _ hsame h hw
     | false=>exact hy _ hsame h hw
   ·rename_i vs hb
    rw [hb] at hw
    exact hn T (fun _=>rfl) h hw
   ·exact h.elim
theorem as8 {N:Nat} {o:Oper} {T:Tr} {a:Act} {w:World} {next:Tr ->World ->Prop} {next':Act ->World ->Prop} {Q:Exit ->Tr ->World ->Prop} {Q':Exit ->Act ->World ->Prop}
  (hr:Rel N T a) (hc:∀ s d x,o.op= .convert s d x ->(P.underlying s).isSome=true)
  (h:vOp P τ ρ pan A o T w next Q) (hn:∀ v w',next (T.put o.dst v) w' ->next' (a.put o.dst v) w') (hp:∀ ch w',Q (.panic ch) T w' ->Q' (.panic ch) a w'):o.wp P a w next' Q':=by
 unfold vOp at h
 cases hq:aFJ A o with
 | true=>
  rw [hq,cond_true] at h
  rw [<- hr.ev] at h
  obtain ⟨v,h1,h2⟩:=asK hc h
  unfold Oper.wp
  rw [h1 w (fun _=> .refl w)]
  exact hn _ _ h2
 | false=>
  rw [hq,cond_false] at h
  rw [<- hr.ev] at h
  exact aIo h (fun v w' hv=>hn v w' hv) hp
end
end Go.Vc
end
