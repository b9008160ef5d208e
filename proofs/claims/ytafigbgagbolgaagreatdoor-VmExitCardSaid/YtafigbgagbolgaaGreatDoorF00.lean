/- A part of the proof. -/
import Derived.Tactics
import Derived.Still
import Derived.Laws.World
import Derived.KernelRfl
import Derived.Scope
import Derived.ScopeJumps
import Derived.StillTail
import Derived.Deep.LoopGhost
import Derived.Deep.Quiet
import Derived.Eval
import Derived.Deep.AppendSrc
import Derived.Laws.MakeOwn
import Derived.Laws.IdiomStrings
import Derived.Stop.BytesEq
import Derived.Laws.StructEq
import Derived.MapKept
set_option linter.all false
set_option maxRecDepth 100000
open Go in abbrev aN2:Value:=.bool false
open Go in abbrev aN3:Value:=.bool true
open Go in abbrev aN4:Value:=.tuple #[]
open Go in abbrev aN8:Value:=.slice none 0 0
open Go.IntKind(i64 u64)
open Go in abbrev bg0:=World->Prop
open Go in abbrev bg1:=Value->World->Prop
open Go in abbrev ch:=Option Addr
open Go in abbrev bH:=World
open Go in abbrev bE:=Value
open Go in abbrev bg7:=FuncId
open Go in abbrev cf:=TypeId
open Go in abbrev cP:=Program
universe u
abbrev fB(i:Int)(n:Nat)(A B:Prop):Prop:=cond (decide (i<(n:Int))) A B
abbrev ed(i n:Int)(A B:Prop):Prop:=cond (decide (i<n)) A B
abbrev dX(b:Bool)(A B:Prop):Prop:=cond (!b) A B
def bJ:=@if_neg
def dL:=@List.getElem?_eq_getElem
def bL:=@if_pos
def c4:=@List.getElem?_eq_some_iff
def dT:=@List.getD_eq_getElem?_getD
def cU:=@Option.some.inj
def dg:=@List.length_append
def dm:=@List.append_assoc
def dz:=@Int.toNat_natCast
def di:=@decide_eq_false
def eN:=@List.getElem?_append_left
def dA:=@Bool.and_eq_true
def eH:=@List.mem_of_getElem?
def dE:=@decide_eq_true
def dM:=@List.length_set
def fR:=@List.getElem?_append_right
def eI:=@List.getElem?_map
def en:=@List.length_map
def fK:=@List.take_append_drop
def fz:=@List.mem_cons_self
def ey:=@List.mem_cons
def fT:=@List.mem_cons_of_mem
def ep:=@Nat.le_refl
def g2:=@List.getElem?_eq_none
def fU:=@Option.some.injEq
def fS:=@List.all_eq_true
def iQ:=@Array.getD_eq_getD_getElem?
def gg:=@List.take_length
def gE:=@decide_eq_true_eq
def g7:=@List.pairwise_cons
def fo:=@List.mem_map
def gh:=@Option.map_some
def fy:=@Nat.zero_add
def fV:=@List.mem_range
def iq:=@List.take_of_length_le
def e7:=@Nat.zero_le
def gq:=@List.mem_filter
def hd:=@List.getElem?_set
def hg:=@List.ext_getElem?
def gF:=@List.mem_append
def iZ:=@List.getElem?_set_self
def h8:=@List.mem_singleton
def hI:=@List.length_cons
def hJ:=@List.length_take
def fM:=@Nat.mul_one
def eK:=@congrArg
def hs:=@List.append_nil
def ju:=@List.set_append_right
def ja:=@List.getElem?_set_ne
def jb:=@List.mem_iff_getElem
def h9:=@Bool.not_eq_true'
def jv:=@List.pairwise_append
def kJ:=@Option.isSome_iff_exists
def lD:=@List.drop_eq_getElem_cons
def kW:=@List.drop_of_length_le
def g3:=@Int.le_refl
def lE:=@List.getElem?_cons_zero
def jc:=@List.perm_middle
def hL:=@List.map_set
def kX:=@List.contains_iff_mem
def hN:=@Nat.lt_or_ge
def kb:=@of_decide_eq_false
def kY:=@Nat.mul_le_mul_right
def lF:=@List.length_replicate
def jD:=@List.filter_cons
def m6:=@List.pairwise_iff_getElem
def kc:=@List.pairwise_map
def hh:=@cond_false
def jE:=@Bool.or_eq_true
def lZ:=@List.perm_append_comm
def l0:=@List.length_filter_le
def l1:=@List.length_singleton
def oa:=@Array.getElem?_setIfInBounds
def kZ:=@Nat.eq_zero_or_pos
def mD:=@Array.mem_of_getElem?
def lG:=@Nat.lt_of_lt_of_le
def ob:=@List.nodup_iff_pairwise_ne
def gP:=@if_false
def mE:=@List.mem_append_left
def jd:=@Nat.sub_self
def oc:=@Array.getElem?_eq_getElem
def m7:=@Nat.eq_of_beq_eq_true
def hM:=@cond_true
def l2:=@Bool.false_eq_true
def kK:=@List.map_append
def oZ:=@Array.getElem?_eq_some_iff
def m8:=@List.mem_of_mem_take
def od:=@List.getElem?_replicate
def nM:=@List.mem_append_right
def kd:=@List.map_cons
def m9:=@List.getElem?_range
def gQ:=@if_true
def pV:=@List.perm_append_comm_assoc
def mF:=@List.take_add_one
def mG:=@of_decide_eq_true
def rD:=@List.take_append_of_le_length
def l3:=@List.nil_append
def mH:=@Option.getD_some
def mI:=@Nat.mod_eq_of_lt
def o0:=@List.Perm.append_left
def tq:=@Nat.and_two_pow_sub_one_eq_mod
def oe:=@List.replicate_succ
def ke:=@Nat.add_mul
def k1:=@Nat.add_zero
def nN:=@List.flatMap_cons
def tr:=@List.eq_nil_of_length_eq_zero
def o1:=@Array.mem_toList_iff
def rE:=@Classical.byContradiction
def l4:=@Bool.true_and
def nO:=@List.length_drop
def pW:=@List.mem_iff_getElem?
def kL:=@Nat.mod_lt
def pX:=@BitVec.ofInt_natCast
def o2:=@List.getElem?_take
def og:=@List.getElem_mem
def rF:=@List.Perm.append_right
def o3:=@List.take_sublist
def na:=@Bool.toNat_le
def mJ:=@Nat.le_trans
def pY:=@List.getElem?_drop
def pZ:=@List.find?_eq_none
def tt:=@Nat.add_sub_cancel_left
def o4:=@List.cons_append
def rG:=@List.set_append_left
def rH:=@List.mem_of_mem_drop
def rI:=@Nat.testBit_two_pow
def vV:=@List.mem_of_find?_eq_some
def o5:=@Nat.min_eq_left
def nb:=@Nat.mul_add
def tu:=@Nat.pow_le_pow_right
def p0:=@List.length_nil
def tv:=@Array.length_toList
def vW:=@Array.getElem?_eq_none
def oh:=@Nat.zero_mul
def o6:=@Bool.or_false
def o7:=@Prod.mk.injEq
def p1:=@List.drop_drop
def tw:=@BitVec.toNat_ofNat
def tx:=@List.filter_append
def rJ:=@List.nodup_cons
def vX:=@Nat.eq_of_testBit_eq
def FL:=@Int.mul_le_mul_of_nonneg_right
def tz:=@List.flatten_cons
def tA:=@Bool.eq_false_iff
def S7:=@Array.getElem?_setIfInBounds_self_of_lt
def yZ:=@List.length_eq_zero_iff
def vY:=@beq_eq_false_iff_ne
def vZ:=@List.filter_eq_self
def tB:=@beq_self_eq_true
def tC:=@List.any_eq_true
def rK:=@List.drop_zero
def rL:=@Bool.and_false
def tD:=@decide_eq_decide
def tE:=@List.not_mem_nil
def p3:=@Nat.pow_succ
def v7:=@List.mem_filterMap
def FM:=@Nat.two_pow_add_eq_or_of_lt
def l5:=@Iff.rfl
def tF:=@Int.natCast_mul
def y0:=@List.count_cons_of_ne
def v8:=@List.nodup_append
def wa:=@List.filter_congr
def wb:=@List.count_append
def FN:=@List.getElem?_eq_none_iff
def y1:=@List.count_cons_self
def wc:=@BitVec.toNat_and
def rM:=@Nat.add_comm
def FO:=@List.Pairwise.imp_of_mem
def we:=@List.drop_length
def y2:=@List.mergeSort_perm
def S8:=@Array.getElem?_setIfInBounds_ne
def FP:=@List.pairwise_singleton
def FQ:=@decide_eq_false_iff_not
def tG:=@Nat.lt_irrefl
def nc:=@Ne.symm
def tH:=@Nat.add_assoc
def p4:=@beq_iff_eq
def y3:=@Nat.lt_of_le_of_lt
def wg:=@List.count_cons
def y4:=@List.set_cons_zero
def FR:=@Nat.div_div_eq_div_mul
def S9:=@List.drop_append_of_le_length
def y5:=@List.foldl_append
def FT:=@Array.getElem?_modify
def FU:=@List.countP_le_length
def tI:=@List.map_map
def wi:=@Bool.false_and
def wj:=@List.take_zero
def FV:=@List.getElem?_zipWith
def wk:=@Option.map_map
def y6:=@List.flatten_nil
def FX:=@Bool.or_eq_false_iff
def y7:=@List.mem_flatMap
def FY:=@Nat.pow_lt_pow_right
def FZ:=@List.getElem?_of_mem
def y8:=@Nat.div_eq_of_lt
def Ta:=@Int.fdiv_eq_ediv_of_nonneg
def F0:=@List.replicate_zero
def F1:=@List.getElem_of_mem
def F2:=@List.filterMap_cons
def F3:=@List.flatMap_append
def F4:=@List.flatten_append
def F5:=@Array.toList_filter
def y9:=@Nat.two_pow_pos
def Tb:=@Option.isNone_iff_eq_none
def zc:=@Int.ediv_nonneg
def Tc:=@Array.getElem?_replicate
def F6:=@Bool.true_eq_false
def wm:=@Nat.mul_comm
def F7:=@Nat.xor_lt_two_pow
def F8:=@Option.isSome_some
def zd:=@Int.mul_nonneg
def o8:=@eq_self
def F9:=@List.idxOf_append
def Ga:=@Nat.lt_trichotomy
def Gb:=@List.size_toArray
def Gc:=@List.length_range
def Gd:=@List.drop_sublist
def om:=@not_or
def Td:=@List.pairwise_lt_range
def bc0:=@List.set_eq_take_append_cons_drop
def zj:=@List.all_cons
def Ge:=@Option.bind_some
def Gf:=@List.countP_cons
def Gg:=@List.getElem_set
def bc5:=@Nat.testBit_eq_decide_div_mod_eq
def Te:=@Nat.le_of_ble_eq_true
def bc7:=@List.eraseIdx_eq_take_drop_succ
def zp:=@Nat.succ_mul
def Gh:=@List.foldl_cons
def Gi:=@List.find?_some
def Gj:=@List.range_succ
def zr:=@Nat.pow_zero
def Gk:=@Nat.div_le_self
def Gl:=@Int.natCast_add
def Gm:=@List.any_append
def Tf:=@List.mem_of_getLast?
def Tg:=@List.contains_append
def Gn:=@Int.emod_nonneg
def zv:=@Int.zero_add
def be0:=@List.mem_eraseIdx_iff_getElem
def be1:=@Int.mul_le_mul_of_nonneg_left
def Th:=@List.countP_eq_zero
def Ti:=@List.take_set_of_le
def Tj:=@List.drop_set_of_lt
def Tk:=@List.map_congr_left
def Gq:=@List.mapM_cons
def tJ:=@or_false
def Gr:=@Nat.mul_le_mul
def zE:=@Nat.div_one
def Tl:=@Option.isSome_none
def Tm:=@List.set_cons_succ
def Tn:=@List.map_replicate
def Gs:=@Bool.false_or
def Gt:=@Nat.mul_assoc
def Gu:=@Int.add_assoc
def To:=@Nat.le_of_not_lt
def Gv:=@Nat.lt_trans
def Gw:=@Nat.sub_zero
def Tq:=@List.drop_append
abbrev bR:=List Int
abbrev bW:=@Option
abbrev bA:=@List
abbrev cb:=@Array
theorem cF{c:Prop}{h:Decidable c}(k:¬c:=by omega){α:Sort u}{a b:α}:(ite c a b)=b:=if_neg k
theorem eJ{c:Prop}{h:Decidable c}(k:c:=by omega){α:Sort u}{a b:α}:(ite c a b)=a:=if_pos k
theorem dN{α:Type u}{l:List α}{i:Nat}(h:i<l.length:=by omega):l[i]?=some l[i]:=List.getElem?_eq_getElem h
theorem bu{p:Prop}(h:p:=by omega):p:=h
theorem bN{p:Prop}[Decidable p](h:p:=by decide):p:=h
namespace Go.Kt
structure G where
 up:Int
 live:Bool
def dt(l:bA G)(g:Int):Bool:=decide (0<=g)&&(match l[g.toNat]? with|some x=>x.live|none=>false)
structure WF(l:bA G):Prop where
 pos:0<l.length
 e8:l.length<=64
 root:l[0]?=some ⟨-1,true⟩
 up:∀(i:Nat) x,l[i]?=some x->0<i->0<=x.up/\x.up<i
 live:∀(i:Nat) x y,l[i]?=some x->0<i->x.live=true->l[x.up.toNat]?=some y->y.live=true
def iR{l:bA G}{g:Int}:dt l g=true↔∃n:Nat,g=n/\∃x,l[n]?=some x/\x.live=true:=by
 unfold dt;rw[dA,gE];constructor
 ·rintro⟨a,h⟩;refine⟨g.toNat,bu,?_⟩;split at h;·next x hx=>exact⟨x,hx,h⟩
  ·cases h
 ·rintro⟨n,rfl,x,hx,hl⟩;refine⟨bu,?_⟩;rw[dz,hx];exact hl
def Ts{l:bA G}{g:Int}(h:dt l g=true):0<=g/\g<l.length:=by
 obtain⟨n,rfl,x,hx,_⟩:=iR.1 h;have:=(c4.1 hx).1;omega
def chain(l:bA G)(g:Nat):bA Nat:=
 if h:0<g/\0<=((l[g]?).map G.up).getD (-1)/\((l[g]?).map G.up).getD (-1)<g then g::chain l (((l[g]?).map G.up).getD (-1)).toNat else[g]
termination_by g
decreasing_by omega
def tK(l:bA G):chain l 0= [0]:=by rw[chain,dif_neg bu]
def rN{l:bA G}{g:Nat}{x:G}(h:WF l)(hx:l[g]?=some x)(a:0<g):chain l g=g::chain l x.up.toNat:=by
 have:=h.up g x hx a;rw[chain];rw[hx];simp only[gh,mH];rw[dif_pos ⟨a,this.1,this.2⟩]
def Gx(l:bA G)(g:Nat):∃r,chain l g=g::r:=by
 rw[chain];split<;>exact⟨_,rfl⟩
def z1{l:bA G}(h:WF l):∀(g:Nat),g<l.length->(∀x∈chain l g,x<=g)/\(chain l g).length<=g+1:=by
 intro g;induction g using Nat.strongRecOn with
 |_ g d=>
  intro c;rcases kZ g with a|a;·subst a;rw[tK];simp
  ·obtain⟨x,hx⟩:∃x,l[g]?=some x:=⟨_,dL c⟩
   have hu:=h.up g x hx a;rw[rN h hx a];have:=d x.up.toNat bu bu;refine⟨λy b=>?_,by rw[hI];omega⟩;rcases ey.1 b with rfl|b;·omega
   ·have:=this.1 y b;omega
def Tt{l:bA G}(h:WF l):∀(g:Nat),g<l.length->(chain l g).Nodup:=by
 intro g;induction g using Nat.strongRecOn with
 |_ g c=>
  intro b;rcases kZ g with a|a;·subst a;rw[tK];simp
  ·obtain⟨x,hx⟩:∃x,l[g]?=some x:=⟨_,dL b⟩
   have hu:=h.up g x hx a;rw[rN h hx a,rJ];refine⟨λhm=>?_,c _ bu bu⟩;have:=(z1 h x.up.toNat bu).1 g hm;omega
def Tu{l:bA G}(h:WF l):∀(g:Nat),g<l.length->0∈chain l g:=by
 intro g;induction g using Nat.strongRecOn with
 |_ g c=>
  intro b;rcases kZ g with a|a;·subst a;rw[tK];simp
  ·obtain⟨x,hx⟩:∃x,l[g]?=some x:=⟨_,dL b⟩
   have hu:=h.up g x hx a;rw[rN h hx a];exact fT _ (c _ bu bu)
def dp(l:bA G)(g:Int):bR:=if dt l g=true then(chain l g.toNat).map Int.ofNat else[]
def Gy(l:bA G)(g:Int):Int:=((dp l g).length:Int)-1
def o9(l:bA G)(g:Int):Int:=if dt l g=true then((l[g.toNat]?).map G.up).getD (-1)else -1
def nP(l:bA G)(is:Nat->Bool):bR:=((List.range l.length).filter λi:Nat=>dt l (i:Int)&&is i).map Int.ofNat
def ia(l:bA G)(g:Int):bR:=if dt l g=true then nP l (λi=>(dp l i).contains g)else[]
def kg(l:bA G)(g:Int):bR:=if dt l g=true then nP l (λi=>((l[i]?).map G.up).getD (-1)==g)else[]
def gi(l:bA G)(p:Int):bA G×Int×Int:=
 if dt l p=false then(l, -1,2)else if Gy l p≥7 then(l, -1,21)else if l.length≥64 then(l, -1,3)else(l++[⟨p,true⟩],l.length,0)
def iT(l:bA G)(g:Int):bA G×Int:=
 if g=0 then(l,1)else if dt l g=false then(l,2)else if kg l g≠ []then(l,4)else(l.set g.toNat ⟨((l[g.toNat]?).map G.up).getD (-1),false⟩,0)
def new:bA G:=[⟨-1,true⟩]
def Tv:WF new:=⟨bN,bN,rfl,λi x hx a=>by
 match i,hx with
 |0,_=>omega
 |i+1,hx=>simp[new]at hx,λi x y hx a=>by
 match i,hx with
 |0,_=>omega
 |i+1,hx=>simp[new]at hx⟩
def Tw{l:bA G}(h:WF l)(p:Int):WF (gi l p).1:=by
 unfold gi;split;·exact h
 split;·exact h
 split;·exact h
 next hl _ hn=>
  have hl:dt l p=true:=by simpa using hl
  obtain⟨n,rfl,x,hx,g⟩:=iR.1 hl;have f:=(c4.1 hx).1;refine⟨by simp,by simp;omega,?_,λi y a d=>?_,λi y z a d j c=>?_⟩;·rw[eN h.pos];exact h.root
  ·rcases hN i l.length with b|b;·rw[eN b]at a;exact h.up i y a d
   ·rw[fR b]at a;have:i-l.length=0:=by
     rcases kZ (i-l.length)with h' | h';·exact h'
     ·rw[g2 (by simp;omega)]at a;cases a
    rw[this]at a;have:=cU a;subst this;exact⟨by show(0:Int)<=(n:Int);omega,by show(n:Int)<i;omega⟩
  ·rcases hN i l.length with b|b
   ·rw[eN b]at a;have hu:=h.up i y a d;rw[eN bu]at c;exact h.live i y z a d j c
   ·rw[fR b]at a;have:i-l.length=0:=by
     rcases kZ (i-l.length)with h' | h';·exact h'
     ·rw[g2 (by simp;omega)]at a;cases a
    rw[this]at a;have:=cU a;subst this;have e:((n:Int)).toNat=n:=by omega
    simp only[e]at c;rw[eN f,hx]at c;rw[<- cU c];exact g
def Tx{l:bA G}(h:WF l)(g:Int):WF (iT l g).1:=by
 unfold iT;split;·exact h
 split;·exact h
 split;·exact h
 next m hl hk=>
  have hl:dt l g=true:=by simpa using hl
  have hk:kg l g= []:=by simpa using hk
  obtain⟨n,rfl,x,hx,p⟩:=iR.1 hl;have d:=(c4.1 hx).1;rw[dz,hx];simp only[gh,mH];have f:n≠0:=λe=>m (by rw[e];rfl);refine⟨by rw[dM];exact h.pos,by rw[dM];exact h.e8,?_,λi y a b=>?_,λi y z a b c j=>?_⟩;·rw[ja f];exact h.root
  ·by_cases e:n=i
   ·subst e;rw[iZ d]at a;have:=cU a;subst this;exact h.up n x hx b
   ·rw[ja e]at a;exact h.up i y a b
  ·by_cases e:n=i
   ·subst e;rw[iZ d]at a;have:=cU a;subst this;cases c
   ·rw[ja e]at a;by_cases k:n=y.up.toNat
    ·exfalso;have hu:=h.up i y a b;have o:=(c4.1 a).1;have:(i:Int)∈kg l n:=by
      unfold kg nP;rw[bL hl];refine fo.2 ⟨i,gq.2 ⟨fV.2 o,?_⟩,rfl⟩;rw[dA];refine⟨iR.2 ⟨i,rfl,y,a,c⟩,?_⟩;show(((l[i]?).map G.up).getD (-1)==(n:Int))=true;rw[a];simp only[gh,mH,p4];omega
     rw[hk]at this;cases this
    ·rw[ja k]at j;exact h.live i y z a b c j
end Go.Kt
namespace Go.Vc
open Go
structure Sl where
 p:ch
 n:Nat
 c:Nat
inductive C1 where
 |int (k:IntKind)|bool|str|ptr|slice|map|raw|addr
def C1.ty:C1->Type
 |.int _=>Int | .bool=>Bool | .str=>ByteArray | .ptr=>ch | .slice=>Sl | .map=>bW Nat | .raw=>bE | .addr=>Addr
def C1.mk:(c:C1)->c.ty->bE
 |.int k,n=>.int k n
 |.bool,b=>.bool b
 |.str,s=>.string s
 |.ptr,p=>.pointer p
 |.slice,s=>.slice s.p s.n s.c
 |.map,r=>.map r
 |.raw,v=>v
 |.addr,a=>.pointer (some a)
def C1.un:(c:C1)->bE->bW c.ty
 |.int k,.int k' n=>match decide (k=k')with|true=>some n|false=>none
 |.bool,.bool b=>some b
 |.str,.string s=>some s
 |.ptr,.pointer p=>some p
 |.slice,.slice p n c=>some ⟨p,n,c⟩
 |.map,.map r=>some r
 |.raw,v=>some v
 |.addr,.pointer (some a)=>some a
 |_,_=>none
def C1.lH{c:C1}{v:bE}{x:c.ty}(h:c.un v=some x):v=c.mk x:=by
 cases c<;>cases v<;>simp only[C1.un,reduceCtorEq]at h
 case int.int k k' n=>
  split at h;·rename_i e;simp only[gE]at e;subst e;exact eK (Value.int k) (cU h)
  ·cases h
 case bool.bool=>exact eK Value.bool (cU h)
 case str.string=>exact eK Value.string (cU h)
 case ptr.pointer=>exact eK Value.pointer (cU h)
 case map.map=>exact eK Value.map (cU h)
 case slice.slice p n c=>have h':(⟨p,n,c⟩:Sl)=x:=cU h;subst h';rfl
 case addr.pointer p=>cases p with|none=>cases h|some a=>exact eK (λa=>Value.pointer (some a)) (cU h)
 all_goals exact cU h
inductive K1 where
 |one (c:C1)|agg (l:bA C1)|arr (n:Nat) (k:IntKind)
inductive Kd where
 |k (x:K1)|je (l:bA K1)
def z2:bA C1->cb bE->(cb bE->Prop)->Prop
 |[],acc,f=>f acc
 |c::l,acc,f=>∃x:c.ty,z2 l (acc.push (c.mk x)) f
def K1.ex:K1->(bE->Prop)->Prop
 |.one c,f=>∃x:c.ty,f (c.mk x)
 |.agg l,f=>z2 l #[] (λcs=>f (.agg cs))
 |.arr n k,f=>∃xs:bR,xs.length=n/\f (.agg (xs.map (Value.int k)).toArray)
def wo:bA K1->cb bE->(cb bE->Prop)->Prop
 |[],acc,f=>f acc
 |k::l,acc,f=>k.ex λv=>wo l (acc.push v) f
def Kd.ex:Kd->(bE->Prop)->Prop
 |.k x,f=>x.ex f
 |.je l,f=>wo l #[] (λvs=>f (.tuple vs))
def Gz:∀(l:bA C1) (acc:cb bE) (f:cb bE->Prop),z2 l acc f->∃vs,f vs
 |[],acc,_,h=>⟨acc,h⟩
 |_::l,_,f,⟨_,h⟩=>Gz l _ f h
def K1.eT{k:K1}{f:bE->Prop}(h:k.ex f):∃v,f v:=by
 cases k with
 |one c=>obtain⟨x,h⟩:=h;exact⟨_,h⟩
 |agg l=>obtain⟨v,h⟩:=Gz l _ _ h;exact⟨_,h⟩
 |arr n k=>obtain⟨x,_,h⟩:=h;exact⟨_,h⟩
def z6:∀(l:bA K1) (acc:cb bE) (f:cb bE->Prop),wo l acc f->∃vs,f vs
 |[],acc,_,h=>⟨acc,h⟩
 |_::l,_,f,h=>let ⟨_,h⟩:=K1.eT h;z6 l _ f h
def Kd.eT{k:Kd}{f:bE->Prop}(h:k.ex f):∃v,f v:=by
 cases k with
 |k x=>exact K1.eT h
 |je l=>obtain⟨v,h⟩:=z6 l _ _ h;exact⟨_,h⟩
def ei(P:cP)(t:cf):bW Bool:=
 match P.underlying t with
 |some (.struct _)=>some true
 |some (.array _ _)=>some true
 |some _=>some false
 |none=>none
def ir(P:cP)(t:cf):bW Nat:=
 match P.info? t with
 |some i=>some i.size
 |none=>none
def pa(P:cP)(t:cf):bW bE:=
 match P.info? t with
 |some i=>i.zero
 |none=>none
section
variable{P:cP}{w:bH}
def wq{t:cf}{z:bE}(h:pa P t=some z):(zeroValue t).run P w=.ok z w:=by
 unfold pa at h;split at h;·rename_i i a;simp[zeroValue,typeInfo,a,h]
 ·cases h
def hW{t:cf}{d:TypeDesc}(h:P.underlying t=some d):(underlying t).run P w=.ok d w:=by
 simp[underlying,h]
def tL{t:cf}{b:Bool}(h:ei P t=some b):(isAgg t).run P w=.ok b w:=by
 unfold ei at h;cases hu:P.underlying t with
 |none=>simp[hu]at h
 |some d=>cases d<;>simp[hu]at h<;>subst h<;>simp[isAgg,hW hu]
def run_sizeOf{t:cf}{n:Nat}(h:ir P t=some n):(sizeOf t).run P w=.ok n w:=by
 unfold ir at h;cases hu:P.info? t with
 |none=>simp[hu]at h
 |some i=>simp[hu]at h;subst h;simp[sizeOf,typeInfo,hu]
end
structure Grow(w w':bH):Prop where
 os:w'.os=w.os
 tape:w'.tape=w.tape
 output:w'.output=w.output
 size:w.heap.size<=w'.heap.size
 heap:∀b,b<w.heap.size->w'.heap[b]?=w.heap[b]?
def Grow.refl(w:bH):Grow w w:=⟨rfl,rfl,rfl,ep _,λ_ _=>rfl⟩
def Grow.trans{a b c:bH}(h:Grow a b)(h':Grow b c):Grow a c:=
 ⟨h'.os.trans h.os,h'.tape.trans h.tape,h'.output.trans h.output,mJ h.size h'.size,λx hx=>(h'.heap x (lG hx h.size)).trans (h.heap x hx)⟩
def Grow.drew(w:bH):Grow w w.drew:=⟨rfl,rfl,rfl,ep _,λ_ _=>rfl⟩
def Grow.alloc(w:bH)(o:Obj):Grow w (w.alloc o):=
 ⟨rfl,rfl,rfl,by show w.heap.size<=(w.heap.push o).size;simp,λb hb=>by show(w.heap.push o)[b]?=w.heap[b]?;rw[Array.getElem?_push,bJ (Nat.ne_of_lt hb)]⟩
def Grow.cell{w w':bH}(h:Grow w w'){a:Addr}{v:bE}(b:w.cell? a=some v):w'.cell? a=some v:=by
 unfold World.cell? at b ⊢;cases hb:w.heap[a.block]? with
 |none=>simp[hb]at b
 |some o=>
  have c:a.block<w.heap.size:=by
   rcases hN a.block w.heap.size with h|h;·exact h
   ·simp[vW h]at hb
  rw[h.heap _ c,hb];simpa[hb]using b
def z7:bA C1->Addr->Nat->cb bE->bH->(cb bE->Prop)->Prop
 |[],_,_,acc,_,f=>f acc
 |c::l,a,i,acc,w,f=>∃x:c.ty,w.cell? (a.add i)=some (c.mk x)/\z7 l a (i+1) (acc.push (c.mk x)) w f
def Ty(n:Nat)(k:IntKind)(a:Addr)(w:bH)(f:bE->Prop):Prop:=
 ∃xs:bR,xs.length=n/\(∀i,i<n->w.cell? (a.add i)=some (.int k (xs.getD i 0)))/\f (.agg (xs.map (Value.int k)).toArray)
def Aa(P:cP)(k:K1)(t:cf)(a:Addr)(w:bH)(f:bE->Prop):Prop:=
 match k with
 |.one c=>match ei P t with
  |some false=>∃x:c.ty,w.cell? a=some (c.mk x)/\f (c.mk x)
  |_=>False
 |.agg l=>match ei P t,ir P t with
  |some true,some n=>bif n==l.length then z7 l a 0 #[] w (λcs=>f (.agg cs))else False
  |_,_=>False
 |.arr n k=>match ei P t,ir P t with
  |some true,some m=>bif m==n then Ty n k a w f else False
  |_,_=>False
def GA{P:cP}:∀(l:bA C1) (a:Addr) (i:Nat) (acc:cb bE) (w:bH) (f:cb bE->Prop),z7 l a i acc w f->
  ∃vs,(∀w',Grow w w'->(loadCellsFrom a i l.length acc).run P w'=.ok vs w')/\f vs
 |[],_,_,acc,_,_,h=>⟨acc,λ_ _=>by simp[loadCellsFrom],h⟩
 |c::l,a,i,acc,w,f,⟨x,hx,h⟩=>by
  obtain⟨vs,h1,h2⟩:=GA (P:=P) l a (i+1) _ w f h;exact⟨vs,λw' g=>by simp[loadCellsFrom,g.cell hx,h1 w' g],h2⟩
def GB{P:cP}{k:IntKind}{a:Addr}{w:bH}(xs:bR):∀(m i:Nat) (acc:cb bE),i+m=xs.length->
  (∀j,j<xs.length->w.cell? (a.add j)=some (.int k (xs.getD j 0)))->
  (loadCellsFrom a i m acc).run P w=.ok (acc++((xs.drop i).map (Value.int k)).toArray) w
 |0,i,acc,c,_=>by
  have:xs.drop i= []:=by simp;omega
  simp[loadCellsFrom,this]
 |m+1,i,acc,c,h=>by
  have b:i<xs.length:=by omega
  have d:=GB (P:=P) xs m (i+1) (acc.push (.int k (xs.getD i 0))) bu h;simp only[loadCellsFrom,Sem.run_bind,run_load,h i b,Result.andThen_ok,d];congr 1;rw[show(List.drop i xs).map (Value.int k)=Value.int k (xs.getD i 0)::(List.drop (i+1) xs).map (Value.int k) by
   have e:xs.getD i 0=xs[i]:=by simp[List.getD,b]
   rw[e,lD b,kd]]
  apply Array.ext';simp only[Array.toList_append,Array.toList_push,dm,List.singleton_append]
def GC{P:cP}{k:K1}{t:cf}{a:Addr}{w:bH}{f:bE->Prop}(h:Aa P k t a w f):
  ∃v,(∀w',Grow w w'->(loadVar t a).run P w'=.ok v w')/\f v:=by
 unfold Aa at h;cases k with
 |one c=>
  dsimp only at h;split at h
  ·rename_i e;obtain⟨x,hx,hf⟩:=h;exact⟨_,λw' g=>by simp[loadVar,tL e,g.cell hx],hf⟩
  ·exact h.elim
 |agg l=>
  dsimp only at h;split at h
  ·rename_i n b d;cases hn:n==l.length with
   |false=>simp[hn]at h
   |true=>
    rw[hn,hM]at h;simp at hn;subst hn;obtain⟨vs,h1,h2⟩:=GA (P:=P) l a 0 #[] w _ h;exact⟨_,λw' g=>by simp[loadVar,tL b,run_sizeOf d,loadCells,h1 w' g],h2⟩
  ·exact h.elim
 |arr n k=>
  dsimp only at h;split at h
  ·rename_i m b d;cases hn:m==n with
   |false=>simp[hn]at h
   |true=>
    rw[hn,hM]at h;simp at hn;subst hn;obtain⟨xs,h1,h2,i⟩:=h;subst h1;exact⟨_,λw' g=>by simp[loadVar,tL b,run_sizeOf d,loadCells,GB (P:=P) xs xs.length 0 #[] bu (λj o=>g.cell (h2 j o))],i⟩
  ·exact h.elim
def NN(p:ch)(f:Addr->Prop):Prop:=∃a,p=some a/\f a
@[simp] theorem aKV(a:Addr)(f:Addr->Prop):NN (some a) f↔f a:=by simp[NN]
@[simp] theorem aKU(f:Addr->Prop):NN none f↔False:=by simp[NN]
def p5(x:bE)(f:bE->Prop):Prop:=
 match x with
 |.pointer p=>NN p λa=>f (.pointer (some a))
 |.func (.func g) fi ca=>f (.func (.func g) fi ca)
 |_=>False
def p6(P:cP)(s:cf)(i:Nat):bW Nat:=
 match P.underlying s with
 |some (.struct fs)=>match fs[i]? with
  |some fd=>match ir P fd.type with
   |some (_+1)=>some fd.offset
   |_=>none
  |none=>none
 |_=>none
def Ab(P:cP)(s:cf)(x:bE)(i:Nat)(f:bE->Prop):Prop:=
 match x with
 |.pointer (some a)=>match p6 P s i with
  |some o=>f (.pointer (some (a.add o)))
  |none=>False
 |_=>False
def pb(P:cP)(k:K1)(t:cf)(x:bE)(w:bH)(f:bE->Prop):Prop:=
 match x with
 |.pointer (some a)=>Aa P k t a w f
 |_=>False
def Ac(c x y:bE)(f:bE->Prop):Prop:=
 match c,x,y with
 |.bool b,.bool p,.bool q=>f (.bool (bif b then p else q))
 |.bool true,x,_=>f x
 |.bool false,_,y=>f y
 |_,_,_=>False
def bU(k:IntKind)(m n:Int):Int:=k.wrap (BitVec.ofInt k.bits m &&& BitVec.ofInt k.bits n).toNat
def iU(k:IntKind)(m n:Int):Int:=k.wrap (BitVec.ofInt k.bits m ||| BitVec.ofInt k.bits n).toNat
def oo(k:IntKind)(m n:Int):Int:=k.wrap (BitVec.ofInt k.bits m ^^^ BitVec.ofInt k.bits n).toNat
def wu(k:IntKind)(m n:Int):Int:=k.wrap (BitVec.ofInt k.bits m &&& ~~~ BitVec.ofInt k.bits n).toNat
def oq(k:IntKind)(n:Int):Int:=k.wrap (BitVec.ofInt k.bits (if k.signed then -1 else k.max) ^^^ BitVec.ofInt k.bits n).toNat
def p7(op:BinOp)(k:IntKind)(m:Int)(k':IntKind)(n:Int)(f:bE->Prop):Prop:=
 match op with
 |.shl=>0<=n/\f (.int k (k.wrap (m*2^(min n.toNat k.bits))))
 |.shr=>0<=n/\f (.int k (m.fdiv (2^(min n.toNat k.bits))))
 |op=>match decide (k=k')with
  |false=>False
  |true=>match op with
   |.add=>f (.int k (k.wrap (m+n)))
   |.sub=>f (.int k (k.wrap (m-n)))
   |.mul=>f (.int k (k.wrap (m*n)))
   |.quo=>n≠0/\f (.int k (k.wrap (m.tdiv n)))
   |.rem=>n≠0/\f (.int k (m.tmod n))
   |.and=>f (.int k (bU k m n))
   |.or=>f (.int k (iU k m n))
   |.xor=>f (.int k (oo k m n))
   |.andNot=>f (.int k (wu k m n))
   |.eql=>f (.bool (m==n))
   |.neq=>f (.bool (m !=n))
   |.lss=>f (.bool (m<n))
   |.leq=>f (.bool (m<=n))
   |.gtr=>f (.bool (m>n))
   |.geq=>f (.bool (m≥n))
   |_=>False
def p8(op:BinOp)(s t:ByteArray)(f:bE->Prop):Prop:=
 match op with
 |.add=>s.size+t.size<=9223372036854775807/\f (.string (s++t))
 |.eql=>f (.bool (s.toList==t.toList))
 |.neq=>f (.bool (!(s.toList==t.toList)))
 |.lss=>f (.bool (Op.bytesLess s.toList t.toList))
 |_=>False
def wv(P:cP)(t:cf):Bool:=match P.underlying t with|some .bool=>true|_=>false
def wx(P:cP)(t:cf):Bool:=match P.underlying t with|some (.pointer _)=>true|_=>false
def tM(P:cP)(t:cf):Bool:=match P.underlying t with|some (.slice _)=>true|_=>false
def wy(P:cP)(t:cf):Bool:=match P.underlying t with|some (.map _ _)=>true|_=>false
def kh(P:cP)(op:BinOp)(t:cf)(x y:bE)(b:Bool):Prop:=
 (∀a c w,(eqGuard op t a c x y).run P w=.ok () w)/\∀w,(binOp op t x y).run P w=.ok (.bool b) w
def wz(P:cP)(op:BinOp)(t:cf)(x y:bE)(f:bE->Prop):Prop:=
 match op with
 |.eql=>∃b:Bool,kh P .eql t x y b/\f (.bool b)
 |.neq=>∃b:Bool,kh P .neq t x y b/\f (.bool b)
 |_=>False
def Tz(P:cP)(op:BinOp)(t:cf)(x y:bE)(f:bE->Prop):Prop:=
 match x,y with
 |.int k m,.int k' n=>p7 op k m k' n f
 |.string s,.string u=>p8 op s u f
 |.bool p,.bool q=>match wv P t,op with
  |true,.eql=>f (.bool (p==q))
  |true,.neq=>f (.bool (!(p==q)))
  |_,_=>False
 |.pointer p,.pointer none=>match wx P t,op with
  |true,.eql=>f (.bool p.isNone)
  |true,.neq=>f (.bool (!p.isNone))
  |_,_=>False
 |.slice p _ _,.slice none _ _=>match tM P t,op with
  |true,.eql=>f (.bool p.isNone)
  |true,.neq=>f (.bool (!p.isNone))
  |_,_=>False
 |.map r,.map none=>match wy P t,op with
  |true,.eql=>f (.bool r.isNone)
  |true,.neq=>f (.bool (!r.isNone))
  |_,_=>False
 |x,y=>wz P op t x y f
def tO(P:cP)(op:BinOp)(t:cf)(x y:bE)(f:bE->Prop):Prop:=
 match y with
 |.nilFunc=>wz P op t x .nilFunc f
 |y=>Tz P op t x y f
def Ad(op:UnOp)(x:bE)(f:bE->Prop):Prop:=
 match op,x with
 |.not,.bool b=>f (.bool !b)
 |.neg,.int k n=>f (.int k (k.wrap (0-n)))
 |.xor,.int k n=>f (.int k (oq k n))
 |_,_=>False
def aKX(P:cP)(d:cf)(x:bE)(f:bE->Prop):Prop:=
 match P.underlying d,x with
 |some (.int k),.int _ n=>f (.int k (k.wrap n))
 |some .string,.string s=>f (.string s)
 |_,_=>False
def pc(P:cP)(t:cf):Bool:=match P.underlying t with|some .string=>true|_=>false
def TA(s:ByteArray)(i:Int)(f:Int->Prop):Prop:=0<=i/\∃b:UInt8,s[i.toNat]?=some b/\f (b.toNat:Int)
def Ae(P:cP)(t:cf)(x i:bE)(f:bE->Prop):Prop:=
 match x,i with
 |.string s,.int _ i=>match pc P t with
  |true=>TA s i λb=>f (.int .u8 b)
  |false=>False
 |_,_=>False
def l6(P:cP)(t:cf):bW (Nat×Nat):=
 match P.underlying t with
 |some (.array n e)=>match ir P e with
  |some m=>some (n,m)
  |none=>none
 |_=>none
def ot(P:cP)(t:cf):bW Nat:=
 match P.underlying t with
 |some (.slice e)=>ir P e
 |_=>none
def cM(p:ch)(n:Nat)(i:Int)(m:Nat)(f:Addr->Prop):Prop:=∃a,p=some a/\(0<=i/\i<n)/\f (a.add (i.toNat*m))
def Af(P:cP)(t:cf)(x i:bE)(f:bE->Prop):Prop:=
 match x,i with
 |.slice p n _,.int _ i=>match ot P t with
  |some m=>cM p n i m λa=>f (.pointer (some a))
  |none=>False
 |.pointer p,.int _ i=>match l6 P t with
  |some (n,m)=>cM p n i m λa=>f (.pointer (some a))
  |none=>False
 |_,_=>False
def Ag(P:cP)(t:cf)(cs:cb bE)(off:Nat):bW bE:=
 match ei P t,ir P t with
 |some true,some n=>some (.agg (cs.extract off (off+n)))
 |some false,_=>cs[off]?
 |_,_=>none
def Ah(P:cP)(t:cf)(x:bE)(i:Nat)(f:bE->Prop):Prop:=
 match P.underlying t,x with
 |some (.struct fs),.agg cs=>match fs[i]? with
  |some fd=>match Ag P fd.type cs fd.offset with
   |some v=>f v
   |none=>False
  |none=>False
 |_,_=>False
def Ai(x:bE)(i:Nat)(f:bE->Prop):Prop:=
 match x with
 |.tuple vs=>match vs[i]? with
  |some v=>f v
  |none=>False
 |_=>False
def tP(n m:Nat)(b a d:bW bE)(f:Nat->Nat->Nat->Prop):Prop:=
 let low (h c:Nat):Prop:=match b with
  |none=>f 0 h c
  |some (.int _ l)=>(0<=l/\l<=h)/\f l.toNat h c
  |_=>False
 match a,d with
 |none,none=>low n m
 |some (.int _ h),none=>(0<=h/\h<=m)/\low h.toNat m
 |some (.int _ h),some (.int _ c)=>(0<=c/\c<=m)/\(0<=h/\h<=c.toNat)/\low h.toNat c.toNat
 |_,_=>False
def gj(a:ch)(l c m:Nat):ch:=if c=l then a else a.map (·.add (l*m))
def nd(a:Addr)(l c m:Nat):ch:=some (if c=l then a else a.add (l*m))
def Aj(P:cP)(t:cf)(x:bE)(d b e:bW bE)(f:bE->Prop):Prop:=
 match x with
 |.slice p n c=>match ot P t with
  |some m=>tP n c d b e λl h c=>f (.slice (gj p l c m) (h-l) (c-l))
  |none=>False
 |.string s=>match pc P t,e with
  |true,none=>tP s.size s.size d b none λl h _=>f (.string (s.extract l h))
  |_,_=>False
 |.pointer (some a)=>match l6 P t with
  |some (n,m)=>tP n n d b e λl h c=>f (.slice (nd a l c m) (h-l) (c-l))
  |none=>False
 |_=>False
def min1(x y:Int):Int:=if y<x then y else x
def ea(x y:Int):Int:=if y>x then y else x
def GD(P:cP)(b:Builtin)(t:cf)(args:bA bE)(f:bE->Prop):Prop:=
 match b,args with
 |.len,[.slice _ n _]=>match tM P t with|true=>f (.int .i64 n)|false=>False
 |.len,[.string s]=>match pc P t with|true=>f (.int .i64 s.size)|false=>False
 |.len,[.pointer _]=>match P.underlying t with
  |some (.pointer e)=>match l6 P e with|some (n,_)=>f (.int .i64 n)|none=>False
  |_=>False
 |.len,[.agg _]=>match l6 P t with
  |some (n,_)=>f (.int .i64 n)
  |none=>False
 |.min,[.int k x,.int _ y]=>f (.int k (min1 x y))
 |.max,[.int k x,.int _ y]=>f (.int k (ea x y))
 |_,_=>False
def Ak(P:cP)(b:Builtin)(ts:cb cf)(args:cb bE)(f:bE->Prop):Prop:=
 match ts[0]? with
 |some t=>GD P b t args.toList f
 |none=>False
def GF(P:cP)(t:cf)(ps:cb (Nat×bE)):bW (cb bE):=
 match pa P t,P.underlying t with
 |some z,some (.struct fs)=>match fs.toList.mapM λf=>(ir P f.type).map λn=>(f.offset,n)with
  |some l=>Instr.fill (λi=>l[i]?) z.cells ps.toList
  |none=>none
 |some z,some (.array _ e)=>match ir P e with
  |some m=>Instr.fill (λi=>some (i*m,m)) z.cells ps.toList
  |none=>none
 |_,_=>none
def tQ(P:cP)(t:cf)(ps:cb (Nat×bE))(f:bE->Prop):Prop:=
 match GF P t ps with
 |some cs=>f (.agg cs)
 |none=>False
def GG(P:cP)(t:cf):bW Bool:=match P.underlying t with|some (.interface _)=>some true|some _=>some false|none=>none
def jw:Op->Bool
 |.load .. | .lookup .. | .convert .. =>true
 |_=>false
def gr(P:cP)(t:cf)(m k:bE)(ok:Bool)(w:bH)(v:bE):Prop:=∀w',Grow w w'->(Instr.lookup t m k ok).run P w'=.ok v w'
def tR(P:cP)(s d:cf)(x:bE)(w:bH)(v:bE):Prop:=∀w',Grow w w'->(convert s d x).run P w'=.ok v w'
def Am(P:cP)(s d:cf)(x:bE)(w:bH)(f:bE->Prop):Prop:=
 match P.underlying d,x with
 |some (.int k),.int _ n=>f (.int k (k.wrap n))
 |some .string,.string t=>f (.string t)
 |some .string,.slice p n c=>∃l:ByteArray,tR P s d (.slice p n c) w (.string l)/\f (.string l)
 |_,_=>False
def vQ(P:cP)(τ:cf->K1)(ρ:cf->Kd)(o:Oper)(ev:Operand->bE)(w:bH)(f:bE->Prop):Prop:=
 match o.op with
 |.move x=>f (ev x)
 |.assign x=>f (ev x)
 |.pick c x y=>Ac (ev c) (ev x) (ev y) f
 |.nilCheck x=>p5 (ev x) f
 |.fieldAddr s x i=>Ab P s (ev x) i f
 |.load t x=>pb P (τ t) t (ev x) w f
 |.binOp op t x y _=>tO P op t (ev x) (ev y) f
 |.unOp op _ x=>Ad op (ev x) f
 |.convert s d x=>Am P s d (ev x) w f
 |.index t x i=>Ae P t (ev x) (ev i) f
 |.indexAddr t x i=>Af P t (ev x) (ev i) f
 |.field t x i=>Ah P t (ev x) i f
 |.extract t i=>Ai (ev t) i f
 |.slice t x e a g=>Aj P t (ev x) (e.map ev) (a.map ev) (g.map ev) f
 |.build t ps=>tQ P t (ps.map λ(i,x)=>(i,ev x)) f
 |.makeInterface t x=>match GG P t with|some false=>f (.iface t (ev x))|_=>False
 |.lookup t m k ok=>(ρ o.type).ex λv=>gr P t (ev m) (ev k) ok w v/\f v
 |.makeFunc fn fi ca=>f (.func fn (fi.map ev) (ca.map ev))
 |.call {callee:=.builtin b,args,argTypes} =>Ak P b argTypes (args.map ev) f
 |_=>False
inductive Tr where
 |nil
 |node (v:bE) (l r:Tr)
noncomputable def Tr.get(T:Tr):Nat->bE:=
 Tr.rec (λ_=>undef) (λv _ _ gl a n=>bif Nat.beq n 0 then v else bif Nat.beq (n%2) 1 then gl (n/2)else a (n/2-1)) T
noncomputable def Tr.jF(f:Nat):Tr->Nat->bE->Tr:=
 Nat.rec (λT _ _=>T) (λ_ a T n x=>
  Tr.rec (bif Nat.beq n 0 then .node x .nil .nil else bif Nat.beq (n%2) 1 then .node undef (a .nil (n/2) x) .nil else .node undef .nil (a .nil (n/2-1) x))
   (λv l r _ _=>bif Nat.beq n 0 then .node x l r else bif Nat.beq (n%2) 1 then .node v (a l (n/2) x) r else .node v l (a r (n/2-1) x)) T) f
noncomputable def Tr.put(T:Tr)(d:bW Nat)(v:bE):Tr:=match d with|some d=>Tr.jF 13 T d v|none=>T
def Tr.get_nil(n:Nat):Tr.get .nil n=undef:=rfl
def Tr.fq(v:bE)(l r:Tr)(n:Nat):Tr.get (.node v l r) n=bif Nat.beq n 0 then v else bif Nat.beq (n%2) 1 then l.get (n/2)else r.get (n/2-1):=rfl
def Tr.l7(f:Nat)(v:bE)(l r:Tr)(n:Nat)(x:bE):Tr.jF (f+1) (.node v l r) n x=
  bif Nat.beq n 0 then .node x l r else bif Nat.beq (n%2) 1 then .node v (Tr.jF f l (n/2) x) r else .node v l (Tr.jF f r (n/2-1) x):=rfl
def j3(a b:Nat):Nat.beq a b=(a==b):=by rw[Bool.eq_iff_iff];simp
def Tr.iC:∀(f:Nat) (T:Tr) (n m:Nat) (x:bE),n+1<2^f->(Tr.jF f T n x).get m=if m=n then x else T.get m
 |0,_,_,_,_,h=>by simp at h
 |f+1,T,n,m,x,h=>by
  have e:Tr.jF (f+1) T n x=match T with
   |.nil=>Tr.jF (f+1) (.node undef .nil .nil) n x
   |T=>Tr.jF (f+1) T n x:=by cases T<;>rfl
  have g:∀k,(Tr.nil).get k=(Tr.node undef .nil .nil).get k:=by
   intro k;rw[Tr.fq,Tr.get_nil];cases Nat.beq k 0<;>cases Nat.beq (k%2) 1<;>rfl
  have key:∀(v:bE) (l r:Tr),(Tr.jF (f+1) (.node v l r) n x).get m=if m=n then x else(Tr.node v l r).get m:=by
   intro v l r;rw[Tr.l7];have h2:2^(f+1)=2^f+2^f:=by rw[p3];omega
   by_cases hn:n=0
   ·subst hn;simp only[j3,tB,hM];rw[Tr.fq,Tr.fq];by_cases hm:m=0;·subst hm;simp[j3]
    ·have:(m==0)=false:=by simpa using hm
     simp only[j3,this,hh,bJ hm]
   ·have i:Nat.beq n 0=false:=by rw[j3];simpa using hn
    rw[i,hh];by_cases hp:n%2=1
    ·have d:Nat.beq (n%2) 1=true:=by rw[j3];simpa using hp
     rw[d,hM,Tr.fq,Tr.fq,Tr.iC f l (n/2) (m/2) x bu];by_cases hm:m=0;·subst hm;rw[bJ (by omega:¬ 0=n)];rfl
     ·have c:Nat.beq m 0=false:=by rw[j3];simpa using hm
      rw[c,hh,hh];by_cases b:m%2=1
      ·have a:Nat.beq (m%2) 1=true:=by rw[j3];simpa using b
       rw[a,hM,hM];by_cases e:m=n;·subst e;simp
       ·rw[bJ e,bJ (by omega:¬ m/2=n/2)]
      ·have a:Nat.beq (m%2) 1=false:=by rw[j3];simpa using b
       rw[a,hh,hh,bJ (λe:m=n=>b (by rw[e];exact hp))]
    ·have d:Nat.beq (n%2) 1=false:=by rw[j3];simpa using hp
     rw[d,hh,Tr.fq,Tr.fq,Tr.iC f r (n/2-1) (m/2-1) x bu];by_cases hm:m=0;·subst hm;rw[bJ (by omega:¬ 0=n)];rfl
     ·have c:Nat.beq m 0=false:=by rw[j3];simpa using hm
      rw[c,hh,hh];by_cases b:m%2=1
      ·have a:Nat.beq (m%2) 1=true:=by rw[j3];simpa using b
       rw[a,hM,hM,bJ (λe:m=n=>hp (by rw[<- e];exact b))]
      ·have a:Nat.beq (m%2) 1=false:=by rw[j3];simpa using b
       rw[a,hh,hh];by_cases e:m=n;·subst e;simp
       ·rw[bJ e,bJ (by omega:¬ m/2-1=n/2-1)]
  cases T with
  |nil=>rw[g m];exact key _ _ _
  |node v l r=>exact key v l r
def Tr.dI(T:Tr)(d m:Nat)(v:bE)(h:d<8000):(T.put (some d) v).get m=if m=d then v else T.get m:=
 Tr.iC 13 T d m v bu
noncomputable def Tr.ev(T:Tr):Operand->bE
 |.tmp t=>T.get t
 |.const v=>v
 |.global g=>.pointer (some ⟨g,0,none⟩)
 |.func f=>.func (.func f) #[] #[]
end Go.Vc
namespace Go.Vc
open Go
section
variable{P:cP}{w:bH}
def TB{c x y:bE}{f:bE->Prop}(h:Ac c x y f):∃v,(∀w,(do pure (Next.value (if <- asBool c then x else y)):Sem Next).run P w=.ok (.value v) w)/\f v:=by
 unfold Ac at h;split at h;·rename_i b p q;cases b<;>exact⟨_,λw=>by simp[asBool],h⟩
 ·exact⟨_,λw=>by simp[asBool],h⟩
 ·exact⟨_,λw=>by simp[asBool],h⟩
 ·exact h.elim
def TC{op:BinOp}{t:cf}{k k':IntKind}{m n:Int}{f:bE->Prop}(h:p7 op k m k' n f):
  ∃v,(∀w,(binOp op t (.int k m) (.int k' n)).run P w=.ok v w)/\f v:=by
 unfold p7 at h;split at h
 ·obtain⟨a,h⟩:=h;refine⟨_,λw=>?_,h⟩;simp[binOp,Op.shift,show ¬ n<0 by omega]
 ·obtain⟨a,h⟩:=h;refine⟨_,λw=>?_,h⟩;simp[binOp,Op.shift,show ¬ n<0 by omega]
 ·split at h;·exact h.elim
  ·rename_i e;simp only[gE]at e;subst e;split at h<;>first
    |exact h.elim
    |(obtain⟨a,h⟩:=h;exact⟨_,λw=>by simp[binOp,Op.intDiv,a],h⟩)
    |exact⟨_,λw=>by simp[binOp,Op.intArith,Op.intBits,Op.intCmp,bU,iU,oo,wu],h⟩
def TD{op:BinOp}{t:cf}{s u:ByteArray}{f:bE->Prop}(h:p8 op s u f):
  ∃v,(∀w,(binOp op t (.string s) (.string u)).run P w=.ok v w)/\f v:=by
 unfold p8 at h;split at h
 ·obtain⟨a,h⟩:=h;refine⟨_,λw=>?_,h⟩;have:¬ ((s.size+u.size:Nat):Int)>i64.max:=by simp[IntKind.max,IntKind.bits,IntKind.signed];omega
  simp only[binOp,Op.stringOp,bJ this,Sem.run_pure]
 ·exact⟨_,λw=>by simp[binOp,Op.stringOp],h⟩
 ·exact⟨_,λw=>by simp[binOp,Op.stringOp],h⟩
 ·exact⟨_,λw=>by simp[binOp,Op.stringOp],h⟩
 ·exact h.elim
def Ao(a b:bE):Prop:=match a,b with | .nilIface,.nilIface=>False | .agg _,.agg _=>False|_,_=>True
def rO{op:BinOp}{t:cf}{x y:Operand}{a b:bE}(h:Ao a b):
  (eqGuard op t x y a b).run P w=.ok () w:=by
 unfold eqGuard;cases op<;>cases a<;>cases b<;>first|exact h.elim|simp
def GH{t:cf}(h:wv P t=true):P.underlying t=some .bool:=by
 unfold wv at h;split at h<;>simp_all
def Ap{t:cf}(h:pc P t=true):P.underlying t=some .string:=by
 unfold pc at h;split at h<;>simp_all
def GI{t:cf}(h:wx P t=true):∃e,P.underlying t=some (.pointer e):=by
 unfold wx at h;split at h<;>simp_all
def Aq{t:cf}(h:tM P t=true):∃e,P.underlying t=some (.slice e):=by
 unfold tM at h;split at h<;>simp_all
def GJ{t:cf}(h:wy P t=true):∃e e',P.underlying t=some (.map e e'):=by
 unfold wy at h;split at h<;>simp_all
def rP{t:cf}{x y:bE}{b:Bool}(h:(Op.equalIn 10000 t x y).run P w=.ok b w):(Op.equal t x y).run P w=.ok b w:=h
def run_equal_bool{t:cf}{p q:Bool}(h:P.underlying t=some .bool):(Op.equal t (.bool p) (.bool q)).run P w=.ok (p==q) w:=by
 apply rP;rw[Op.equalIn];simp[hW h]
def GK{t e:cf}{p:ch}(h:P.underlying t=some (.pointer e)):(Op.equal t (.pointer p) (.pointer none)).run P w=.ok p.isNone w:=by
 apply rP;rw[Op.equalIn];cases p<;>simp[hW h]
def GL{t e:cf}{p:ch}{n c n' c':Nat}(h:P.underlying t=some (.slice e)):(Op.equal t (.slice p n c) (.slice none n' c')).run P w=.ok p.isNone w:=by
 apply rP;rw[Op.equalIn];cases p<;>simp[hW h]
def GM{t e e':cf}{r:bW Nat}(h:P.underlying t=some (.map e e')):(Op.equal t (.map r) (.map none)).run P w=.ok r.isNone w:=by
 apply rP;rw[Op.equalIn];cases r<;>simp[hW h]
def wA{op:BinOp}{t:cf}{x y:bE}{f:bE->Prop}(h:wz P op t x y f):
  (∀c d w,(eqGuard op t c d x y).run P w=.ok () w)/\∃v,(∀w,(binOp op t x y).run P w=.ok v w)/\f v:=by
 unfold wz at h;split at h;·obtain⟨b,⟨h1,h2⟩,a⟩:=h;exact⟨h1,_,h2,a⟩
 ·obtain⟨b,⟨h1,h2⟩,a⟩:=h;exact⟨h1,_,h2,a⟩
 ·exact h.elim
def TE{op:BinOp}{t:cf}{x y:bE}{f:bE->Prop}(h:tO P op t x y f):
  (∀a b w,(eqGuard op t a b x y).run P w=.ok () w)/\∃v,(∀w,(binOp op t x y).run P w=.ok v w)/\f v:=by
 cases x<;>cases y<;>try (exact wA h)
 case bool.bool p q=>
  refine⟨λ_ _ _=>rO trivial,?_⟩
  replace h:(match(generalizing:=false) wv P t,op with|true,.eql=>f (.bool (p==q))|true,.neq=>f (.bool (!(p==q)))|_,_=>False):=h
  split at h;·rename_i e;exact⟨_,λw=>by simp[binOp,run_equal_bool (GH e)],h⟩
  ·rename_i e;exact⟨_,λw=>by simp[binOp,run_equal_bool (GH e)],h⟩
  ·exact h.elim
 case int.int k m k' n=>exact⟨λ_ _ _=>rO trivial,TC h⟩
 case string.string s u=>exact⟨λ_ _ _=>rO trivial,TD h⟩
 case pointer.pointer p q=>
  cases q with
  |some q=>exact wA h
  |none=>
   refine⟨λ_ _ _=>rO trivial,?_⟩
   replace h:(match(generalizing:=false) wx P t,op with|true,.eql=>f (.bool p.isNone)|true,.neq=>f (.bool (!p.isNone))|_,_=>False):=h
   split at h;·rename_i e;obtain⟨_,e⟩:=GI e;exact⟨_,λw=>by simp[binOp,GK e],h⟩
   ·rename_i e;obtain⟨_,e⟩:=GI e;exact⟨_,λw=>by simp[binOp,GK e],h⟩
   ·exact h.elim
 case slice.slice p n c q n' c'=>
  cases q with
  |some q=>exact wA h
  |none=>
   refine⟨λ_ _ _=>rO trivial,?_⟩
   replace h:(match(generalizing:=false) tM P t,op with|true,.eql=>f (.bool p.isNone)|true,.neq=>f (.bool (!p.isNone))|_,_=>False):=h
   split at h;·rename_i e;obtain⟨_,e⟩:=Aq e;exact⟨_,λw=>by simp[binOp,GL e],h⟩
   ·rename_i e;obtain⟨_,e⟩:=Aq e;exact⟨_,λw=>by simp[binOp,GL e],h⟩
   ·exact h.elim
 case map.map r q=>
  cases q with
  |some q=>exact wA h
  |none=>
   refine⟨λ_ _ _=>rO trivial,?_⟩
   replace h:(match(generalizing:=false) wy P t,op with|true,.eql=>f (.bool r.isNone)|true,.neq=>f (.bool (!r.isNone))|_,_=>False):=h
   split at h;·rename_i e;obtain⟨_,_,e⟩:=GJ e;exact⟨_,λw=>by simp[binOp,GM e],h⟩
   ·rename_i e;obtain⟨_,_,e⟩:=GJ e;exact⟨_,λw=>by simp[binOp,GM e],h⟩
   ·exact h.elim
def TF{op:UnOp}{x:bE}{f:bE->Prop}(h:Ad op x f):∃v,(∀w,(Op.unary op x).run P w=.ok v w)/\f v:=by
 unfold Ad at h;split at h;·exact⟨_,λw=>by simp[Op.unary],h⟩
 ·exact⟨_,λw=>by simp[Op.unary,Op.intArith],h⟩
 ·exact⟨_,λw=>by simp[Op.unary,Op.intBits,oq],h⟩
 ·exact h.elim
def TG{o:Oper}{ev:Operand->bE}{x:Operand}{f:bE->Prop}(ho:o.op=.nilCheck x)(h:p5 (ev x) f):
  ∃v,(∀w,(execOp ev o).run P w=.ok (.value v) w)/\f v:=by
 unfold p5 at h;split at h
 ·rename_i p e;obtain⟨q,rfl,h⟩:=h;exact⟨_,λw=>by simp[execOp,ho,e],h⟩
 ·rename_i g fi ca e;exact⟨_,λw=>by simp[execOp,ho,e],h⟩
 ·exact h.elim
def TH{s:cf}{i o:Nat}(h:p6 P s i=some o):∃fs fd n,P.underlying s=some (.struct fs)/\fs[i]?=some fd/\ir P fd.type=some (n+1)/\fd.offset=o:=by
 unfold p6 at h;split at h
 ·rename_i fs a;split at h
  ·rename_i fd b;split at h
   ·rename_i n c;exact⟨fs,fd,n,a,b,c,cU h⟩
   ·cases h
  ·cases h
 ·cases h
def TI{s:cf}{x:bE}{i:Nat}{f:bE->Prop}(h:Ab P s x i f):∃v,(∀w,(Instr.fieldAt s x i).run P w=.ok v w)/\f v:=by
 unfold Ab at h;split at h
 ·rename_i a;split at h
  ·rename_i o e;obtain⟨fs,fd,n,b,c,d,rfl⟩:=TH e;exact⟨_,λw=>by simp[Instr.fieldAt,hW b,c,Instr.sureAddr,fieldPlace,run_sizeOf d],h⟩
  ·exact h.elim
 ·exact h.elim
def TJ{k:K1}{t:cf}{x:bE}{f:bE->Prop}(h:pb P k t x w f):∃v,(∀w',Grow w w'->(Instr.loadAt t x).run P w'=.ok v w')/\f v:=by
 unfold pb at h;split at h
 ·obtain⟨v,h1,h2⟩:=GC h;exact⟨v,λw' g=>by simp[Instr.loadAt,Instr.sureAddr,h1 w' g],h2⟩
 ·exact h.elim
def TK{s d:cf}{x:bE}{w:bH}{f:bE->Prop}(a:(P.underlying s).isSome=true)(h:Am P s d x w f):∃v,(∀w',Grow w w'->(convert s d x).run P w'=.ok v w')/\f v:=by
 obtain⟨b,a⟩:=kJ.1 a;unfold Am at h;split at h
 ·rename_i k k' n e;exact⟨_,λw _=>by simp[convert,hW a,hW e,Conv.intToInt],h⟩
 ·rename_i s e;exact⟨_,λw _=>by simp[convert,hW a,hW e],h⟩
 ·obtain⟨l,h1,h2⟩:=h;exact⟨_,h1,h2⟩
 ·exact h.elim
def TL{t:cf}{x i:bE}{f:bE->Prop}(h:Ae P t x i f):∃v,(∀w,(Instr.index t x i).run P w=.ok v w)/\f v:=by
 unfold Ae at h;split at h
 ·rename_i s k i;split at h
  ·rename_i e;obtain⟨a,b,hb,h⟩:=h;exact⟨_,λw=>by simp[Instr.index,asIntOf,hW (Ap e),a,hb],h⟩
  ·exact h.elim
 ·exact h.elim
def GN{t:cf}{m:Nat}(h:ot P t=some m):∃e,P.underlying t=some (.slice e)/\ir P e=some m:=by
 unfold ot at h;split at h;·rename_i e he;exact⟨e,he,h⟩
 ·cases h
def wB{t:cf}{n m:Nat}(h:l6 P t=some (n,m)):∃e,P.underlying t=some (.array n e)/\ir P e=some m:=by
 unfold l6 at h;split at h
 ·rename_i n' e he;split at h
  ·rename_i a hm;injection h with h;injection h with h1 h2;subst h1;subst h2
   exact⟨e,he,hm⟩
  ·cases h
 ·cases h
def TM{t:cf}{x i:bE}{f:bE->Prop}(h:Af P t x i f):∃v,(∀w,(Instr.indexAt t x i).run P w=.ok v w)/\f v:=by
 unfold Af at h;split at h
 ·rename_i p n c k i;split at h
  ·rename_i m e;obtain⟨e,b,d⟩:=GN e;obtain⟨a,rfl,hb,h⟩:=h;exact⟨_,λw=>by simp[Instr.indexAt,asIntOf,hW b,hb,run_sizeOf d],h⟩
  ·exact h.elim
 ·rename_i p k i;split at h
  ·rename_i n m e;obtain⟨e,b,d⟩:=wB e;obtain⟨a,rfl,hb,h⟩:=h;exact⟨_,λw=>by simp[Instr.indexAt,asIntOf,hW b,hb,run_sizeOf d,Instr.sureAddr],h⟩
  ·exact h.elim
 ·exact h.elim
def TN{t:cf}{cs:cb bE}{off:Nat}{v:bE}(h:Ag P t cs off=some v):(part t cs off).run P w=.ok v w:=by
 unfold Ag at h;split at h
 ·rename_i n a b;injection h with h;subst h
  simp[part,tL a,run_sizeOf b]
 ·rename_i a;simp[part,tL a,h]
 ·cases h
def TO{t:cf}{x:bE}{i:Nat}{f:bE->Prop}(h:Ah P t x i f):∃v,(∀w,(Instr.field t x i).run P w=.ok v w)/\f v:=by
 unfold Ah at h;split at h
 ·rename_i fs cs e;split at h
  ·rename_i fd a;split at h
   ·rename_i v b;exact⟨v,λw=>by simp[Instr.field,hW e,a,asAgg,TN b],h⟩
   ·exact h.elim
  ·exact h.elim
 ·exact h.elim
def TP{x:bE}{i:Nat}{f:bE->Prop}(h:Ai x i f):∃v,(∀w,(Instr.extract x i).run P w=.ok v w)/\f v:=by
 unfold Ai at h;split at h
 ·split at h;·rename_i v e;exact⟨v,λw=>by simp[Instr.extract,e],h⟩
  ·exact h.elim
 ·exact h.elim
def Ar{s:Bool}{n m:Nat}{e d g:bW bE}{f:Nat->Nat->Nat->Prop}(h:tP n m e d g f):
  ∃l k c,(∀w,(Instr.sliceBounds s n m e d g).run P w=.ok (l,k,c) w)/\f l k c:=by
 have bound:∀(w:bH) (k:IntKind) (i:Int) (y:Nat) (code:BoundsCode),0<=i/\i<=y->(Instr.sliceBound (.int k i) y code).run P w=.ok i.toNat w:=by
  intro w k i y code hb;simp[Instr.sliceBound,asIntOf,hb]
 unfold tP at h;dsimp only at h;split at h
 ·split at h;·exact⟨_,_,_,λw=>by simp[Instr.sliceBounds],h⟩
  ·obtain⟨hb,h⟩:=h;exact⟨_,_,_,λw=>by simp[Instr.sliceBounds,bound _ _ _ _ _ hb],h⟩
  ·exact h.elim
 ·obtain⟨hb,h⟩:=h;split at h;·exact⟨_,_,_,λw=>by simp[Instr.sliceBounds,bound _ _ _ _ _ hb],h⟩
  ·obtain⟨a,h⟩:=h;exact⟨_,_,_,λw=>by simp[Instr.sliceBounds,bound _ _ _ _ _ hb,bound _ _ _ _ _ a],h⟩
  ·exact h.elim
 ·obtain⟨hb,b,h⟩:=h;split at h;·exact⟨_,_,_,λw=>by simp[Instr.sliceBounds,bound _ _ _ _ _ hb,bound _ _ _ _ _ b],h⟩
  ·obtain⟨a,h⟩:=h;exact⟨_,_,_,λw=>by simp[Instr.sliceBounds,bound _ _ _ _ _ hb,bound _ _ _ _ _ b,bound _ _ _ _ _ a],h⟩
  ·exact h.elim
 ·exact h.elim
def TQ{t:cf}{x:bE}{i g j:bW bE}{f:bE->Prop}(h:Aj P t x i g j f):
  ∃v,(∀w,(Instr.sliceAt t x i g j).run P w=.ok v w)/\f v:=by
 unfold Aj at h;split at h
 ·rename_i p n c;split at h
  ·rename_i m e;obtain⟨e,b,d⟩:=GN e;obtain⟨l,k,c',hr,h⟩:=Ar (P:=P) (s:=true) h;exact⟨_,λw=>by simp only[Instr.sliceAt,Instr.slice,Sem.run_bind,hW b,Result.andThen_ok,hr,run_sizeOf d,Sem.run_pure,gj],h⟩
  ·exact h.elim
 ·rename_i s;split at h
  ·rename_i e;obtain⟨l,k,c',hr,h⟩:=Ar (P:=P) (s:=false) h;exact⟨_,λw=>by simp only[Instr.sliceAt,Instr.slice,Sem.run_bind,hW (Ap e),Result.andThen_ok,hr,Sem.run_pure,Tl,l2,gP],h⟩
  ·exact h.elim
 ·rename_i a;split at h
  ·rename_i n m e;obtain⟨e,b,d⟩:=wB e;obtain⟨l,k,c',hr,h⟩:=Ar (P:=P) (s:=false) h;exact⟨_,λw=>by simp only[Instr.sliceAt,Instr.sureAddr,Sem.run_bind,hW b,Result.andThen_ok,hr,run_sizeOf d,Sem.run_pure,nd],h⟩
  ·exact h.elim
 ·exact h.elim
def TR{b:Builtin}{ts:cb cf}{t:cf}{args:cb bE}{f:bE->Prop}(h:Ak P b ts args f):
  ∃v,(∀cs w,(builtin b ts t cs args).run P w=.ok (.value v) w)/\f v:=by
 unfold Ak at h;split at h
 ·rename_i t0 d;obtain⟨args⟩:=args;unfold GD at h;split at h
  ·split at h;·rename_i e;obtain⟨_,e⟩:=Aq e;exact⟨_,by intro cs w;simp_all[builtin,Builtin.len_,hW e,goInt],h⟩
   ·exact h.elim
  ·split at h;·rename_i e;exact⟨_,by intro cs w;simp_all[builtin,Builtin.len_,hW (Ap e),goInt],h⟩
   ·exact h.elim
  ·split at h
   ·rename_i c e;split at h;·rename_i n m a;obtain⟨_,a,_⟩:=wB a;exact⟨_,by intro cs w;simp_all[builtin,Builtin.len_,hW e,hW a,goInt],h⟩
    ·exact h.elim
   ·exact h.elim
  ·split at h;·rename_i e;obtain⟨_,e,_⟩:=wB e;exact⟨_,by intro cs w;simp_all[builtin,Builtin.len_,hW e,goInt],h⟩
   ·exact h.elim
  ·exact⟨_,by intro cs w;simp_all[builtin,Builtin.min_,Builtin.min2,min1],h⟩
  ·exact⟨_,by intro cs w;simp_all[builtin,Builtin.max_,Builtin.max2,ea],h⟩
  ·exact h.elim
 ·exact h.elim
def GO:∀(l:bA Field) (r:bA (Nat×Nat)),(l.mapM λf=>(ir P f.type).map λn=>(f.offset,n))=some r->
  (l.mapM λf=>(do pure (f.offset,<- sizeOf f.type):Sem (Nat×Nat))).run P w=.ok r w
 |[],r,h=>by simp at h;subst h;simp
 |f::l,r,h=>by
  rw[Gq]at h;cases a:ir P f.type with
  |none=>simp[a]at h
  |some n=>
   cases hl:l.mapM λf=>(ir P f.type).map λn=>(f.offset,n)with
   |none=>simp[a,hl]at h
   |some r'=>
    simp[a,hl]at h;subst h;have b:=GO l r' hl;simp only[Sem.run_bind,Sem.run_pure,Gq]at b ⊢;simp only[run_sizeOf a,Result.andThen_ok,b]
def TT{t:cf}{ps:cb (Nat×bE)}{f:bE->Prop}(h:tQ P t ps f):∃v,(∀w,(Instr.build t ps).run P w=.ok v w)/\f v:=by
 unfold tQ at h;split at h
 ·rename_i cs e;refine⟨_,λw=>?_,h⟩;unfold GF at e;split at e
  ·rename_i z fs a hu;split at e
   ·rename_i l hl;have hm:=GO (w:=w) _ _ hl;simp only[Instr.build,Sem.run_bind,wq a,Result.andThen_ok,hW hu,Array.mapM_eq_mapM_toList,Sem.run_map,hm];simp[e]
   ·cases e
  ·rename_i z n el a hu;split at e
   ·rename_i m hm;simp[Instr.build,wq a,hW hu,run_sizeOf hm,e]
   ·cases e
  ·cases e
 ·exact h.elim
def tS{τ:cf->K1}{ρ:cf->Kd}{o:Oper}{ev:Operand->bE}{f:bE->Prop}(a:∀s d x,o.op=.convert s d x->(P.underlying s).isSome=true)(h:vQ P τ ρ o ev w f):
  ∃v,(∀w',(jw o.op=true->Grow w w')->(execOp ev o).run P w'=.ok (.value v) w')/\f v:=by
 unfold vQ at h;split at h;·rename_i x ho;exact⟨_,λw' _=>by simp[execOp,ho],h⟩
 ·rename_i x ho;exact⟨_,λw' _=>by simp[execOp,ho],h⟩
 ·rename_i c x y ho;obtain⟨v,h1,h2⟩:=TB (P:=P) h;exact⟨v,λw' _=>by simpa[execOp,ho]using h1 w',h2⟩
 ·rename_i x ho;obtain⟨v,h1,h2⟩:=TG (P:=P) ho h;exact⟨v,λw' _=>h1 w',h2⟩
 ·rename_i s x i ho;obtain⟨v,h1,h2⟩:=TI h;exact⟨v,λw' _=>by simp[execOp,ho,h1],h2⟩
 ·rename_i t x ho;obtain⟨v,h1,h2⟩:=TJ h;exact⟨v,λw' g=>by simp[execOp,ho,h1 w' (g (by rw[ho];rfl))],h2⟩
 ·rename_i op t x y q ho;obtain⟨j,v,h1,h2⟩:=TE h;exact⟨v,λw' _=>by simp[execOp,ho,j,h1],h2⟩
 ·rename_i op t x ho;obtain⟨v,h1,h2⟩:=TF (P:=P) h;exact⟨v,λw' _=>by simp[execOp,ho,h1],h2⟩
 ·rename_i s d x ho;obtain⟨v,h1,h2⟩:=TK (a s d x ho) h;exact⟨v,λw' g=>by simp[execOp,ho,h1 w' (g (by rw[ho];rfl))],h2⟩
 ·rename_i t x i ho;obtain⟨v,h1,h2⟩:=TL h;exact⟨v,λw' _=>by simp[execOp,ho,h1],h2⟩
 ·rename_i t x i ho;obtain⟨v,h1,h2⟩:=TM h;exact⟨v,λw' _=>by simp[execOp,ho,h1],h2⟩
 ·rename_i t x i ho;obtain⟨v,h1,h2⟩:=TO h;exact⟨v,λw' _=>by simp[execOp,ho,h1],h2⟩
 ·rename_i t i ho;obtain⟨v,h1,h2⟩:=TP (P:=P) h;exact⟨v,λw' _=>by simp[execOp,ho,h1],h2⟩
 ·rename_i t x n l p ho;obtain⟨v,h1,h2⟩:=TQ h;exact⟨v,λw' _=>by simp[execOp,ho,h1],h2⟩
 ·rename_i t ps ho;obtain⟨v,h1,h2⟩:=TT h;exact⟨v,λw' _=>by simp[execOp,ho,h1],h2⟩
 ·rename_i t x ho;split at h
  ·rename_i e;refine⟨_,λw' _=>?_,h⟩;unfold GG at e;split at e;·cases e
   ·rename_i d hn hu;simp only[execOp,ho,Instr.makeInterface,Sem.run_bind,hW hu,Result.andThen_ok];cases d<;>first|rfl|exact(hn _ rfl).elim
   ·cases e
  ·exact h.elim
 ·rename_i t m k ok ho;obtain⟨v,h1,h2⟩:=Kd.eT h;exact⟨v,λw' g=>by simp[execOp,ho,h1 w' (g (by rw[ho];rfl))],h2⟩
 ·rename_i fn fi ca ho;exact⟨_,λw' _=>by simp[execOp,ho,Instr.makeFunc],h⟩
 ·rename_i b args ts ho;obtain⟨v,h1,h2⟩:=TR (t:=o.type) h;exact⟨v,λw' _=>by simp[execOp,ho,resolve,invoke,h1],h2⟩
 ·exact h.elim
end
end Go.Vc
namespace Go.Vc
open Go
def eP(w:bH)(a:Addr):Prop:=(∃v,w.cell? a=some v)/\w.frozen? a=false
def rQ:bA bE->Addr->Nat->bH->(bg0)->Prop
 |[],_,_,w,f=>f w
 |v::l,a,i,w,f=>eP w (a.add i)/\rQ l a (i+1) (w.setCell (a.add i) v) f
def rR(w:bH)(a:Addr)(i:Nat):bA bE->bH
 |[]=>w
 |v::l=>rR (w.setCell (a.add i) v) a (i+1) l
def tT(n:Nat)(k:IntKind)(v:bE)(a:Addr)(w:bH)(f:bg0):Prop:=
 ∃b:bR,v=.agg (b.map (Value.int k)).toArray/\b.length=n/\(∀i,i<n->eP w (a.add i))/\f (rR w a 0 (b.map (Value.int k)))
def St(a:Addr)(v:bE)(f:bg0)(w:bH):Prop:=eP w a/\f (w.setCell a v)
def kM(vs:bA bE)(a:Addr)(f:bg0)(w:bH):Prop:=rQ vs a 0 w f
def rS(P:cP)(k:K1)(t:cf)(x v:bE)(w:bH)(f:bg0):Prop:=
 match x with
 |.pointer (some a)=>match k with
  |.one _=>match ir P t with
   |some 1=>match v.oneCell' with
    |true=>St a v f w
    |false=>False
   |_=>False
  |.agg _=>match v with
   |.agg cs=>match ir P t with
    |some n=>bif n==cs.size&&cs.toList.all (·.oneCell')then kM cs.toList a f w else False
    |none=>False
   |_=>False
  |.arr n k=>match ir P t with
   |some m=>bif m==n then tT n k v a w f else False
   |none=>False
 |_=>False
def Al(o:Obj)(f:Addr->bg0)(w:bH):Prop:=f ⟨w.heap.size,0,none⟩ (w.alloc o)
def mK(f:Nat->bg0)(w:bH):Prop:=f w.heap.size (w.alloc (.map #[] 0))
def GP(P:cP)(t:cf)(n:Nat)(ps:bA (Nat×bE)):bW (cf×cb bE):=
 match P.underlying t with
 |some (.slice e)=>match ir P e,pa P e with
  |some m,some z=>match decide (n*m<=2^24)&&(decide (0<n*m)||Nat.beq n 0),Instr.fill (λi=>some (i*m,m)) (((List.replicate n z.cells.toList).flatten).toArray) ps with
   |true,some cs=>bif m==z.cells.size then some (e,cs)else none
   |_,_=>none
  |_,_=>none
 |_=>none
def GQ(P:cP)(t:cf)(n:Nat)(ps:cb (Nat×bE))(f:bg1)(w:bH):Prop:=
 match GP P t n ps.toList with
 |some (e,cs)=>Al (.cells cs e) (λq=>f (.slice (some q) n n)) w
 |none=>False
def TU(P:cP)(g:bg7)(args:cb bE)(k:Kd)(w:bH)(f:bg1):Prop:=
 Calls P g args w λe w'=>k.ex λv=>e=.returned v/\f v w'
def TV(P:cP)(g:bg7)(args:cb bE)(k:Kd)(w:bH)(f:bg1)(p:bA PanicEntry->bg0):Prop:=
 Calls P g args w λe w'=>(k.ex λv=>e=.returned v/\f v w')\/∃a,e=.panicked a/\p a w'
def As(P:cP)(cz:bg7->Bool)(g:bE)(args:cb bE)(k:Kd)(w:bH)(f:bg1)(p:bA PanicEntry->bg0):Prop:=
 match g with
 |.func (.func g) fi ca=>match P.funcs[g]? with
  |some fn=>match fn.body.isSome&& !(fn.name== "runtime.NumGoroutine")with
   |true=>bif cz g then TV P g (fi++args++ca) k w f p else TU P g (fi++args++ca) k w f
   |false=>False
  |none=>False
 |_=>False
def kN(P:cP)(g:bg7):Bool:=match P.funcs[g]? with
 |some fn=>fn.body.isSome&& !(fn.name== "runtime.NumGoroutine")
 |none=>false
def eY(P:cP)(g:bE)(args:cb bE)(w:bH)(R:Ending->bg0):Prop:=
 ∃(h:bg7) (ca:cb bE),g=.func (.func h) #[] ca/\kN P h=true/\Calls P h (args++ca) w R
def GR(P:cP)(g:bE)(args:cb bE)(k:Kd)(w:bH)(f:bg1):Prop:=
 eY P g args w λe w'=>k.ex λv=>e=.returned v/\f v w'
def dU(P:cP)(s:Sem bE)(k:Kd)(w:bH)(f:bg1):Prop:=k.ex λv=>∃w',s.run P w=.ok v w'/\f v w'
def TW(P:cP)(it:bE)(str:Bool)(t:cf)(w:bH)(f:bg1):Prop:=
 (∃w',(Instr.next it str t).run P w=.ok (.tuple #[.bool false]) w'/\f (.tuple #[.bool false]) w')\/
 (match str with
  |true=>∃k c:Int,∃w',(Instr.next it true t).run P w=.ok (.tuple #[.bool true,.int .i64 k,.int .i32 c]) w'/\f (.tuple #[.bool true,.int .i64 k,.int .i32 c]) w'
  |false=>∃k v:bE,∃w',(Instr.next it false t).run P w=.ok (.tuple #[.bool true,k,v]) w'/\f (.tuple #[.bool true,k,v]) w')
def ou(P:cP)(s:Sem Unit)(w:bH)(f:bg0):Prop:=∃w',s.run P w=.ok () w'/\f w'
structure dO where
 quiet:Nat->Bool:=λ_=>false
 dyn:Nat->Bool:=λ_=>false
 Au:Nat->bA K1:=λ_=>[.one .raw,.one .raw]
 calm:Nat->Bool:=λ_=>false
 sig:Nat->bW (bA (bA Nat)×bA Nat):=λ_=>none
 fork:Nat->Bool:=λ_=>false
 head:Nat->Nat:=λ_=>0
 loop:Nat->bA (Nat×C1):=λ_=>[]
 goto:Nat->bW (bA (Nat×C1)):=λ_=>none
 brk:bW Nat:=none
 join:Nat->bW (bA (Nat×C1)):=λ_=>none
def tU(A:dO)(o:Oper):Bool:=match o.dst with|some d=>A.dyn d|none=>false
def TX:Op->Bool
 |.move _ | .assign _ | .pick .. | .nilCheck _ | .fieldAddr .. | .load .. | .unOp .. | .indexAddr .. | .field .. | .extract .. | .slice .. | .makeFunc .. | .build .. | .makeInterface .. | .lookup .. =>true
 |_=>false
def vE(P:cP)(τ:cf->K1)(ρ:cf->Kd)(cz:bg7->Bool)(A:dO)(o:Oper)(ev:Operand->bE)(w:bH)(f:bg1)(p:bA PanicEntry->bg0):Prop:=
 match o.op with
 |.store t x v=>rS P (τ t) t (ev x) (ev v) w (f undef)
 |.box t x=>Al (.cells (ev x).cells t) (λq=>f (.pointer (some q))) w
 |.alloc t=>match pa P t with
  |some z=>Al (.cells z.cells t) (λq=>f (.pointer (some q))) w
  |none=>False
 |.call {callee:=.value g,args,.. } =>bif tU A o then GR P (ev g) (args.map ev) (ρ o.type) w f else As P cz (ev g) (args.map ev) (ρ o.type) w f p
 |.call {callee:=.builtin .append,args,argTypes} =>dU P (Builtin.append_ argTypes o.type (args.map ev)) (ρ o.type) w f
 |.call {callee:=.builtin .copy,args,argTypes} =>dU P (Builtin.copy_ argTypes o.type (args.map ev)) (ρ o.type) w f
 |.call {callee:=.builtin .delete,args,argTypes} =>dU P (Builtin.delete_ argTypes o.type (args.map ev)) (ρ o.type) w f
 |.call {callee:=.builtin .clear,args,argTypes} =>dU P (Builtin.clear_ argTypes o.type (args.map ev)) (ρ o.type) w f
 |.call {callee:=.builtin .len,args,argTypes} =>dU P (Builtin.len_ argTypes o.type (args.map ev)) (ρ o.type) w f
 |.call {callee:=.builtin .cap,args,argTypes} =>dU P (Builtin.cap_ argTypes o.type (args.map ev)) (ρ o.type) w f
 |.buildSlice t n ps=>GQ P t n (ps.map λ(i,x)=>(i,ev x)) f w
 |.makeSlice t l c=>dU P (Instr.makeSlice t (ev l) (ev c)) (ρ o.type) w f
 |.makeMap _ none=>mK (λq=>f (.map (some q))) w
 |.mapUpdate t m k x=>ou P (Instr.mapUpdate t (ev m) (ev k) (ev x)) w (f undef)
 |.insert t m k x=>ou P (Instr.mapUpdate t (ev m) (ev k) (ev x)) w (f undef)
 |.mapEntry t m k=>dU P (Instr.mapEntry t (ev m) (ev k)) (ρ o.type) w f
 |.entryStore t m s x=>ou P (Instr.entryStore t (ev m) (ev s) (ev x)) w (f undef)
 |.range t x=>dU P (Instr.range t (ev x)) (.k (.one .ptr)) w f
 |.next it s=>TW P (ev it) s o.type w f
 |.entry it=>match o.dst with
  |some d=>wo (A.Au d) #[] λvs=>∃w',(Instr.entry (ev it)).run P w=.ok (.tuple vs) w'/\f (.tuple vs) w'
  |none=>False
 |.convert s d x=>dU P (convert s d (ev x)) (ρ o.type) w f
 |.index t x i=>dU P (Instr.index t (ev x) (ev i)) (ρ o.type) w f
 |.binOp op t x y _=>dU P (do eqGuard op t x y (ev x) (ev y);binOp op t (ev x) (ev y)) (ρ o.type) w f
 |.typeAssert x t u ok=>dU P (Instr.typeAssert (ev x) t u ok) (ρ o.type) w f
 |.panic x=>match ev x with
  |.iface t v=>p [{v:=.iface t v,recovered:=false}] w
  |_=>False
 |_=>False
def GS(A:dO)(o:Oper):Bool:=TX o.op||(match o.dst with|some d=>A.quiet d|none=>false)
def nf(P:cP)(τ:cf->K1)(ρ:cf->Kd)(cz:bg7->Bool)(A:dO)(o:Oper)(T:Tr)(w:bH)(next:Tr->bg0)(Q:Exit->Tr->bg0):Prop:=
 bif GS A o then vQ P τ ρ o T.ev w (λv=>next (T.put o.dst v) w)
 else vE P τ ρ cz A o T.ev w (λv w'=>next (T.put o.dst v) w') (λa w'=>Q (.panic a) T w')
def kj(ops:cb Oper)(o:Oper)(T:Tr)(yes no:Tr->Prop):Prop:=
 match o.guard with
 |none=>yes T
 |some (j,want)=>match(ops[j]?).bind (·.dst)with
  |none=>False
  |some d=>match T.get d with
   |.bool b=>bif b then(bif want then yes (T.put (some d) (.bool true))else no (T.put (some d) (.bool true)))
     else(bif want then no (T.put (some d) (.bool false))else yes (T.put (some d) (.bool false)))
   |.tuple _=>no T
   |_=>False
def k2(P:cP)(τ:cf->K1)(ρ:cf->Kd)(cz:bg7->Bool)(A:dO)(ops:cb Oper)(Q:Exit->Tr->bg0):bA Oper->Tr->bg0
 |[],T,w=>Q .normal T w
 |o::rest,T,w=>kj ops o T (λT=>nf P τ ρ cz A o T w (k2 P τ ρ cz A ops Q rest) Q) (λT=>k2 P τ ρ cz A ops Q rest (T.put o.dst undef) w)
def tV(P:cP)(τ:cf->K1)(ρ:cf->Kd)(ops:cb Oper)(w:bH)(Q:Tr->Prop):bA Oper->Tr->Prop
 |[],T=>Q T
 |o::rest,T=>kj ops o T (λT=>vQ P τ ρ o T.ev w (λv=>tV P τ ρ ops w Q rest (T.put o.dst v))) (λT=>tV P τ ρ ops w Q rest (T.put o.dst undef))
def TY(P:cP)(g:bg7)(args:cb bE)(k:Kd)(w:bH)(f:bE->Prop):Prop:=
 k.ex λv=>(∀a,Grow w a->Calls P g args a λe w2=>e=.returned v/\Grow a w2)/\f v
def GU(P:cP)(g:bE)(args:cb bE)(k:Kd)(w:bH)(f:bE->Prop):Prop:=
 match g with
 |.func (.func g) fi ca=>match kN P g with
  |true=>TY P g (fi++args++ca) k w f
  |false=>False
 |_=>False
def Av(P:cP)(τ:cf->K1)(ρ:cf->Kd)(o:Oper)(ev:Operand->bE)(w:bH)(f:bE->Prop):Prop:=
 match o.op with
 |.call {callee:=.value g,args,.. } =>GU P (ev g) (args.map ev) (ρ o.type) w f
 |_=>vQ P τ ρ o ev w f
def ov(P:cP)(τ:cf->K1)(ρ:cf->Kd)(ops:cb Oper)(w:bH)(Q:Tr->Prop):bA Oper->Tr->Prop
 |[],T=>Q T
 |o::rest,T=>kj ops o T (λT=>Av P τ ρ o T.ev w (λv=>ov P τ ρ ops w Q rest (T.put o.dst v))) (λT=>ov P τ ρ ops w Q rest (T.put o.dst undef))
def GV(ops:cb Oper)(j:Nat)(sub:Nat->Nat):Nat:=match ops[j]? with
 |none=>0
 |some o=>o.after.toList.foldl (λs e=>bif Region.binds .any e then s ||| 2^e.on ||| sub e.on else s) 0
def mL(ops:cb Oper):Nat->Nat->Nat
 |0,_=>0
 |f+1,j=>GV ops j (mL ops f)
def p9(P:cP)(τ:cf->K1)(ρ:cf->Kd)(ops:cb Oper)(T:Tr)(w:bH)(next:Prop):bA Nat->Prop
 |[]=>next
 |j::l=>match ops[j]? with
  |none=>False
  |some o=>kj ops o T (λT=>vQ P τ ρ o T.ev w λv=>v=(match o.dst with|some d=>T.get d|none=>v)/\p9 P τ ρ ops T w next l) (λT=>p9 P τ ρ ops T w next l)
def qe(Q:Exit->Tr->bg0):Exit->Tr->bg0
 |.panic a,_,w=>∀T:Tr,Q (.panic a) T w
 |_,_,_=>False
def rT:bA (bA Nat)->bA Nat->bA Nat
 |[],_=>[]
 |[]::C,s=>rT C s
 |(a::_)::C,s=>bif s.contains a then rT C s else a::rT C (a::s)
def kk(h:Nat):bA (bA Nat)->bA (bA Nat)
 |[]=>[]
 |[]::C=>kk h C
 |(a::r)::C=>bif Nat.beq a h then r::kk h C else kk h C
def qk(f:Nat->Prop):bA Nat->Prop
 |[]=>True
 |[i]=>f i
 |i::j::l=>f i/\qk f (j::l)
def gx(P:cP)(τ:cf->K1)(ρ:cf->Kd)(cz:bg7->Bool)(A:dO)(ops:cb Oper)(cq:bA Nat)(Q:Exit->Tr->bg0):Nat->bA (bA Nat)->bA Nat->Tr->bg0
 |0,_,_,T,w=>Q .normal T w
 |n+1,C,done,T,w=>qk (λi=>match ops[i]? with
  |none=>False
  |some o=>bif cq.contains i
    then kj ops o T (λT=>nf P τ ρ cz A o T w (λT' w'=>p9 P τ ρ ops T' w' (gx P τ ρ cz A ops cq Q n (kk i C) done T' w') (done.filter λj=> !(mL ops ops.size i).testBit j)) (qe Q))
     (λT=>gx P τ ρ cz A ops cq Q n (kk i C) done (T.put o.dst undef) w)
    else kj ops o T (λT=>vQ P τ ρ o T.ev w λv=>gx P τ ρ cz A ops cq Q n (kk i C) (bif jw o.op then i::done else done) (T.put o.dst v) w)
     (λT=>gx P τ ρ cz A ops cq Q n (kk i C) done (T.put o.dst undef) w)) (rT C [])
def Dr(f:bg0)(w:bH):Prop:=f w.drew
def Aw(f:bg0)(w:bH):Prop:=∀w',Grow w w'->f w'
def tW(f:Nat->Prop):bA Nat->Prop
 |[]=>True
 |i::l=>f i/\tW f l
def gR(P:cP)(τ:cf->K1)(ρ:cf->Kd)(cz:bg7->Bool)(A:dO)(ops:cb Oper)(Q:Exit->Tr->bg0):Nat->cb Bool->Tr->bg0
 |0,listed,T,w=>match Region.ready .any ops listed with
  |[]=>Q .normal T w
  |_=>False
 |fuel+1,listed,T,w=>match Region.ready .any ops listed with
  |[]=>Q .normal T w
  |i::l=>tW (λi=>match ops[i]? with
   |none=>False
   |some o=>kj ops o T (λT=>nf P τ ρ cz A o T w (gR P τ ρ cz A ops Q fuel (listed.setIfInBounds i true)) Q) (λT=>gR P τ ρ cz A ops Q fuel (listed.setIfInBounds i true) (T.put o.dst undef) w)) (i::l)
def tX(P:cP)(τ:cf->K1)(ρ:cf->Kd)(cz:bg7->Bool)(A:dO)(id:Nat)(ops:cb Oper)(draw:Bool)(Q:Exit->Tr->bg0)(T:Tr)(w:bH):Prop:=
 match draw with
 |false=>k2 P τ ρ cz A ops Q ops.toList T w
 |true=>match A.sig id with
  |some (C,cq)=>Dr (λw'=>gx P τ ρ cz A ops cq Q ops.size C [] T w') w
  |none=>bif A.fork id then Dr (λw'=>gR P τ ρ cz A ops Q ops.size (Array.replicate ops.size false) T w') w
  else bif A.calm id then ov P τ ρ ops w (λT'=>Aw (λw'=>Q .normal T' w') w) ops.toList T
  else Dr (λw'=>tV P τ ρ ops w' (λT'=>k2 P τ ρ cz A ops Q (ops.toList.drop (A.head id)) T' w') (ops.toList.take (A.head id)) T) w
def eF(l:bA Oper):bA Nat:=l.filterMap (·.dst)
def wr:Code->bA Nat
 |.region _ ops _=>eF ops.toList
 |.seq x y=>wr x++wr y
 |.cond _ x y=>wr x++wr y
 |.block _ c=>wr c
 |.loop c=>wr c
 |.scope c=>wr c
 |.rangeFunc _ ps x y=>ps.toList++wr x++wr y
 |_=>[]
def l8:Code->bW Nat
 |.region id _ _=>some id
 |.seq x y=>(l8 x).or (l8 y)
 |.cond _ x y=>(l8 x).or (l8 y)
 |.block _ c=>l8 c
 |.loop c=>l8 c
 |.scope c=>l8 c
 |_=>none
def hO:bA (Nat×C1)->Type
 |[]=>bg0
 |(_,c)::l=>c.ty->hO l
def ib:bA (Nat×C1)->Type
 |[]=>bH->Nat
 |(_,c)::l=>c.ty->ib l
def ng:(l:bA (Nat×C1))->hO l->Tr->bg0
 |[],a,_,w=>a w
 |(s,c)::l,a,T,w=>match c.un (T.get s)with
  |some x=>ng l (a x) T w
  |none=>False
def rU:(l:bA (Nat×C1))->hO l->ib l->Nat->Tr->bg0
 |[],a,b,m,_,w=>a w/\b w<m
 |(s,c)::l,a,b,m,T,w=>match c.un (T.get s)with
  |some x=>rU l (a x) (b x) m T w
  |none=>False
def nh:(l:bA (Nat×C1))->hO l->ib l->Tr->(Tr->(bg0)->(bH->Nat)->Prop)->Prop
 |[],a,b,T,K=>K T a b
 |(s,c)::l,a,b,T,K=>∀x:c.ty,nh l (a x) (b x) (T.put (some s) (c.mk x)) K
def mM(W:bA Nat)(l:bA (Nat×C1)):bA Nat:=W.filter λs=> !(l.map (·.1)).contains s
noncomputable def mN(u:Nat->bE):bA Nat->Tr->Tr
 |[],T=>T
 |s::l,T=>mN u l (T.put (some s) (u s))
def wC(l:bA (Nat×C1))(W:bA Nat)(body:(Tr->bg0)->Tr->bg0)(T:Tr)(w:bH):Prop:=
 ∃(a:hO l) (d:ib l),ng l a T w/\∀u:Nat->bE,nh l a d (mN u (mM W l) T) λT' b c=>∀w',b w'->body (rU l a d (c w')) T' w'
def wD:(l:bA (Nat×C1))->ib l
 |[]=> λ_=>0
 |(_,_)::l=> λ_=>wD l
def TZ(l:bA (Nat×C1))(W:bA Nat)(first:(Tr->bg0)->Tr->bg0)(rest:Tr->bg0)(T:Tr)(w:bH):Prop:=
 ∃J:hO l,first (ng l J) T w/\∀u:Nat->bE,nh l J (wD l) (mN u (mM W l) T) λT' a _=>∀w',a w'->rest T' w'
def tY(A:dO)(y:Code):bW (bA (Nat×C1)):=match l8 y with
 |some r=>A.join r
 |none=>none
def mO(next:Tr->bg0)(Q:Exit->Tr->bg0):Exit->Tr->bg0
 |.normal,T,w=>next T w
 |e,T,w=>Q e T w
def T0(id:Nat)(Q:Exit->Tr->bg0):Exit->Tr->bg0
 |.exit a,T,w=>bif Nat.beq a id then Q .normal T w else Q (.exit a) T w
 |e,T,w=>Q e T w
def Ax(Q:Exit->Tr->bg0):Exit->Tr->bg0
 |.goto _,_,_=>False
 |e,T,w=>Q e T w
def GW(l:Nat)(J:Tr->bg0)(Q:Exit->Tr->bg0):Exit->Tr->bg0
 |.goto l',T,w=>bif Nat.beq l' l then J T w else False
 |e,T,w=>Q e T w
def wE:Code->bW Nat
 |.label l=>some l
 |.seq x y=>(wE x).or (wE y)
 |_=>none
def GX(l:bA (Nat×C1))(W:bA Nat)(first pass:(Tr->bg0)->Tr->bg0)(T:Tr)(w:bH):Prop:=
 ∃(a:hO l) (d:ib l),first (ng l a) T w/\∀u:Nat->bE,nh l a d (mN u (mM W l) T) λT' b c=>∀w',b w'->pass (rU l a d (c w')) T' w'
def vc(P:cP)(τ:cf->K1)(ρ:cf->Kd)(cz:bg7->Bool)(A:dO):Nat->Code->(Exit->Tr->bg0)->Tr->bg0
 |0,_,_,_,_=>False
 |n+1,c,Q,T,w=>match c with
  |.skip=>Q .normal T w
  |.label _=>Q .normal T w
  |.exit id=>Q (.exit id) T w
  |.goto l=>Q (.goto l) T w
  |.ret=>Q .ret T w
  |.region id ops draw=>tX P τ ρ cz A id ops draw Q T w
  |.seq x y=>match tY A y with
   |none=>vc P τ ρ cz A n x (mO (vc P τ ρ cz A n y Q) Q) T w
   |some ks=>TZ ks (wr x) (λJ=>vc P τ ρ cz A n x (mO J Q)) (vc P τ ρ cz A n y Q) T w
  |.cond c x y=>match T.ev c with
   |.bool t=>bif t then vc P τ ρ cz A n x Q T w else vc P τ ρ cz A n y Q T w
   |_=>False
  |.block id c=>vc P τ ρ cz A n c (T0 id Q) T w
  |.scope c=>match wE c with
   |none=>vc P τ ρ cz A n c (Ax Q) T w
   |some l=>match A.goto l with
    |none=>vc P τ ρ cz A n c (Ax Q) T w
    |some ks=>match findLabel c l with
     |some rest=>GX ks (wr c) (λJ=>vc P τ ρ cz A n c (GW l J Q)) (λJ=>vc P τ ρ cz A n rest (GW l J Q)) T w
     |none=>False
  |.loop c=>wC (A.loop ((l8 c).getD 0)) (wr c) (λnext=>vc P τ ρ cz A n c (mO next Q)) T w
  |_=>False
section
variable{P:cP}
def T1{w:bH}{a b:Addr}{v:bE}(h:eP w a):eP (w.setCell b v) a:=by
 obtain⟨⟨x,hx⟩,hf⟩:=h;constructor
 ·unfold World.cell? at hx ⊢;unfold World.setCell;simp only[FT];cases d:w.heap[a.block]? with
  |none=>simp[d]at hx
  |some o=>
   simp only[d]at hx;by_cases e:b.block=a.block
   ·simp only[e,gQ,gh];cases o with
    |cells c t fr=>
     simp only at hx ⊢;split at hx;·cases hx
     ·rename_i g;simp only[g,gP,l2];have f:a.off<c.size:=by
       rcases hN a.off c.size with h|h;·exact h
       ·simp[vW h]at hx
      split;·exact⟨x,hx⟩
      ·exact⟨_,oc (by simpa using f)⟩
    |_=>simp at hx
   ·simp only[e,gP];cases o with
    |cells c t fr=>exact⟨x,hx⟩
    |_=>simp at hx
 ·unfold World.frozen? at hf ⊢;unfold World.setCell;simp only[FT];cases d:w.heap[a.block]? with
  |none=>simp
  |some o=>
   simp only[d]at hf;by_cases e:b.block=a.block
   ·simp only[e,gQ,gh];cases o<;>simp_all
   ·simp only[e,gP];cases o<;>simp_all
def Ay{w:bH}{a:Addr}{v:bE}(b:v.oneCell'=true)(h:eP w a):(store a v).run P w=.ok () (w.setCell a v):=by
 obtain⟨⟨x,hx⟩,hf⟩:=h;rw[run_store P w a v .plain b];simp[hx,hf]
def GY:∀(l:bA bE) (a:Addr) (i:Nat) (w:bH) (f:bg0),l.all (·.oneCell')=true->rQ l a i w f->
  ∃w',(storeCells a l i).run P w=.ok () w'/\f w'
 |[],_,_,w,_,_,h=>⟨w,rfl,h⟩
 |v::l,a,i,w,f,hl,⟨h1,h2⟩=>by
  simp only[zj,dA]at hl;obtain⟨w',b,c⟩:=GY l a (i+1) _ f hl.2 h2;exact⟨w',by simp[storeCells,Ay hl.1 h1,b],c⟩
def GZ:∀(l:bA bE) (a:Addr) (i:Nat) (w:bH),l.all (·.oneCell')=true->(∀j,i<=j->j<i+l.length->eP w (a.add j))->
  (storeCells a l i).run P w=.ok () (rR w a i l)
 |[],_,_,_,_,_=>rfl
 |v::l,a,i,w,hl,h=>by
  simp only[zj,dA]at hl;have h1:=h i (ep _) (by simp);have h2:=GZ l a (i+1) (w.setCell (a.add i) v) hl.2 (λj b c=>T1 (h j bu (by simp;omega)));simp[storeCells,Ay hl.1 h1,h2,rR]
def T2{k:K1}{t:cf}{x v:bE}{w:bH}{f:bg0}(h:rS P k t x v w f):
  ∃w',(Instr.storeAt t x v).run P w=.ok () w'/\f w':=by
 unfold rS at h;split at h
 ·rename_i a;split at h
  ·split at h
   ·rename_i e;split at h
    ·rename_i c;obtain⟨h1,h2⟩:=h;have d:v.cells= #[v]:=by cases v<;>first|rfl|simp[Value.oneCell']at c
     exact⟨_,by simp[Instr.storeAt,Instr.sureAddr,storeVar,d,run_sizeOf e,storeCells,Addr.add,Ay c h1],h2⟩
    ·exact h.elim
   ·exact h.elim
  ·split at h
   ·rename_i cs;split at h
    ·rename_i n e;cases hb:(n==cs.size&&cs.toList.all (·.oneCell'))with
     |false=>rw[hb,hh]at h;exact h.elim
     |true=>
      rw[hb,hM]at h;simp only[dA,p4]at hb;obtain⟨w',h1,h2⟩:=GY (P:=P) _ _ _ _ _ hb.2 h;refine⟨w',?_,h2⟩;have:¬ (Value.agg cs).cells.size≠n:=by simp[Value.cells,hb.1]
      simp only[Instr.storeAt,Instr.sureAddr,storeVar,Sem.run_bind,Sem.run_pure,Result.andThen_ok,run_sizeOf e];simp[Value.cells,hb.1,h1]
    ·exact h.elim
   ·exact h.elim
  ·split at h
   ·rename_i n k _ m e;cases hb:(m==n)with
    |false=>rw[hb,hh]at h;exact h.elim
    |true=>
     rw[hb,hM]at h;simp only[p4]at hb;subst hb;obtain⟨i,rfl,hl,b,hf⟩:=h;have:=GZ (P:=P) (i.map (Value.int k)) a 0 w (by simp[Value.oneCell']) (λj _ g=>b j (by simp at g;omega));refine⟨_,?_,hf⟩;simp[Instr.storeAt,Instr.sureAddr,storeVar,Value.cells,run_sizeOf e,hl,this]
   ·exact h.elim
 ·exact h.elim
def T3{cz:bg7->Bool}{o:Oper}{a:Act}{w:bH}{g:Operand}{args:cb Operand}{ts:cb cf}{k:Kd}{f:bg1}{p:bA PanicEntry->bg0}{next:Act->bg0}{Q:Exit->Act->bg0}(ho:o.op=.call {callee:=.value g,args,argTypes:=ts})(h:As P cz (a.eval g) (args.map a.eval) k w f p)(hf:∀v w',f v w'->next (a.put o.dst v) w')(hp:∀d w',p d w'->Q (.panic d) a w'):o.wp P a w next Q:=by
 unfold As at h;split at h
 ·rename_i i fi ca q;split at h
  ·rename_i fn n;split at h
   ·rename_i hb;simp only[dA,h9,vY]at hb;obtain⟨l,m⟩:=hb;have hr:(execOp a.eval o).run P w=.ok (.enter i (fi++args.map a.eval++ca)) w:=by
     have c:¬ fn.body=none:=by intro hx;simp[hx]at l
     simp[execOp,ho,resolve,q,Deferred.ofValue,invoke,callFunc,n,m,c]
    unfold Oper.wp;rw[hr];show Calls P i (fi++args.map a.eval++ca) w _;cases b:cz i with
    |false=>
     rw[b,hh]at h;refine Calls.mono h λe w' he=>?_;obtain⟨v,rfl,j⟩:=Kd.eT he;exact hf _ _ j
    |true=>
     rw[b,hM]at h;refine Calls.mono h λe w' he=>?_;rcases he with he|⟨d,rfl,he⟩
     ·obtain⟨v,rfl,j⟩:=Kd.eT he;exact hf _ _ j
     ·exact hp _ _ he
   ·exact h.elim
  ·exact h.elim
 ·exact h.elim
def T4{o:Oper}{a:Act}{w:bH}{g:Operand}{args:cb Operand}{ts:cb cf}{k:Kd}{f:bg1}{next:Act->bg0}{Q:Exit->Act->bg0}(ho:o.op=.call {callee:=.value g,args,argTypes:=ts})(h:GR P (a.eval g) (args.map a.eval) k w f)(hf:∀v w',f v w'->next (a.put o.dst v) w'):o.wp P a w next Q:=by
 obtain⟨c,ca,l,hb,h⟩:=h;unfold kN at hb;split at hb
 ·rename_i fn j;simp only[dA,h9,vY]at hb;obtain⟨d,i⟩:=hb;have hr:(execOp a.eval o).run P w=.ok (.enter c (args.map a.eval++ca)) w:=by
   have b:¬ fn.body=none:=by intro hx;simp[hx]at d
   simp[execOp,ho,resolve,l,Deferred.ofValue,invoke,callFunc,j,i,b]
  unfold Oper.wp;rw[hr];show Calls P c (args.map a.eval++ca) w _;refine Calls.mono h λe w' he=>?_;obtain⟨v,rfl,m⟩:=Kd.eT he;exact hf _ _ m
 ·cases hb
def G0{s:Sem bE}{k:Kd}{w:bH}{f:bg1}(h:dU P s k w f):∃v w',s.run P w=.ok v w'/\f v w':=by
 obtain⟨v,w',h⟩:=Kd.eT h;exact⟨v,w',h⟩
def ni(z:bA bE)(n j:Nat)(h:j<n*z.length):((List.replicate n z).flatten)[j]?=z[j%z.length]? :=by
 induction n generalizing j with
 |zero=>simp at h
 |succ n c=>
  rw[oe,tz];by_cases b:j<z.length;·rw[eN b,mI b]
  ·have a:z.length<=j:=To b;rw[fR a,c (j-z.length) (by rw[zp]at h;omega)];rw[<- Nat.mod_eq_sub_mod a]
def T5(z:cb bE)(n m:Nat)(hm:m=z.size)(d:0<n*m):(Array.range (n*m)).map (λi=>z[i%z.size]!)=((List.replicate n z.toList).flatten).toArray:=by
 subst hm;have c:0<z.size:=by
  rcases kZ z.size with h|h;·simp[h]at d
  ·exact h
 apply Array.ext_getElem?;intro j;by_cases a:j<n*z.size
 ·have:=ni z.toList n j (by simpa using a);simp only[List.getElem?_toArray,this];have b:j%z.size<z.size:=kL _ c;simp[a,b]
 ·have h1:((List.replicate n z.toList).flatten).length<=j:=by simp;omega
  simp only[List.getElem?_toArray,g2 h1];simp;omega
def T6{τ:cf->K1}{ρ:cf->Kd}{cz:bg7->Bool}{A:dO}{o:Oper}{a:Act}{w:bH}{f:bg1}{p:bA PanicEntry->bg0}{next:Act->bg0}{Q:Exit->Act->bg0}(h:vE P τ ρ cz A o a.eval w f p)(hf:∀v w',f v w'->next (a.put o.dst v) w')(hp:∀C w',p C w'->Q (.panic C) a w'):
  o.wp P a w next Q:=by
 have val:∀ {s:Sem bE} {k:Kd},dU P s k w f->execOp a.eval o=(do pure (.value (<- s)))->o.wp P a w next Q:=by
  intro s k h e;obtain⟨v,w',h1,h2⟩:=G0 h;unfold Oper.wp;rw[e];simp only[Sem.run_bind,h1,Result.andThen_ok,Sem.run_pure,Oper.upon_value];exact hf _ _ h2
 have i:∀ {b:Builtin} {args:cb Operand} {ts:cb cf} {k:Kd} {s:Sem bE},dU P s k w f->o.op=.call {callee:=.builtin b,args,argTypes:=ts} ->
   (∀cs,builtin b ts o.type cs (args.map a.eval)=(do pure (.value (<- s))))->o.wp P a w next Q:=by
  intro b args ts k s h ho e;obtain⟨v,w',h1,h2⟩:=G0 h;unfold Oper.wp;have:(execOp a.eval o).run P w=.ok (.value v) w':=by
   simp[execOp,ho,resolve,invoke,e,h1]
  rw[this];exact hf _ _ h2
 have l:∀ {s:Sem Unit},ou P s w (f undef)->execOp a.eval o=(do s;pure .skip)->o.wp P a w next Q:=by
  intro s h e;obtain⟨w',h1,h2⟩:=h;unfold Oper.wp;rw[e];simp only[Sem.run_bind,h1,Result.andThen_ok,Sem.run_pure,Oper.upon_skip];exact hf _ _ h2
 unfold vE at h;split at h
 ·rename_i t x v ho;obtain⟨w',h1,h2⟩:=T2 h;refine l (s:=Instr.storeAt t (a.eval x) (a.eval v)) ⟨w',h1,h2⟩ (by simp[execOp,ho])
 ·rename_i t x ho;unfold Oper.wp;have:(execOp a.eval o).run P w=.ok (.value (.pointer (some ⟨w.heap.size,0,none⟩))) (w.alloc (.cells (a.eval x).cells t)):=by
   simp[execOp,ho,Instr.box,newVar,newRow]
  rw[this];exact hf _ _ h
 ·rename_i t ho;split at h
  ·rename_i z B;unfold Oper.wp;have:(execOp a.eval o).run P w=.ok (.value (.pointer (some ⟨w.heap.size,0,none⟩))) (w.alloc (.cells z.cells t)):=by
    simp[execOp,ho,Instr.alloc,newVar,newRow,wq B]
   rw[this];exact hf _ _ h
  ·exact h.elim
 ·rename_i g args ts ho;cases q:tU A o with
  |true=>rw[q,hM]at h;exact T4 ho h hf
  |false=>rw[q,hh]at h;exact T3 ho h hf hp
 ·rename_i args ts ho;exact i h ho (λcs=>by simp[builtin])
 ·rename_i args ts ho;exact i h ho (λcs=>by simp[builtin])
 ·rename_i args ts ho;exact i h ho (λcs=>by simp[builtin])
 ·rename_i args ts ho;exact i h ho (λcs=>by simp[builtin])
 ·rename_i args ts ho;exact i h ho (λcs=>by simp[builtin])
 ·rename_i args ts ho;exact i h ho (λcs=>by simp[builtin])
 ·rename_i t n ps ho;unfold GQ at h;split at h
  ·rename_i e cs d;unfold GP at d;split at d
   ·rename_i e' hu;split at d
    ·rename_i m z hm B;split at d
     ·rename_i D q j;cases hb:(m==z.cells.size)with
      |false=>rw[hb,hh]at d;cases d
      |true=>
       rw[hb,hM]at d;injection d with d;injection d with h1 h2;subst h1;subst h2
       simp only[p4]at hb;simp only[dA,jE,gE]at q;unfold Oper.wp;have hr:(execOp a.eval o).run P w=.ok (.value (.slice (some ⟨w.heap.size,0,none⟩) n n)) (w.alloc (.cells D e')):=by
        have hle:¬ n*m>2^24:=by omega
        simp only[execOp,ho,Instr.buildSlice,Sem.run_bind,hW hu,Result.andThen_ok,run_sizeOf hm,bJ hle,Sem.run_pure];rcases q.2 with y|r
        ·have u:=T5 z.cells n m hb y;simp only[bJ (Nat.ne_of_gt y),Sem.run_bind,wq B,Result.andThen_ok,Sem.run_pure,u,j];simp[newRow]
        ·have r:n=0:=m7 r;subst r;have E:Array.range 0= #[]:=rfl;simp only[F0,y6,Array.toList_map]at j;simp[newRow,E,j]
       rw[hr];exact hf _ _ h
     ·cases d
    ·cases d
   ·cases d
  ·exact h.elim
 ·rename_i ho;exact val h (by simp[execOp,ho])
 ·rename_i ho;unfold Oper.wp;have hr:(execOp a.eval o).run P w=.ok (.value (.map (some w.heap.size))) (w.alloc (.map #[] 0)):=by simp[execOp,ho,Instr.makeMap]
  rw[hr];exact hf _ _ h
 ·rename_i ho;exact l h (by simp[execOp,ho])
 ·rename_i ho;exact l h (by simp[execOp,ho])
 ·rename_i ho;exact val h (by simp[execOp,ho])
 ·rename_i ho;exact l h (by simp[execOp,ho])
 ·rename_i ho;exact val h (by simp[execOp,ho])
 ·rename_i it s ho;have hx:∃v w',(Instr.next (a.eval it) s o.type).run P w=.ok v w'/\f v w':=by
   rcases h with⟨w',h1,h2⟩|h;·exact⟨_,w',h1,h2⟩
   ·cases s with
    |true=>obtain⟨k,c,w',h1,h2⟩:=h;exact⟨_,w',h1,h2⟩
    |false=>obtain⟨k,v,w',h1,h2⟩:=h;exact⟨_,w',h1,h2⟩
  obtain⟨v,w',h1,h2⟩:=hx;unfold Oper.wp;have hr:(execOp a.eval o).run P w=.ok (.value v) w':=by simp[execOp,ho,h1]
  rw[hr];exact hf _ _ h2
 ·rename_i it ho;split at h
  ·obtain⟨vs,w',h1,h2⟩:=z6 _ _ _ h;unfold Oper.wp;have hr:(execOp a.eval o).run P w=.ok (.value (.tuple vs)) w':=by simp[execOp,ho,h1]
   rw[hr];exact hf _ _ h2
  ·exact h.elim
 ·rename_i ho;exact val h (by simp[execOp,ho])
 ·rename_i ho;exact val h (by simp[execOp,ho])
 ·rename_i ho;exact val h (by simp[execOp,ho])
 ·rename_i ho;exact val h (by simp[execOp,ho])
 ·rename_i x ho;split at h
  ·rename_i t v hx;unfold Oper.wp;have:(execOp a.eval o).run P w=.halt (.panic (.iface t v)) w:=by simp[execOp,ho,hx,Instr.panic]
   rw[this];exact hp _ _ h
  ·exact h.elim
 ·exact h.elim
end
end Go.Vc
namespace Go.Vc
open Go
section
variable{P:cP}{τ:cf->K1}{ρ:cf->Kd}{cz:bg7->Bool}{A:dO}
structure Rel(N:Nat)(T:Tr)(a:Act):Prop where
 defers:a.defers= []
 size:a.tmps.size=N
 get:∀t,a.tmps.getD t undef=T.get t
def Rel.ev{N:Nat}{T:Tr}{a:Act}(h:Rel N T a):a.eval=T.ev:=by
 funext x;cases x with
 |tmp t=>exact h.get t
 |const v=>rfl
 |global g=>rfl
 |func f=>rfl
def Rel.at{N:Nat}{T:Tr}{a:Act}(h:Rel N T a){d:Nat}(c:d<N):a.tmps[d]?=some (T.get d):=by
 have b:d<a.tmps.size:=by rw[h.size];exact c
 rw[oc b,<- h.get d];simp[Array.getD,b]
def Rel.put{N:Nat}{T:Tr}{a:Act}(h:Rel N T a)(g:N<=8000){d:bW Nat}(c:∀t,d=some t->t<N)(v:bE):Rel N (T.put d v) (a.put d v):=by
 cases d with
 |none=>exact h
 |some d=>
  have b:=c d rfl;refine⟨h.defers,by simp[Act.put,h.size],λt=>?_⟩;rw[Tr.dI T d t v bu,<- h.get t];have f:d<a.tmps.size:=by rw[h.size];exact b
  simp only[Act.put,iQ,oa];by_cases e:d=t;·subst e;simp[f]
  ·rw[bJ e,bJ (λe'=>e e'.symm)]
def Rel.same{N:Nat}{T T':Tr}{a:Act}(h:Rel N T a)(b:∀t,T'.get t=T.get t):Rel N T' a:=⟨h.defers,h.size,λt=>(h.get t).trans (b t).symm⟩
def Fr(W:bA Nat)(T T':Tr):Prop:=∀t,t∉W->T'.get t=T.get t
def Fr.refl(W:bA Nat)(T:Tr):Fr W T T:=λ_ _=>rfl
def Fr.trans{W:bA Nat}{a b c:Tr}(h:Fr W a b)(h':Fr W b c):Fr W a c:=λt d=>(h' t d).trans (h t d)
def Fr.mono{W c:bA Nat}{a b:Tr}(h:Fr W a b)(d:∀t,t∈W->t∈c):Fr c a b:=λt e=>h t (λh'=>e (d t h'))
def Fr.put(W:bA Nat)(T:Tr)(d:bW Nat)(v:bE)(h:∀t,d=some t->t∈W/\t<8000):Fr W T (T.put d v):=by
 cases d with
 |none=>exact .refl _ _
 |some d=>
  intro t a;rw[Tr.dI T d t v (h d rfl).2,bJ (λe=>a (by rw[e];exact(h d rfl).1))]
def g4(P:cP)(N:Nat)(l:bA Oper):Bool:=l.all λo=>(match o.op with
 |.convert s _ _=>(P.underlying s).isSome
 |_=>true)&&(match o.dst with|some d=>Nat.blt d N|none=>true)
def pd(l:bA (Nat×C1)):Prop:=∀x∈l,x.1<8000
def okW(c:Code):Bool:=(wr c).all λt=>Nat.blt t 8000
def tZ{c:Code}(h:okW c=true):∀t∈wr c,t<8000:=λt a=>by simpa using fS.1 h t a
def nj(l:bA (Nat×C1)):Bool:=l.all λx=>Nat.blt x.1 8000
def wF{l:bA (Nat×C1)}(h:nj l=true):pd l:=λx hx=>by simpa using fS.1 h x hx
def ow{N:Nat}{l:bA Oper}(h:g4 P N l=true){o:Oper}(ho:o∈l):∀s d x,o.op=.convert s d x->(P.underlying s).isSome=true:=by
 intro s d x e;have:=fS.1 h o ho;simp only[dA,e]at this;exact this.1
def l9{N:Nat}{l:bA Oper}(h:g4 P N l=true){o:Oper}(ho:o∈l):∀t,o.dst=some t->t<N:=by
 intro t e;have:=fS.1 h o ho;simp only[dA,e]at this;simpa using this.2
def wG{N:Nat}{o:Oper}{l:bA Oper}(h:g4 P N (o::l)=true):g4 P N l=true:=by
 unfold g4 at h ⊢;rw[zj,dA]at h;exact h.2
def T7(want:Bool):bE->Bool
 |.bool b=>b==want
 |_=>false
def T8{ops:cb Oper}{o:Oper}{a:Act}{j d:Nat}{want:Bool}{v:bE}(e:o.guard=some (j,want))(c:(ops[j]?).bind (·.dst)=some d)(hb:a.tmps[d]?=some v):
  Region.wanted o (yielded ops a.tmps)=T7 want v:=by
 unfold Region.wanted yielded;simp only[e,c,Ge,hb];cases v
 case bool b=>cases b<;>cases want<;>rfl
 all_goals rfl
def pf{N:Nat}{ops:cb Oper}{o:Oper}{T:Tr}{a:Act}{yes no:Tr->Prop}{B:Prop}(p:N<=8000)(l:g4 P N ops.toList=true)(hr:Rel N T a)(h:kj ops o T yes no)(m:∀T',(∀t,T'.get t=T.get t)->yes T'->Region.wanted o (yielded ops a.tmps)=true->B)(hn:∀T',(∀t,T'.get t=T.get t)->no T'->Region.wanted o (yielded ops a.tmps)=false->B):B:=by
 unfold kj at h;split at h
 ·rename_i i;exact m T (λ_=>rfl) h (by simp[Region.wanted,i])
 ·rename_i j want i;split at h;·exact h.elim
  ·rename_i d g;have f:d<N:=by
    cases k:ops[j]? with
    |none=>simp[k]at g
    |some oj=>
     have hm:oj∈ops.toList:=by rw[o1];exact mD k
     exact l9 l hm d (by simpa[k]using g)
   have n:=hr.at f;have hw:=T8 i g n;split at h
   ·rename_i b hb;rw[hb]at hw;have c:∀t,(T.put (some d) (.bool b)).get t=T.get t:=by
     intro t;rw[Tr.dI T d t _ (lG f p)];split;·rename_i e;subst e;exact hb.symm
     ·rfl
    cases b with
    |true=>
     rw[hM]at h;cases want with
     |true=>exact m _ c h hw
     |false=>exact hn _ c h hw
    |false=>
     rw[hh]at h;cases want with
     |true=>exact hn _ c h hw
     |false=>exact m _ c h hw
   ·rename_i vs hb;rw[hb]at hw;exact hn T (λ_=>rfl) h hw
   ·exact h.elim
def wH{N:Nat}{o:Oper}{T:Tr}{a:Act}{w:bH}{next:Tr->bg0}{next':Act->bg0}{Q:Exit->Tr->bg0}{Q':Exit->Act->bg0}(hr:Rel N T a)(e:∀s d x,o.op=.convert s d x->(P.underlying s).isSome=true)(h:nf P τ ρ cz A o T w next Q)(hn:∀v w',next (T.put o.dst v) w'->next' (a.put o.dst v) w')(hp:∀b w',Q (.panic b) T w'->Q' (.panic b) a w'):o.wp P a w next' Q':=by
 unfold nf at h;cases c:GS A o with
 |true=>
  rw[c,hM]at h;rw[<- hr.ev]at h;obtain⟨v,h1,h2⟩:=tS e h;unfold Oper.wp;rw[h1 w (λ_=>.refl w)];exact hn _ _ h2
 |false=>
  rw[c,hh]at h;rw[<- hr.ev]at h;exact T6 h (λv w' f=>hn v w' f) hp
def nQ(ops:cb Oper)(i j:Nat):Bool:=(mL ops ops.size j).testBit i
def ee(σ:bA Nat)(i:Nat):Nat:=σ.idxOf i
def wI(o:Oper)(t:Nat):Bool:=match o.dst with|some d=>Nat.beq d t|none=>false
def G1(ops:cb Oper)(σ:bA Nat)(i j:Nat):Bool:=
 (nQ ops j i&&Nat.blt (ee σ j) (ee σ i))||(nQ ops i j&&Nat.blt (ee σ i) (ee σ j))
def T9(ops:cb Oper)(σ:bA Nat):Bool:=
 (List.range ops.size).all λi=>match ops[i]? with
  |none=>false
  |some o=>(o.looksAt ops).all λt=>(List.range ops.size).all λj=>match ops[j]? with
   |none=>false
   |some oj=> !wI oj t||G1 ops σ i j
def Ua(ops:cb Oper)(C:bA (bA Nat))(σ cq:bA Nat):Bool:=
 cq.all λe=>(List.range ops.size).all λi=> !Nat.blt (ee σ e) (ee σ i)||nQ ops e i||(List.range ops.size).any (λj=>nQ ops j i&&Nat.ble (ee σ e) (ee σ j))||(cq.contains i&&C.any λc=>c.take (ee σ e+1)==σ.take (ee σ e)++[i])
def Ub(ops:cb Oper):Bool:=
 (List.range ops.size).all λi=>(List.range ops.size).all λj=>Nat.beq i j||(match(ops[i]?).bind (·.dst),(ops[j]?).bind (·.dst)with
  |some d,some a=> !Nat.beq d a
  |_,_=>true)
def Uc(ops:cb Oper):Bool:=
 (List.range ops.size).all λi=>match ops[i]? with
  |none=>false
  |some o=>o.after.toList.all λe=> !Region.binds .any e||Nat.blt e.on i
def Ud(ops:cb Oper)(σ cq:bA Nat):Bool:=
 (List.range ops.size).all λi=>match ops[i]? with
  |none=>false
  |some o=>cq.contains i|| !jw o.op||((o.looksAt ops).all λt=>(List.range ops.size).all λj=>match ops[j]? with
   |none=>false
   |some oj=> !wI oj t||(nQ ops j i&&Nat.blt (ee σ j) (ee σ i)))
def qn(ops:cb Oper)(C:bA (bA Nat))(σ cq:bA Nat):Bool:=
 Region.noSelect ops&&(List.range ops.size).all (λi=>σ.contains i)&&σ.all (λi=>Nat.blt i ops.size)&&(List.range σ.length).all (λk=>Nat.beq (ee σ (σ.getD k 0)) k)&&
 T9 ops σ&&Ua ops C σ cq&&Ub ops&&Uc ops&&Ud ops σ cq&&ops.toList.all (λo=> !jw o.op||o.dst.isSome)&&Nat.beq σ.length ops.size
def Az(ops:cb Oper)(C:bA (bA Nat))(cq:bA Nat):Bool:= !C.isEmpty&&C.all λσ=>qn ops C σ cq
def wK{ops:cb Oper}{L:Nat->Bool}(k:∀j o,L j=true->ops[j]?=some o->∀e∈o.after,Region.binds .any e=true->L e.on=true):
  ∀(f j:Nat),(∀o,ops[j]?=some o->∀e∈o.after,Region.binds .any e=true->L e.on=true)->∀i,(mL ops f j).testBit i=true->L i=true:=by
 intro f;induction f with
 |zero=>intro j _ i h;simp[mL]at h
 |succ f q=>
  intro j p i h;unfold mL GV at h;split at h;·simp at h
  ·rename_i o ho;have key:∀(l:bA Edge) (s:Nat),(∀e∈l,e∈o.after)->(s.testBit i=true->L i=true)->
     (l.foldl (λs e=>bif Region.binds .any e then s ||| 2^e.on ||| mL ops f e.on else s) s).testBit i=true->L i=true:=by
    intro l;induction l with
    |nil=>intro s _ c h;exact c h
    |cons e l n=>
     intro s hl c h;rw[Gh]at h;refine n _ (λe' b=>hl e' (fT _ b)) ?_ h;intro hb;cases a:Region.binds .any e with
     |false=>rw[a,hh]at hb;exact c hb
     |true=>
      rw[a,hM]at hb;simp only[Nat.testBit_or,jE]at hb;have d:L e.on=true:=p o ho e (hl e (fz ..)) a;rcases hb with(hb|hb)|hb;·exact c hb
      ·rw[rI]at hb;simp only[gE]at hb;rw[<- hb];exact d
      ·exact q e.on (λo' m e' b g=>k e.on o' d m e' b g) i hb
   exact key o.after.toList 0 (λe he=>by simpa using he) (by simp) h
def hX(ops:cb Oper)(o:Oper)(a b:Act):Prop:=∀t∈o.looksAt ops,a.tmps[t]?=b.tmps[t]?
def hX.exec{ops:cb Oper}{o:Oper}{a b:Act}(c:∀cs b,o.op≠ .select cs b)(h:hX ops o a b):execOp a.eval o=execOp b.eval o:=by
 refine execOp_congr o c λx hx=>?_;cases x with
 |tmp t=>
  have:t∈o.looksAt ops:=mE _ (v7.2 ⟨.tmp t,by simpa using hx,rfl⟩);have:=h t this;simp[Act.eval,iQ,this]
 |const v=>rfl
 |global g=>rfl
 |func f=>rfl
def hX.wanted{ops:cb Oper}{o:Oper}{a b:Act}(h:hX ops o a b):Region.wanted o (yielded ops a.tmps)=Region.wanted o (yielded ops b.tmps):=by
 unfold Region.wanted;cases e:o.guard with
 |none=>rfl
 |some g=>
  obtain⟨j,want⟩:=g;dsimp only;have:yielded ops a.tmps j=yielded ops b.tmps j:=by
   unfold yielded;cases c:(ops[j]?).bind (·.dst)with
   |none=>rfl
   |some d=>
    have hm:d∈o.looksAt ops:=by
     unfold Oper.looksAt;rw[e];exact nM _ (by simp[c])
    simp only[Ge,h d hm]
  rw[this]
def Ue{o:Oper}{a b:Act}{w:bH}{K g:Act->bg0}{Q Q':Exit->Act->bg0}(he:execOp a.eval o=execOp b.eval o)(h:o.wp P b w K Q)(hk:∀v w',K (b.put o.dst v) w'->g (a.put o.dst v) w')(hp:∀c w',Q (.panic c) b w'->Q' (.panic c) a w')(ho:LetsOut Q->LetsOut Q')(f:∀d w',¬ K ({b with defers:=d::b.defers}.put o.dst undef) w'):o.wp P a w g Q':=by
 unfold Oper.wp at h ⊢;rw[he];generalize (execOp b.eval o).run P w=r at h;cases r with
 |ok n i=>
  cases n<;>first
   |exact hk _ _ h
   |exact h.elim
   |skip
  ·exact Calls.mono h λe w' he=>by
    cases e with
    |returned v=>exact hk _ _ he
    |panicked c=>exact hp _ _ he
    |outgrown=>exact ho he
  ·exact(f _ _ h).elim
  ·exact Rows.mono h λv w' he=>hk _ _ he
 |halt x i=>
  cases x<;>first
   |exact hp _ _ h
   |exact h.elim
structure k3(ops:cb Oper)(σ cq:bA Nat):Prop where
 nk:Region.noSelect ops=true
 all:∀i,i<ops.size->i∈σ
 lt:∀i∈σ,i<ops.size
 pos:∀k i,σ[k]?=some i->ee σ i=k
 reads:∀i o,ops[i]?=some o->∀t∈o.looksAt ops,∀j oj,ops[j]?=some oj->oj.dst=some t->(nQ ops j i=true/\ee σ j<ee σ i)\/(nQ ops i j=true/\ee σ i<ee σ j)
 dst:∀(i j:Nat) (oi oj:Oper) (d:Nat),ops[i]?=some oi->ops[j]?=some oj->oi.dst=some d->oj.dst=some d->i=j
 ua:∀i o,ops[i]?=some o->∀e∈o.after,Region.binds .any e=true->e.on<i
 rd:∀(i:Nat) (o:Oper),ops[i]?=some o->jw o.op=true->o.dst≠none
 len:σ.length=ops.size
 Uf:∀i o,ops[i]?=some o->i∉cq->jw o.op=true->∀t∈o.looksAt ops,∀j oj,ops[j]?=some oj->oj.dst=some t->nQ ops j i=true/\ee σ j<ee σ i
def jf{ops:cb Oper}{i:Nat}{o:Oper}(h:ops[i]?=some o):i<ops.size:=by
 rcases hN i ops.size with h' | h';·exact h'
 ·simp[vW h']at h
def AA(ops:cb Oper)(C:bA (bA Nat))(σ cq:bA Nat):Prop:=∀e∈cq,∀i,i<ops.size->ee σ e<ee σ i->(∃j,j<ops.size/\nQ ops j i=true/\ee σ e<=ee σ j)\/i∈cq/\∃c∈C,c.take (ee σ e+1)=σ.take (ee σ e)++[i]
def Ug{ops:cb Oper}{C:bA (bA Nat)}{σ cq:bA Nat}(h:qn ops C σ cq=true):k3 ops σ cq/\AA ops C σ cq:=by
 unfold qn at h;simp only[dA]at h;obtain⟨⟨⟨⟨⟨⟨⟨⟨⟨⟨h1,h2⟩,x⟩,y⟩,z⟩,A⟩,B⟩,D⟩,E⟩,r⟩,s⟩:=h;have l:∀i,i<ops.size->i∈σ:=λi c=>by simpa using fS.1 h2 i (fV.2 c)
 have g:∀i∈σ,i<ops.size:=λi c=>by simpa using fS.1 x i c
 have p:∀k i,σ[k]?=some i->ee σ i=k:=by
  intro k i hk;have g:k<σ.length:=by
   rcases hN k σ.length with h|h;·exact h
   ·simp[g2 h]at hk
  have:=fS.1 y k (fV.2 g);simpa[List.getD,hk]using this
 have w:∀(i:Nat) (o:Oper),ops[i]?=some o->jw o.op=true->o.dst≠none:=by
  intro i o ho hr hn;have hm:o∈ops.toList:=by rw[o1];exact mD ho
  have:=fS.1 r o hm;simp[hr,hn]at this
 refine⟨⟨h1,l,g,p,?_,?_,?_,w,m7 s,?_⟩,?_⟩
 ·intro i o ho t q j oj f n;have a:=fS.1 z i (fV.2 (jf ho));simp only[ho]at a;have b:=fS.1 (fS.1 a t q) j (fV.2 (jf f));simp only[f,wI,n,G1,jE,dA,h9]at b;rcases b with b|b|b;·simp at b
  ·exact .inl ⟨b.1,by simpa using b.2⟩
  ·exact .inr ⟨b.1,by simpa using b.2⟩
 ·intro i j oi oj d c m u v;have a:=fS.1 (fS.1 B i (fV.2 (jf c))) j (fV.2 (jf m));simp only[c,m,Ge,u,v,jE,h9]at a;rcases a with a|a;·simpa using a
  ·simp at a
 ·intro i o ho e he hb;have a:=fS.1 D i (fV.2 (jf ho));simp only[ho]at a;have b:=fS.1 a e (by simpa using he);simp only[jE,h9,hb]at b;rcases b with b|b;·cases b
  ·simpa using b
 ·intro i o ho c hr t q j oj f n;have a:=fS.1 E i (fV.2 (jf ho));simp only[ho,jE,h9]at a;rcases a with(a|a)|a;·exact absurd (by simpa using a) c
  ·rw[hr]at a;cases a
  ·have b:=fS.1 (fS.1 a t q) j (fV.2 (jf f));simp only[f,wI,n,jE,h9,dA]at b;rcases b with b|b;·simp at b
   ·exact⟨b.1,by simpa using b.2⟩
 ·intro e he i c hp;have a:=fS.1 (fS.1 A e he) i (fV.2 c);simp only[jE,h9,dA,tC,p4,kX]at a;rcases a with((a|a)|⟨j,m,a,b⟩)|⟨a,b⟩
  ·have:Nat.blt (ee σ e) (ee σ i)=true:=by simpa using hp
   rw[this]at a;cases a
  ·exact .inl ⟨e,g e (List.idxOf_lt_length_iff.1 (Gv hp (List.idxOf_lt_length_iff.2 (l i c)))),a,ep _⟩
  ·exact .inl ⟨j,fV.1 m,a,Te b⟩
  ·exact .inr ⟨a,b⟩
structure ma(ops:cb Oper)(N:Nat)(a0:Act)(M:Nat->Prop)(val:Nat->bE)(a:Act):Prop where
 defers:a.defers= []
 size:a.tmps.size=N
 put:∀j o t,ops[j]?=some o->o.dst=some t->M j->a.tmps[t]?=some (val j)
 dY:∀t,(∀j o,ops[j]?=some o->o.dst=some t->¬ M j)->a.tmps[t]?=a0.tmps[t]?
def ma.add{ops:cb Oper}{σ cq:bA Nat}(r:k3 ops σ cq){N:Nat}(p:g4 P N ops.toList=true){a0 a:Act}{M:Nat->Prop}{val:Nat->bE}(h:ma ops N a0 M val a){i:Nat}{o:Oper}(ho:ops[i]?=some o)(s:¬ M i)(v:bE):
  ma ops N a0 (λj=>M j\/j=i) (λj=>if j=i then v else val j) (a.put o.dst v):=by
 have l:o∈ops.toList:=by rw[o1];exact mD ho
 have k:=l9 p l;refine⟨?_,?_,?_,?_⟩;·cases o.dst<;>exact h.defers
 ·cases o.dst<;>simp[Act.put,h.size]
 ·intro j oj t b c g;by_cases e:j=i
  ·subst e;rw[ho]at b;injection b with b;subst b
   rw[bL rfl];have n:t<a.tmps.size:=by rw[h.size];exact k t c
   simp[Act.put,c,n]
  ·rw[bJ e];have m:M j:=g.resolve_right e;rw[<- h.put j oj t b c m];cases f:o.dst with
   |none=>rfl
   |some d=>
    have:d≠t:=λe'=>e (r.dst j i oj o t b ho c (by rw[f,e']));simp[Act.put,this]
 ·intro t q;rw[<- h.dY t (λj oj b c g=>q j oj b c (.inl g))];cases f:o.dst with
  |none=>rfl
  |some d=>
   have:d≠t:=λe'=>q i o ho (by rw[f,e']) (.inr rfl);simp[Act.put,this]
def k4(P:cP)(ops:cb Oper)(σ:bA Nat)(a0:Act)(val:Nat->bE)(w:bH)(i:Nat):Prop:=
 ∀o,ops[i]?=some o->∀b:Act,(∀t∈o.looksAt ops,(∀j oj,ops[j]?=some oj->oj.dst=some t->ee σ j<ee σ i->b.tmps[t]?=some (val j))/\
   ((∀j oj,ops[j]?=some oj->oj.dst=some t->¬ ee σ j<ee σ i)->b.tmps[t]?=a0.tmps[t]?))->
  (Region.wanted o (yielded ops b.tmps)=true/\∀w',(jw o.op=true->w'=w)->(execOp b.eval o).run P w'=.ok (.value (val i)) w')\/
  (Region.wanted o (yielded ops b.tmps)=false/\val i=undef)
def G2{σ p rest:bA Nat}{i:Nat}(h:σ=p++i::rest):σ[p.length]?=some i:=by
 subst h;simp
def k3.lt_iff{ops:cb Oper}{σ cq:bA Nat}(c:k3 ops σ cq){p rest:bA Nat}{i:Nat}(h:σ=p++i::rest)(j:Nat)(g:j<ops.size):ee σ j<ee σ i↔j∈p:=by
 have f:ee σ i=p.length:=c.pos _ _ (G2 h);rw[f];constructor
 ·intro d;obtain⟨k,hk,b⟩:=F1 (c.all j g);have a:σ[k]?=some j:=by rw[dL hk,b]
  rw[c.pos k j a]at d;subst h;rw[eN d]at a;exact eH a
 ·intro e;obtain⟨k,hk,b⟩:=F1 e;have a:σ[k]?=some j:=by subst h;rw[eN hk,dL hk,b]
  rw[c.pos k j a];exact hk
def G3{ops:cb Oper}{σ cq:bA Nat}(f:k3 ops σ cq){N:Nat}{a0 aT b:Act}{p rest:bA Nat}{val:Nat->bE}{i:Nat}{o:Oper}(k:ops[i]?=some o)(g:σ=p++i::rest)(e:ma ops N a0 (· ∈p) val aT)(hb:∀t∈o.looksAt ops,(∀j oj,ops[j]?=some oj->oj.dst=some t->ee σ j<ee σ i->b.tmps[t]?=some (val j))/\
   ((∀j oj,ops[j]?=some oj->oj.dst=some t->¬ ee σ j<ee σ i)->b.tmps[t]?=a0.tmps[t]?)):hX ops o b aT:=by
 intro t h;obtain⟨h1,h2⟩:=hb t h;by_cases hw:∃j oj,ops[j]?=some oj/\oj.dst=some t/\ee σ j<ee σ i
 ·obtain⟨j,oj,a,d,c⟩:=hw;rw[h1 j oj a d c,e.put j oj t a d ((f.lt_iff g j (jf a)).1 c)]
 ·rw[h2 (λj oj a d c=>hw ⟨j,oj,a,d,c⟩),e.dY t (λj oj a d hm=>hw ⟨j,oj,a,d,(f.lt_iff g j (jf a)).2 hm⟩)]
structure hY(P:cP)(ops:cb Oper)(σ cq:bA Nat)(N:Nat)(a0:Act)(p:bA Nat)(L:Nat->Bool)(val:Nat->bE)(a aT:Act)(T:Tr)(w:bH)(done:bA Nat):Prop where
 sub:∀j,L j=true->j∈p
 nm:∀e∈cq,e∈p->L e=true
 closed:∀j o,L j=true->ops[j]?=some o->∀e∈o.after,Region.binds .any e=true->L e.on=true
 at_:ma ops N a0 (λj=>L j=true) val a
 all:ma ops N a0 (· ∈p) val aT
 rel:Rel N T aT
 iD:∀i∈p,L i=false->k4 P ops σ a0 val w i
 kl:∀i∈p,i∉cq->(∀o,ops[i]?=some o->jw o.op=true->i∈done\/∀w',k4 P ops σ a0 val w' i)
def k4.ext{ops:cb Oper}{σ cq:bA Nat}(f:k3 ops σ cq){a0:Act}{val a:Nat->bE}{w:bH}{p rest:bA Nat}{k:Nat}(m:σ=p++k::rest){i:Nat}(c:i∈p)(l:∀j∈p,a j=val j)(h:k4 P ops σ a0 val w i):k4 P ops σ a0 a w i:=by
 intro o ho b hb;have e:ee σ i<ee σ k:=(f.lt_iff m i (jf ho)).2 c;have:=h o ho b (λt g=>⟨λj oj d n hp=>by
  rw[<- l j ((f.lt_iff m j (jf d)).1 (Gv hp e))];exact(hb t g).1 j oj d n hp,(hb t g).2⟩)
 rw[l i c];exact this
def G4{ops:cb Oper}{σ cq:bA Nat}(h:k3 ops σ cq){N:Nat}{a0 aT:Act}{p rest:bA Nat}{val:Nat->bE}{w:bH}{i:Nat}{o:Oper}(ho:ops[i]?=some o)(q:σ=p++i::rest)(d:ma ops N a0 (· ∈p) val aT){v:bE}(n:(Region.wanted o (yielded ops aT.tmps)=true/\∀w',(jw o.op=true->w'=w)->(execOp aT.eval o).run P w'=.ok (.value v) w')\/(Region.wanted o (yielded ops aT.tmps)=false/\v=undef)):
  k4 P ops σ a0 (λj=>if j=i then v else val j) w i:=by
 intro o' a b hb;rw[ho]at a;injection a with a;subst a
 have c:hX ops o b aT:=G3 h ho q d (λt k=>⟨λj oj m l hp=>by
  have h1:=(hb t k).1 j oj m l hp;have f:j≠i:=λe=>tG _ (e▸hp);simpa only[bJ f]using h1,(hb t k).2⟩)
 have g:∀cs b,o.op≠ .select cs b:=λcs b=>Region.noSelect_spec h.nk i o cs b ho;rw[c.wanted,c.exec g];simpa only[gQ]using n
def hY.read{ops:cb Oper}{σ cq:bA Nat}(f:k3 ops σ cq){N:Nat}(F:N<=8000)(r:g4 P N ops.toList=true){a0:Act}{p rest:bA Nat}{L:Nat->Bool}{val:Nat->bE}{a aT:Act}{T:Tr}{w:bH}{done:bA Nat}{i:Nat}{o:Oper}(ho:ops[i]?=some o)(q:σ=p++i::rest)(B:i∉cq)(h:hY P ops σ cq N a0 p L val a aT T w done){v:bE}{T':Tr}(y:∀t,T'.get t=T.get t)(H:(Region.wanted o (yielded ops aT.tmps)=true/\∀w',(jw o.op=true->w'=w)->(execOp aT.eval o).run P w'=.ok (.value v) w')\/(Region.wanted o (yielded ops aT.tmps)=false/\v=undef)){done':bA Nat}(z:∀j∈done,j∈done')(A:jw o.op=true->i∈done'\/(Region.wanted o (yielded ops aT.tmps)=false/\v=undef)):
  hY P ops σ cq N a0 (p++[i]) L (λj=>if j=i then v else val j) a (aT.put o.dst v) (T'.put o.dst v) w done':=by
 have m:i∉p:=λhm=>by
  have:=(f.lt_iff q i (jf ho)).2 hm;exact tG _ this
 have s:o∈ops.toList:=by rw[o1];exact mD ho
 have E:L i=false:=by
  cases u:L i with
  |false=>rfl
  |true=>exact(m (h.sub i u)).elim
 have n:∀j∈p,(if j=i then v else val j)=val j:=λj c=>by
  have:j≠i:=λe=>m (e▸c);rw[bJ this]
 refine⟨λj c=>mE _ (h.sub j c),?_,h.closed,?_,?_,(h.rel.same y).put F (l9 r s) v,?_,?_⟩
 ·intro e he b;rcases gF.1 b with b|b;·exact h.nm e he b
  ·simp only[h8]at b;subst b;exact(B he).elim
 ·refine⟨h.at_.defers,h.at_.size,λj oj t c l g=>?_,h.at_.dY⟩;have C:j≠i:=λe=>by subst e;rw[E]at g;cases g
  rw[bJ C];exact h.at_.put j oj t c l g
 ·have:=ma.add f r h.all ho m v;refine⟨this.defers,this.size,λj oj t c l hm=>this.put j oj t c l ?_,λt G=>this.dY t (λj oj c l hm=>G j oj c l ?_)⟩
  ·rcases gF.1 hm with hm|hm;·exact .inl hm
   ·exact .inr (by simpa using hm)
  ·rcases hm with hm|hm;·exact mE _ hm
   ·exact nM _ (by simp[hm])
 ·intro k hk x;rcases gF.1 hk with hk|hk;·exact k4.ext f q hk n (h.iD k hk x)
  ·simp only[h8]at hk;subst hk;exact G4 f ho q h.all H
 ·intro k hk D o' d hr;rcases gF.1 hk with hk|hk
  ·rcases h.kl k hk D o' d hr with h1|h1;·exact .inl (z _ h1)
   ·exact .inr (λw'=>k4.ext f q hk n (h1 w'))
  ·simp only[h8]at hk;subst hk;rw[ho]at d;injection d with d;subst d
   rcases A hr with h1|h1;·exact .inl h1
   ·exact .inr (λw'=>G4 f ho q h.all (.inr h1))
def wL{i:Nat}{r:bA Nat}:∀ {C:bA (bA Nat)},r∈kk i C↔i::r∈C
 |[]=>by simp[kk]
 |[]::C=>by rw[kk,wL (C:=C)];simp
 |(a::x)::C=>by
  rw[kk];cases h:Nat.beq a i with
  |true=>rw[hM,ey,wL (C:=C),ey,m7 h];simp
  |false=>
   have b:i≠a:=λe=>by rw[e,Nat.beq_refl]at h;cases h
   rw[hh,wL (C:=C),ey];simp[b]
def wM{i:Nat}{r:bA Nat}:∀ {C:bA (bA Nat)} {s:bA Nat},i::r∈C->i∈s\/i∈rT C s
 |[],_,h=>by cases h
 |[]::C,s,h=>by
  rcases ey.1 h with h|h;·cases h
  ·exact wM (C:=C) h
 |(a::x)::C,s,h=>by
  rw[rT];cases b:s.contains a with
  |true=>
   rw[hM];rcases ey.1 h with h|h;·cases h;exact .inl (by simpa using b)
   ·exact wM h
  |false=>
   rw[hh];rcases ey.1 h with h|h;·cases h;exact .inr (fz ..)
   ·rcases wM (s:=a::s) h with h|h
    ·rcases ey.1 h with h|h;·subst h;exact .inr (fz ..)
     ·exact .inl h
    ·exact .inr (fT _ h)
def G5{f:Nat->Prop}{i:Nat}:∀ {l:bA Nat},qk f l->i∈l->f i
 |[],_,h=>by cases h
 |[a],h,c=>by rw[h8.1 c];exact h
 |a::b::l,h,c=>by
  rcases ey.1 c with e|c;·rw[e];exact h.1
  ·exact G5 (l:=b::l) h.2 c
def G6{ops:cb Oper}{cq:bA Nat}{Q:Exit->Tr->bg0}{n i:Nat}{o:Oper}{r:bA Nat}{C:bA (bA Nat)}{done:bA Nat}{T:Tr}{w:bH}(h:gx P τ ρ cz A ops cq Q (n+1) C done T w)(a:i::r∈C)(ho:ops[i]?=some o):
  bif cq.contains i
    then kj ops o T (λT=>nf P τ ρ cz A o T w (λT' w'=>p9 P τ ρ ops T' w' (gx P τ ρ cz A ops cq Q n (kk i C) done T' w') (done.filter λj=> !(mL ops ops.size i).testBit j)) (qe Q))
     (λT=>gx P τ ρ cz A ops cq Q n (kk i C) done (T.put o.dst undef) w)
    else kj ops o T (λT=>vQ P τ ρ o T.ev w λv=>gx P τ ρ cz A ops cq Q n (kk i C) (bif jw o.op then i::done else done) (T.put o.dst v) w)
     (λT=>gx P τ ρ cz A ops cq Q n (kk i C) done (T.put o.dst undef) w):=by
 unfold gx at h;have:=G5 h ((wM (s:=[]) a).resolve_left (by simp));simp only[ho]at this;exact this
def mb(a:bA (bA Nat))(p:bA Nat)(C:bA (bA Nat)):Prop:=∀r,p++r∈a↔r∈C
def mb.step{a C:bA (bA Nat)}{p:bA Nat}(h:mb a p C)(i:Nat):mb a (p++[i]) (kk i C):=λr=>by
 rw[wL,<- h,dm];rfl
def hY.reads{ops:cb Oper}{q:bA (bA Nat)}{σ cq:bA Nat}(m:k3 ops σ cq)(n:σ∈q){N:Nat}(l:N<=8000)(b:g4 P N ops.toList=true){a0:Act}{L:Nat->Bool}{a:Act}{Q:Exit->Tr->bg0}{w:bH}{B:Prop}:
  ∀(rest p:bA Nat) (C:bA (bA Nat)) (val:Nat->bE) (aT:Act) (T:Tr) (done:bA Nat),σ=p++rest->mb q p C->hY P ops σ cq N a0 p L val a aT T w done->gx P τ ρ cz A ops cq Q rest.length C done T w->
   (∀(d p':bA Nat) (u:bA (bA Nat)) (t:Nat->bE) (x:Act) (T':Tr) (done':bA Nat),σ=p'++d->mb q p' u->(∀i∈d.head?,i∈cq)->hY P ops σ cq N a0 p' L t a x T' w done'->gx P τ ρ cz A ops cq Q d.length u done' T' w->B)->B
 |[],p,C,val,aT,T,done,c,k,h,e,hB=>hB [] p C val aT T done c k (by simp) h e
 |i::rest,p,C,val,aT,T,done,c,k,h,e,hB=>by
  by_cases g:i∈cq;·exact hB (i::rest) p C val aT T done c k (by simpa using g) h e
  ·have F:i<ops.size:=m.lt i (by rw[c];simp);have ho:ops[i]?=some ops[i]:=oc F;generalize ops[i]=o at ho;have s:o∈ops.toList:=by rw[o1];exact mD ho
   have e:=G6 e ((k _).1 (c▸n)) ho;have E:cq.contains i=false:=by simpa using g
   rw[E,hh]at e;refine pf (B:=B) l b h.rel e ?_ ?_
   ·intro D f z hw;rw[<- (h.rel.same f).ev]at z;obtain⟨v,h1,h2⟩:=tS (ow b s) z;have:=h.read m l b ho c g f (v:=v) (.inl ⟨hw,λw' y=>h1 w' (λhr=>by rw[y hr];exact .refl w)⟩)
     (done':=bif jw o.op then i::done else done) (λj r=>by cases jw o.op<;>simp[r]) (λhr=>.inl (by rw[hr];simp))
    exact hY.reads m n l b rest (p++[i]) _ _ _ _ _ (by rw[c];simp) (k.step i) this h2 hB
   ·intro D f hn hw;have:=h.read m l b ho c g f (v:=undef) (.inr ⟨hw,rfl⟩) (done':=done) (λj r=>r) (λ_=>.inr ⟨hw,rfl⟩);exact hY.reads m n l b rest (p++[i]) _ _ _ _ _ (by rw[c];simp) (k.step i) this hn hB
def k4.ox{ops:cb Oper}{p r r':bA Nat}{a0:Act}{val:Nat->bE}{w:bH}{i:Nat}(d:i∈p)(h:k4 P ops (p++r) a0 val w i):k4 P ops (p++r') a0 val w i:=by
 have a:∀j:Nat,ee (p++r) j<ee (p++r) i↔ee (p++r') j<ee (p++r') i:=by
  intro j;unfold ee;have:=List.idxOf_lt_length_of_mem d;rw[F9,F9,F9,F9,bL d,bL d];split;·exact l5
  ·omega
 intro o ho b hb;exact h o ho b λt f=>⟨λj oj e c hp=>(hb t f).1 j oj e c ((a j).1 hp),λhn=>(hb t f).2 λj oj e c hp=>hn j oj e c ((a j).2 hp)⟩
def hY.ox{ops:cb Oper}{p r r' cq:bA Nat}{N:Nat}{a0:Act}{L:Nat->Bool}{val:Nat->bE}{a aT:Act}{T:Tr}{w:bH}{done:bA Nat}(h:hY P ops (p++r) cq N a0 p L val a aT T w done):hY P ops (p++r') cq N a0 p L val a aT T w done:=
 ⟨h.sub,h.nm,h.closed,h.at_,h.all,h.rel,λi b hl=>(h.iD i b hl).ox b,λi b he o ho hr=>(h.kl i b he o ho hr).imp id λh w'=>(h w').ox b⟩
def hY.looks{ops:cb Oper}{σ cq:bA Nat}(l:k3 ops σ cq){N:Nat}{a0:Act}{p:bA Nat}{L:Nat->Bool}{val:Nat->bE}{a aT:Act}{T:Tr}{w:bH}{done:bA Nat}(h:hY P ops σ cq N a0 p L val a aT T w done){i:Nat}{o:Oper}(ho:ops[i]?=some o)(q:L i=false)(g:∀e∈o.after,Region.binds .any e=true->L e.on=true):
  ∀t∈o.looksAt ops,(∀j oj,ops[j]?=some oj->oj.dst=some t->ee σ j<ee σ i->a.tmps[t]?=some (val j))/\
   ((∀j oj,ops[j]?=some oj->oj.dst=some t->¬ ee σ j<ee σ i)->a.tmps[t]?=a0.tmps[t]?):=by
 intro t m;have f:∀j,nQ ops j i=true->L j=true:=λj c=>
  wK (L:=L) h.closed ops.size i (λo' b=>by rw[ho]at b;injection b with b;subst b;exact g) j c
 constructor
 ·intro j oj c d hp;rcases l.reads i o ho t m j oj c d with⟨h1,_⟩|⟨_,h2⟩
  ·exact h.at_.put j oj t c d (f j h1)
  ·exact absurd hp (Nat.lt_asymm h2)
 ·intro k;refine h.at_.dY t (λj oj c d n=>?_);rcases l.reads i o ho t m j oj c d with⟨_,h2⟩|⟨h1,_⟩
  ·exact k j oj c d h2
  ·have:=wK (L:=L) h.closed ops.size j (λo' b e he hb=>h.closed j o' n b e he hb) i h1;rw[q]at this;cases this
def AB{ops:cb Oper}{N:Nat}(n:N<=8000)(f:g4 P N ops.toList=true){T:Tr}{aT:Act}{w:bH}{next:Prop}(hr:Rel N T aT):∀(l:bA Nat),p9 P τ ρ ops T w next l->
  next/\∀j∈l,∀o,ops[j]?=some o->(Region.wanted o (yielded ops aT.tmps)=true/\∃v,(∀w',(jw o.op=true->Grow w w')->(execOp aT.eval o).run P w'=.ok (.value v) w')/\∀d,o.dst=some d->v=T.get d)\/Region.wanted o (yielded ops aT.tmps)=false
 |[],h=>⟨h,λ_ h=>by cases h⟩
 |j::l,h=>by
  unfold p9 at h;split at h;·exact h.elim
  ·rename_i o ho;have p:o∈ops.toList:=by rw[o1];exact mD ho
   refine pf (B:=next/\∀k∈j::l,∀o,ops[k]?=some o->(Region.wanted o (yielded ops aT.tmps)=true/\∃v,(∀w',(jw o.op=true->Grow w w')->(execOp aT.eval o).run P w'=.ok (.value v) w')/\∀d,o.dst=some d->v=T.get d)\/Region.wanted o (yielded ops aT.tmps)=false) n f hr h ?_ ?_
   ·intro t b s hw;rw[<- (hr.same b).ev]at s;obtain⟨v,h1,h2,u⟩:=tS (ow f p) s;obtain⟨hn,c⟩:=AB n f (hr.same b) l u;refine⟨hn,λk hk o' a=>?_⟩;rcases ey.1 hk with hk|hk
    ·subst hk;rw[ho]at a;injection a with a;subst a
     refine .inl ⟨hw,v,h1,λd g=>?_⟩;rw[g]at h2;exact h2.trans (b d)
    ·rcases c k hk o' a with⟨e,q,i,m⟩|e;·exact .inl ⟨e,q,i,λd g=>(m d g).trans (b d)⟩
     ·exact .inr e
   ·intro t b hn hw;obtain⟨r,c⟩:=AB n f (hr.same b) l hn;refine⟨r,λk hk o' a=>?_⟩;rcases ey.1 hk with hk|hk
    ·subst hk;rw[ho]at a;injection a with a;subst a
     exact .inr hw
    ·rcases c k hk o' a with⟨e,q,i,m⟩|e;·exact .inl ⟨e,q,i,λd g=>(m d g).trans (b d)⟩
     ·exact .inr e
def hY.effect{ops:cb Oper}{σ cq:bA Nat}(n:k3 ops σ cq){N:Nat}(al:N<=8000)(K:g4 P N ops.toList=true){a0:Act}{p rest:bA Nat}{L:Nat->Bool}{val:Nat->bE}{a aT:Act}{T I:Tr}{w w':bH}{done:bA Nat}{i:Nat}{o:Oper}(ho:ops[i]?=some o)(H:σ=p++i::rest)(ab:i∈cq)(h:hY P ops σ cq N a0 p L val a aT T w done)(Z:∀t,I.get t=T.get t)(M:∀e∈o.after,Region.binds .any e=true->L e.on=true)(v:bE)(O:(w'=w)\/∀j∈done.filter (λj=> !(mL ops ops.size i).testBit j),∀oj,ops[j]?=some oj->
   (Region.wanted oj (yielded ops (aT.put o.dst v).tmps)=true/\∃u,(∀w2,(jw oj.op=true->Grow w' w2)->(execOp (aT.put o.dst v).eval oj).run P w2=.ok (.value u) w2)/\∀d,oj.dst=some d->u=(I.put o.dst v).get d)\/Region.wanted oj (yielded ops (aT.put o.dst v).tmps)=false)(S:∀(j:Nat) (oj:Oper),ops[j]?=some oj->jw oj.op=true->oj.dst≠none):
  hY P ops σ cq N a0 (p++[i]) (λj=>L j||Nat.beq j i) (λj=>if j=i then v else val j) (a.put o.dst v) (aT.put o.dst v) (I.put o.dst v) w' done:=by
 have J:i∉p:=λhm=>tG _ ((n.lt_iff H i (jf ho)).2 hm);have U:o∈ops.toList:=by rw[o1];exact mD ho
 have ak:L i=false:=by
  cases Y:L i with
  |false=>rfl
  |true=>exact(J (h.sub i Y)).elim
 have A:∀j∈p,(if j=i then v else val j)=val j:=λj c=>by
  have:j≠i:=λe=>J (e▸c);rw[bJ this]
 have l:ma ops N a0 (· ∈p++[i]) (λj=>if j=i then v else val j) (aT.put o.dst v):=by
  have:=ma.add n K h.all ho J v;refine⟨this.defers,this.size,λj oj t c g hm=>this.put j oj t c g ?_,λt q=>this.dY t (λj oj c g hm=>q j oj c g ?_)⟩
  ·rcases gF.1 hm with hm|hm;·exact .inl hm
   ·exact .inr (by simpa using hm)
  ·rcases hm with hm|hm;·exact mE _ hm
   ·exact nM _ (by simp[hm])
 have G:Rel N (I.put o.dst v) (aT.put o.dst v):=(h.rel.same Z).put al (l9 K U) v;refine⟨?_,?_,?_,?_,l,G,?_,?_⟩
 ·intro j c;simp only[jE]at c;rcases c with c|c;·exact mE _ (h.sub j c)
  ·exact nM _ (by simpa using c)
 ·intro e he s;rcases gF.1 s with s|s;·simp[h.nm e he s]
  ·simp only[h8]at s;subst s;simp
 ·intro j oj c z e he hb;simp only[jE]at c ⊢;rcases c with c|c;·exact .inl (h.closed j oj c z e he hb)
  ·have:j=i:=by simpa using c
   subst this;rw[ho]at z;injection z with z;subst z
   exact .inl (M e he hb)
 ·have:=ma.add n K h.at_ ho (by rw[ak];simp) v;refine⟨this.defers,this.size,λj oj t c g hm=>this.put j oj t c g ?_,λt q=>this.dY t (λj oj c g hm=>q j oj c g ?_)⟩
  ·simp only[jE]at hm;rcases hm with hm|hm;·exact .inl hm
   ·exact .inr (by simpa using hm)
  ·simp only[jE];rcases hm with hm|hm;·exact .inl hm
   ·exact .inr (by simp[hm])
 ·intro k hk r;simp only[FX]at r;have ad:k≠i:=λe=>by subst e;rw[j3]at r;simp at r
  have m:k∈p:=by
   rcases gF.1 hk with hk|hk;·exact hk
   ·exact(ad (by simpa using hk)).elim
  have hold:=k4.ext n H m A (h.iD k m r.1);rcases O with rfl|O;·exact hold
  ·intro ok f b hb;have am:=f;have y:k∉cq:=λhe=>by have:=h.nm k he m;rw[r.1]at this;cases this
   cases F:jw ok.op with
   |false=>
    rcases hold ok f b hb with⟨h1,h2⟩|h1;·exact .inl ⟨h1,λw2 _=>h2 w2 (λe=>by rw[F]at e;cases e)⟩
    ·exact .inr h1
   |true=>
    have W:=n.Uf k ok f y F;have V:ee σ k<ee σ i:=(n.lt_iff H k (jf f)).2 m;have B:∀t∈ok.looksAt ops,(∀j oj,ops[j]?=some oj->oj.dst=some t->ee σ j<ee σ k->(aT.put o.dst v).tmps[t]?=some ((λj=>if j=i then v else val j) j))/\
      ((∀j oj,ops[j]?=some oj->oj.dst=some t->¬ ee σ j<ee σ k)->(aT.put o.dst v).tmps[t]?=a0.tmps[t]?):=by
     intro t q;refine⟨λj oj c g hp=>l.put j oj t c g (mE _ ((n.lt_iff H j (jf c)).1 (Gv hp V))),λD=>l.dY t (λj oj c g _=>D j oj c g (W t q j oj c g).2)⟩
    have R:hX ops ok b (aT.put o.dst v):=by
     intro t q;by_cases hw:∃j oj,ops[j]?=some oj/\oj.dst=some t/\ee σ j<ee σ k
     ·obtain⟨j,oj,c,g,C⟩:=hw;rw[(hb t q).1 j oj c g C,(B t q).1 j oj c g C]
     ·have D:∀j oj,ops[j]?=some oj->oj.dst=some t->¬ ee σ j<ee σ k:=λj oj c g C=>hw ⟨j,oj,c,g,C⟩;rw[(hb t q).2 D,(B t q).2 D]
    have af:∀cs b,ok.op≠ .select cs b:=λcs b=>Region.noSelect_spec n.nk k ok cs b f;rw[R.wanted,R.exec af];rcases hold ok f (aT.put o.dst v) B with⟨h1,_⟩|h1
    ·have x:k∈done\/∀w2,k4 P ops σ a0 val w2 k:=h.kl k m y ok f F;rcases x with x|x
     ·have ae:(mL ops ops.size i).testBit k=false:=by
       cases aa:(mL ops ops.size i).testBit k with
       |false=>rfl
       |true=>
        have:=wK (L:=L) h.closed ops.size i (λo' E=>by rw[ho]at E;injection E with E;subst E;exact M) k aa;rw[r.1]at this;cases this
      rcases O k (gq.2 ⟨x,by rw[ae];rfl⟩) ok f with⟨_,u,h2,aj⟩|h2
      ·refine .inl ⟨h1,λw2 Q=>?_⟩;cases g:ok.dst with
       |none=>exact(S k ok f F g).elim
       |some d=>
        have ag:=aj d g;have ah:(I.put o.dst v).get d=(if k=i then v else val k):=by
         have ai:=l.put k ok d f g (mE _ m);have X:=G.get d;simp only[iQ,ai,mH]at X;exact X.symm
        rw[h2 w2 (λ_=>by rw[Q rfl];exact .refl _),ag,ah]
      ·rw[h1]at h2;cases h2
     ·rcases k4.ext n H m A (x w') ok f (aT.put o.dst v) B with h2|h2;·exact .inl ⟨h2.1,λw2 Q=>h2.2 w2 (λ_=>Q rfl)⟩
      ·exact .inr h2
    ·exact .inr h1
 ·intro k hk y ok f hr;rcases gF.1 hk with hk|hk
  ·rcases h.kl k hk y ok f hr with h1|h1;·exact .inl h1
   ·exact .inr (λw2=>k4.ext n H hk A (h1 w2))
  ·simp only[h8]at hk;subst hk;exact(y ab).elim
def hY.mc{ops:cb Oper}{σ cq:bA Nat}(r:k3 ops σ cq){N:Nat}(n:g4 P N ops.toList=true){a0:Act}{p:bA Nat}{L:Nat->Bool}{val:Nat->bE}{a aT:Act}{T:Tr}{w:bH}{done:bA Nat}{i:Nat}{o:Oper}(ho:ops[i]?=some o)(m:i∈p)(q:L i=false)(h:hY P ops σ cq N a0 p L val a aT T w done)(g:∀e∈o.after,Region.binds .any e=true->L e.on=true):
  hY P ops σ cq N a0 p (λj=>L j||Nat.beq j i) val (a.put o.dst (val i)) aT T w done:=by
 refine⟨?_,?_,?_,?_,h.all,h.rel,?_,h.kl⟩
 ·intro j b;simp only[jE]at b;rcases b with b|b;·exact h.sub j b
  ·have:j=i:=by simpa using b
   subst this;exact m
 ·intro e he l;simp[h.nm e he l]
 ·intro j oj b c e he hb;simp only[jE]at b ⊢;rcases b with b|b;·exact .inl (h.closed j oj b c e he hb)
  ·have:j=i:=by simpa using b
   subst this;rw[ho]at c;injection c with c;subst c
   exact .inl (g e he hb)
 ·have:=ma.add r n h.at_ ho (by rw[q];simp) (val i);refine⟨this.defers,this.size,λj oj t b f hm=>?_,λt s=>this.dY t (λj oj b f hm=>s j oj b f ?_)⟩
  ·have h1:=this.put j oj t b f (by
    simp only[jE]at hm;rcases hm with hm|hm;·exact .inl hm
    ·exact .inr (by simpa using hm))
   by_cases e:j=i;·subst e;simpa using h1
   ·simpa only[bJ e]using h1
  ·simp only[jE];rcases hm with hm|hm;·exact .inl hm
   ·exact .inr (by simp[hm])
 ·intro k hk d;simp only[FX]at d;exact h.iD k hk d.1
def rV(n:Nat)(listed:cb Bool):Nat:=(List.range n).countP λi=> !listed.getD i true
def G7{p q:Nat->Bool}:∀(l:bA Nat),(∀x∈l,q x=true->p x=true)->(∃x∈l,p x=true/\q x=false)->l.countP q<l.countP p
 |[],_,⟨_,h,_⟩=>by cases h
 |x::l,c,⟨y,d,a,b⟩=>by
  have hle:l.countP q<=l.countP p:=by
   have:∀(l:bA Nat),(∀x∈l,q x=true->p x=true)->l.countP q<=l.countP p:=by
    intro l;induction l with
    |nil=>intro _;simp
    |cons z l i=>
     intro h;have h1:=i (λx hx=>h x (fT _ hx));have h2:=h z (fz ..);simp only[Gf];cases g:q z with
     |false=>simp;omega
     |true=>simp[h2 g];omega
   exact this l (λx hx=>c x (fT _ hx))
  simp only[Gf];rcases ey.1 d with e|d;·subst e;simp[a,b];omega
  ·have i:=G7 l (λx hx=>c x (fT _ hx)) ⟨y,d,a,b⟩;have h2:=c x (fz ..);cases f:q x with
   |false=>simp;omega
   |true=>simp[h2 f];omega
def mem_ready{ops:cb Oper}{listed:cb Bool}{i:Nat}(h:i∈Region.ready .any ops listed):
  ∃o,ops[i]?=some o/\listed.getD i true=false/\∀e∈o.after,Region.binds .any e=true->listed.getD e.on false=true:=by
 unfold Region.ready at h;obtain⟨b,a⟩:=gq.1 h;have b:=fV.1 b;rw[oc b]at a;simp only[dA,h9,gh,mH]at a;refine⟨ops[i],oc b,a.1,λe he hb=>?_⟩;have:=Array.all_eq_true'.1 a.2 e he;simpa[hb]using this
def Uh{ops:cb Oper}{listed:cb Bool}{i:Nat}{o:Oper}(ho:ops[i]?=some o)(hl:listed.getD i true=false)(h:∀e∈o.after,Region.binds .any e=true->listed.getD e.on false=true):
  i∈Region.ready .any ops listed:=by
 unfold Region.ready;refine gq.2 ⟨fV.2 (jf ho),?_⟩;simp only[ho,gh,mH,dA,h9];refine⟨hl,Array.all_eq_true'.2 λe he=>?_⟩;cases hb:Region.binds .any e with
 |false=>simp
 |true=>simp[h e he hb]
def Ui{ops:cb Oper}{σ cq:bA Nat}(c:k3 ops σ cq){listed:cb Bool}(d:listed.size=ops.size)(h:Region.ready .any ops listed= []):∀i,i<ops.size->listed.getD i false=true:=by
 intro i;induction i using Nat.strongRecOn with
 |_ i f=>
  intro a;cases hl:listed.getD i false with
  |true=>rfl
  |false=>
   have ho:ops[i]?=some ops[i]:=oc a;have b:listed.getD i true=false:=by
    have:i<listed.size:=by rw[d];exact a
    simp only[Array.getD,this,dif_pos]at hl ⊢;exact hl
   have:=Uh ho b (λe he hb=>f e.on (c.ua i _ ho e he hb) (Gv (c.ua i _ ho e he hb) a));rw[h]at this;cases this
def Uj{listed:cb Bool}{n i j:Nat}(a:listed.size=n)(b:i<n):(listed.setIfInBounds i true).getD j false=(listed.getD j false||Nat.beq j i):=by
 simp only[iQ,oa];by_cases e:i=j
 ·subst e;have:i<listed.size:=by rw[a];exact b
  simp[this]
 ·rw[bJ e];have:Nat.beq j i=false:=by rw[j3];simpa using λh=>e h.symm
  rw[this,o6]
def G8{a:Act}:∀(l:bA Nat) (T:Tr),(∀d∈l,d<8000)->∃T':Tr,(∀t,t∉l->T'.get t=T.get t)/\∀t∈l,T'.get t=a.tmps.getD t undef
 |[],T,_=>⟨T,λ_ _=>rfl,λ_ h=>by cases h⟩
 |d::l,T,c=>by
  obtain⟨f,h1,h2⟩:=G8 (a:=a) l T (λx hx=>c x (fT _ hx));refine⟨f.put (some d) (a.tmps.getD d undef),λt b=>?_,λt b=>?_⟩
  ·rw[Tr.dI _ _ _ _ (c d (by simp)),bJ (λe=>b (by rw[e];simp))];exact h1 t (λg=>b (fT _ g))
  ·rw[Tr.dI _ _ _ _ (c d (by simp))];by_cases e:t=d;·rw[bL e,e]
   ·rw[bJ e];rcases ey.1 b with h|h;·exact absurd h e
    ·exact h2 t h
def Uk{ops:cb Oper}{N:Nat}(i:N<=8000)(f:g4 P N ops.toList=true){a0 a:Act}{c:Tr}(g:Rel N c a0){M:Nat->Prop}{val:Nat->bE}(h:ma ops N a0 M val a):∃T',Fr (eF ops.toList) c T'/\Rel N T' a:=by
 obtain⟨T',h1,h2⟩:=G8 (a:=a) (eF ops.toList) c (λd b=>by
  unfold eF at b;obtain⟨o,ho,he⟩:=v7.1 b;exact lG (l9 f ho d he) i)
 refine⟨T',h1,h.defers,h.size,λt=>?_⟩;by_cases e:t∈eF ops.toList;·exact(h2 t e).symm
 ·rw[h1 t e,<- g.get t];have:=h.dY t (λj o ho b=>absurd (by
   unfold eF;exact v7.2 ⟨o,by rw[o1];exact mD ho,b⟩) e)
  rw[iQ,iQ,this]
def Ul{ops:cb Oper}{ae:bA (bA Nat)}{cq:bA Nat}(J:∀σ∈ae,k3 ops σ cq/\AA ops ae σ cq){N:Nat}(K:N<=8000)(n:g4 P N ops.toList=true){a0:Act}{aD:Tr}(az:Rel N aD a0){Q:Exit->Tr->bg0}{Q':Exit->Act->bg0}(a2:∀T w a,Q .normal T w->Fr (eF ops.toList) aD T->Rel N T a->Q' .normal a w)(aW:∀ak T w a,Q (.panic ak) T w->Fr (eF ops.toList) aD T->Rel N T a->Q' (.panic ak) a w):
  ∀(fuel:Nat) (listed:cb Bool) (σ p rest:bA Nat) (C:bA (bA Nat)) (val:Nat->bE) (a aT:Act) (T:Tr) (w:bH) (done:bA Nat),listed.size=ops.size->rV ops.size listed<=fuel->σ∈ae->σ=p++rest->mb ae p C->(∀i∈rest.head?,i∈cq)->
   hY P ops σ cq N a0 p (λj=>listed.getD j false) val a aT T w done->gx P τ ρ cz A ops cq Q rest.length C done T w->wpAny P .any ops Q' fuel listed a w:=by
 have fin:∀(listed:cb Bool) (σ p rest:bA Nat) (C:bA (bA Nat)) (val:Nat->bE) (a aT:Act) (T:Tr) (w:bH) (done:bA Nat),(∀i,i<ops.size->listed.getD i false=true)->σ∈ae->σ=p++rest->(∀i∈rest.head?,i∈cq)->
   hY P ops σ cq N a0 p (λj=>listed.getD j false) val a aT T w done->gx P τ ρ cz A ops cq Q rest.length C done T w->Q' .normal a w:=by
  intro listed σ p rest C val a aT T w done hl g l m h z;have f:=(J σ g).1;have aq:rest= []:=by
   cases rest with
   |nil=>rfl
   |cons e r=>
    have he:e<ops.size:=f.lt e (by rw[l];simp);have aw:e∈p:=h.sub e (hl e he);exact(tG _ ((f.lt_iff l e he).2 aw)).elim
  subst aq;have hp:∀j,j<ops.size->j∈p:=λj D=>h.sub j (hl j D);have X:∀t:Nat,a.tmps[t]?=aT.tmps[t]? :=by
   intro t;by_cases hw:∃(j:Nat) (oj:Oper),ops[j]?=some oj/\oj.dst=some t
   ·obtain⟨j,oj,D,u⟩:=hw;rw[h.at_.put j oj t D u (hl j (jf D)),h.all.put j oj t D u (hp j (jf D))]
   ·rw[h.at_.dY t (λj oj D u _=>hw ⟨j,oj,D,u⟩),h.all.dY t (λj oj D u _=>hw ⟨j,oj,D,u⟩)]
  refine a2 T w a z ?_ ⟨h.at_.defers,h.at_.size,λt=>?_⟩
  ·intro t a3;have aS:∀(j:Nat) (oj:Oper),ops[j]?=some oj->oj.dst=some t->¬ j∈p:=λj oj D u _=>
    a3 (v7.2 ⟨oj,by rw[o1];exact mD D,u⟩)
   rw[<- h.rel.get t,<- az.get t];simp only[iQ,h.all.dY t aS]
  ·rw[<- h.rel.get t];simp only[iQ,X t]
 intro fuel;induction fuel with
 |zero=>
  intro listed σ p rest C val a aT T w done G hu g l al m h z;have hl:∀i,i<ops.size->listed.getD i false=true:=by
   intro i ag;have a1:rV ops.size listed=0:=by omega
   have:=Th.1 a1 i (fV.2 ag);have s:i<listed.size:=by rw[G];exact ag
   simp only[Array.getD,s,dif_pos]at this ⊢;simpa using this
  refine⟨?_,fin listed σ p rest C val a aT T w done hl g l m h z⟩;rw[List.eq_nil_iff_forall_not_mem];intro i ag;obtain⟨o,ho,F,_⟩:=mem_ready ag;have:=hl i (jf ho);have s:i<listed.size:=by rw[G];exact jf ho
  simp only[Array.getD,s,dif_pos]at this F;rw[this]at F;cases F
 |succ fuel aM=>
  intro listed σ p rest C val a aT T w done G hu g l al m h z;have f:=(J σ g).1;refine⟨λhr=>fin listed σ p rest C val a aT T w done (Ui f G hr) g l m h z,λi ag=>?_⟩;obtain⟨o,ho,F,y⟩:=mem_ready ag;have E:=jf ho;have s:i<listed.size:=by rw[G];exact E
  have V:listed.getD i false=false:=by
   simp only[Array.getD,s,dif_pos]at F ⊢;exact F
  have R:(listed.setIfInBounds i true).size=ops.size:=by simp[G]
  have ao:rV ops.size (listed.setIfInBounds i true)<=fuel:=by
   have:rV ops.size (listed.setIfInBounds i true)<rV ops.size listed:=by
    refine G7 _ (λx _ hx=>?_) ⟨i,fV.2 E,by simp[F],?_⟩
    ·simp only[h9,iQ,oa]at hx ⊢;by_cases e:i=x;·subst e;simp[s]at hx
     ·rw[bJ e]at hx;exact hx
    ·simp[Array.getD,s]
   omega
  have am:(λj=>(listed.setIfInBounds i true).getD j false)= λj=>listed.getD j false||Nat.beq j i:=funext λj=>Uj G E;have q:=h.looks f ho V y;unfold wpOp;simp only[ho];by_cases Y:i∈p
  ·have Z:wpAny P .any ops Q' fuel (listed.setIfInBounds i true) (a.put o.dst (val i)) w:=by
    refine aM _ σ p rest C val _ aT T w done R ao g l al m ?_ z;rw[am];exact hY.mc f n ho Y V h y
   rcases h.iD i Y V o ho a q with⟨h1,h2⟩|⟨h1,h2⟩
   ·rw[h1,bL rfl];refine .inl ?_;unfold Oper.wp;rw[h2 w (λ_=>rfl)];exact Z
   ·rw[h1,bJ bN,<- h2];exact Z
  ·
   obtain⟨ah,ab,H⟩:∃ah,p++i::ah∈ae/\i∈cq:=by
    cases rest with
    |nil=>
     have:=f.all i E;rw[l,hs]at this;exact(Y this).elim
    |cons e rest=>
     have H:e∈cq:=m e rfl;by_cases ay:i=e;·subst ay;exact⟨rest,l▸g,H⟩
     have av:e<ops.size:=f.lt e (by rw[l];simp);have aw:e∉p:=λhm=>tG _ ((f.lt_iff l e av).2 hm);have aV:ee σ e<ee σ i:=by
      have h1:¬ ee σ i<ee σ e:=λs=>Y ((f.lt_iff l i E).1 s);rcases Ga (ee σ e) (ee σ i)with h2|h2|h2;·exact h2
      ·obtain⟨k,hk,ax⟩:=F1 (f.all i E);obtain⟨aZ,aR,an⟩:=F1 (f.all e av);have af:=f.pos k i (by rw[dL hk,ax]);have aE:=f.pos aZ e (by rw[dL aR,an]);have:k=aZ:=by rw[<- af,<- aE,h2]
       subst this;exact(ay (ax.symm.trans an)).elim
      ·exact(h1 h2).elim
     rcases(J σ g).2 e H i E aV with⟨j,aQ,aN,hle⟩|⟨aO,c,aI,ar⟩
     ·have:=wK (L:=λj=>listed.getD j false) h.closed ops.size i (λo' aa=>by rw[ho]at aa;injection aa with aa;subst aa;exact y) j aN;exact absurd ((f.lt_iff l j aQ).2 (h.sub j this)) bu
     ·have aJ:ee σ e=p.length:=f.pos _ _ (G2 l);rw[aJ,l,rD (ep _),gg]at ar;have:=fK (p.length+1) c;rw[ar,dm]at this;exact⟨c.drop (p.length+1),by rw[show p++i::c.drop (p.length+1)=c from this];exact aI,aO⟩
   have hn:rest.length=ah.length+1:=by
    have h1:=f.len;have h2:=(J _ ab).1.len;rw[l,dg]at h1;rw[dg,hI]at h2;omega
   subst l;have h:=h.ox (r':=i::ah);clear q;clear f;obtain⟨σ,l⟩:∃σ,σ=p++i::ah:=⟨_,rfl⟩
   rw[<- l]at h ab;have f:=(J σ ab).1;have q:=h.looks f ho V y;rw[hn]at z;clear m g;revert z;generalize ah=rest at*
   intro z;have g:=ab;have aP:i::rest∈C:=(al _).1 (l▸g)
   ·
    have O:o∈ops.toList:=by rw[o1];exact mD ho
    have aU:∀cs b,o.op≠ .select cs b:=λcs b=>Region.noSelect_spec f.nk i o cs b ho;have X:hX ops o a aT:=G3 f ho l h.all q;have z:=G6 z aP ho;have aI:cq.contains i=true:=by simpa using H
    rw[aI,hM]at z;have aB:σ=(p++[i])++rest:=by rw[l];simp
    rw[X.wanted];refine pf (B:=if Region.wanted o (yielded ops aT.tmps)=true then o.wp P a w (wpAny P .any ops Q' fuel (listed.setIfInBounds i true)) Q'\/(o.asks P a w/\LetsOut Q')else wpAny P .any ops Q' fuel (listed.setIfInBounds i true) (a.put o.dst undef) w) K n h.rel z ?_ ?_
    ·intro ai W a4 hw;rw[hw,bL rfl];refine .inl ?_;have ad:=h.rel.same W;have aY:o.wp P aT w (λb w'=>∃v,b=aT.put o.dst v/\p9 P τ ρ ops (ai.put o.dst v) w' (gx P τ ρ cz A ops cq Q rest.length (kk i C) done (ai.put o.dst v) w') (done.filter λj=> !(mL ops ops.size i).testBit j)) (λe _ w'=>qe Q e ai w'):=
      wH ad (ow n O) a4 (λv w' hn=>⟨v,rfl,hn⟩) (λak w' hn=>hn)
     refine Ue (X.exec aU) aY ?_ (λak w' hp=>let ⟨T',f',r'⟩:=Uk K n az h.at_;aW ak T' w' a (hp T') f' r') (λ⟨_,_,h⟩=>(h:False).elim) ?_
     ·rintro v w' ⟨S,aA,hn⟩;have aK:a.put o.dst v=a.put o.dst S:=by
       cases u:o.dst with
       |none=>rfl
       |some d=>
        rw[u]at aA;have au:=l9 n O d u;have af:(aT.put (some d) v).tmps[d]?=some v:=by simp[Act.put,h.all.size,au]
        have aE:(aT.put (some d) S).tmps[d]?=some S:=by simp[Act.put,h.all.size,au]
        rw[aA,aE]at af;injection af with af
        rw[af]
      rw[aK];have ap:Rel N (ai.put o.dst S) (aT.put o.dst S):=ad.put K (l9 n O) S;obtain⟨aL,aX⟩:=AB K n ap _ hn;have M:=h.effect f K n ho l H W y S (w':=w') (.inr aX) f.rd;rw[<- am]at M;exact hY.reads f g K n rest (p++[i]) _ _ _ _ _ aB (al.step i) M aL (λI p' aC U aj T' done' h1 h2 aF aG aH=>aM _ σ p' I aC U _ aj T' w' done' R ao g h1 h2 aF aG aH)
     ·rintro d w' ⟨v,he,_⟩;have:=eK Act.defers he;cases u:o.dst<;>simp[Act.put,u]at this
    ·intro ai W hn hw;rw[hw,bJ bN];have M:=h.effect f K n ho l H W y undef (w':=w) (.inl rfl) f.rd;rw[<- am]at M;exact hY.reads f g K n rest (p++[i]) _ _ _ _ _ aB (al.step i) M hn (λI p' aC U aj T' done' h1 h2 aF aG aH=>aM _ σ p' I aC U _ aj T' w done' R ao g h1 h2 aF aG aH)
def Um{ops:cb Oper}{b:bA (bA Nat)}{cq:bA Nat}{id:Nat}(hm:P.follows .mixedOrders=true){N:Nat}(p:N<=8000)(f:g4 P N ops.toList=true)(hB:Az ops b cq=true){Q:Exit->Tr->bg0}{Q':Exit->Act->bg0}{T:Tr}{a:Act}{w:bH}(hr:Rel N T a)(h:gx P τ ρ cz A ops cq Q ops.size b [] T w.drew)(D:∀T' w' a',Q .normal T' w'->Fr (eF ops.toList) T T'->Rel N T' a'->Q' .normal a' w')(q:∀m T' w' a',Q (.panic m) T' w'->Fr (eF ops.toList) T T'->Rel N T' a'->Q' (.panic m) a' w'):(Code.region id ops true).wp P Q' a w:=by
 unfold Az at hB;rw[dA]at hB;have e:∀σ∈b,k3 ops σ cq/\AA ops b σ cq:=λσ E=>Ug (fS.1 hB.2 σ E);obtain⟨σ,c⟩:∃σ,σ∈b:=by
  cases b with
  |nil=>simp at hB
  |cons a l=>exact⟨a,fz ..⟩
 have r:=(e σ c).1;refine wp_region_any hm ?_;have o:(λj=>(Array.replicate ops.size false).getD j false)= λ_=>false:=by
  funext j;simp only[iQ,Tc];split<;>rfl
 have s:hY P ops σ cq N a [] (λj=>(Array.replicate ops.size false).getD j false) (λ_=>undef) a a T w.drew []:=by
  rw[o];have n:∀t:Nat,a.tmps[t]?=a.tmps[t]? :=λ_=>rfl;refine⟨λ_ h=>(by cases h),λ_ _ h=>(by cases h),λ_ _ h=>(by cases h),⟨hr.defers,hr.size,λ_ _ _ _ _ h=>(by cases h),λt _=>n t⟩,⟨hr.defers,hr.size,λ_ _ _ _ _ h=>(by cases h),λt _=>n t⟩,hr,λ_ h=>(by cases h),λ_ h=>(by cases h)⟩
 rw[<- r.len]at h;refine hY.reads r c p f σ [] b _ _ _ _ rfl (λ_=>l5) s h (λd p' u i k T' done' h1 h2 y z g=>?_);refine Ul e p f hr (λv w2 x g B C=>D v w2 x g B C) q ops.size _ σ p' d u i a k T' w.drew done' (by simp) ?_ c h1 h2 y z g;unfold rV;exact mJ FU (by simp)
def jG(P:cP)(N:Nat)(A:dO):Code->Bool
 |.region id ops draw=>g4 P N ops.toList&&(!draw||(match A.sig id with|some (C,cq)=>Az ops C cq|none=>bif A.fork id then true else bif A.calm id then Region.lexB .any ops else bif A.head id==ops.size then Region.lexB .any ops else Region.lexTailB .any ops (A.head id)))
 |.seq x y=>jG P N A x&&jG P N A y&&(match tY A y with|some ks=>okW x&&nj ks|none=>true)
 |.cond _ x y=>jG P N A x&&jG P N A y
 |.block _ c=>jG P N A c
 |.loop c=>jG P N A c&&okW c&&nj (A.loop ((l8 c).getD 0))
 |.scope c=>jG P N A c&&okW c&&(match wE c with|some l=>(match A.goto l with|some ks=>nj ks|none=>true)|none=>true)
 |_=>true
def wN{N:Nat}(g:N<=8000){ops:cb Oper}(d:g4 P N ops.toList=true){Q:Exit->Tr->bg0}{Q':Exit->Act->bg0}:∀(l:bA Oper) (T:Tr) (a:Act) (w:bH),g4 P N l=true->Rel N T a->
  k2 P τ ρ cz A ops Q l T w->(∀e T' w' a',Q e T' w'->Fr (eF l) T T'->Rel N T' a'->Q' e a' w')->wpList P ops Q' l a w
 |[],T,a,w,_,hr,h,m=>m _ _ _ _ h (.refl _ _) hr
 |o::l,T,a,w,j,hr,h,m=>by
  have k:=wG j;have y:=ow j (fz (a:=o) (l:=l));have c:=l9 j (fz (a:=o) (l:=l));have q:∀t,t∈eF l->t∈eF (o::l):=λt r=>by
   unfold eF at r ⊢;rw[F2];split<;>simp_all
  have i:∀t,o.dst=some t->t∈eF (o::l)/\t<8000:=λt r=>⟨by simp[eF,r],lG (c t r) g⟩
  refine pf (B:=wpList P ops Q' (o::l) a w) g d hr h ?_ ?_
  ·intro T' p z hw;unfold wpList;rw[hw,bL rfl];have b:=hr.same p;have f:Fr (eF (o::l)) T T':=λt _=>p t;refine .inl (wH b y z (λv w' h'=>?_) (λC w' x=>m _ _ _ _ x f b));exact wN g d l _ _ _ k (b.put g c v) h' (λe s w2 u he hf n=>m e s w2 u he ((f.trans (Fr.put _ _ _ _ i)).trans (hf.mono q)) n)
  ·intro T' p hn hw;unfold wpList;rw[hw,bJ bN];have b:=hr.same p;have f:Fr (eF (o::l)) T T':=λt _=>p t;exact wN g d l _ _ _ k (b.put g c undef) hn (λe s w2 u he hf n=>m e s w2 u he ((f.trans (Fr.put _ _ _ _ i)).trans (hf.mono q)) n)
def ub{N:Nat}(e:N<=8000){ops:cb Oper}(c:g4 P N ops.toList=true){w:bH}{Q:Tr->Prop}{Q':Act->Prop}:∀(l:bA Oper) (T:Tr) (a:Act),g4 P N l=true->Rel N T a->tV P τ ρ ops w Q l T->
  (∀T' a',Q T'->Fr (eF l) T T'->Rel N T' a'->Q' a')->wpStill P ops w Q' l a
 |[],T,a,_,hr,h,p=>p _ _ h (.refl _ _) hr
 |o::l,T,a,i,hr,h,p=>by
  have j:=wG i;have x:=ow i (fz (a:=o) (l:=l));have b:=l9 i (fz (a:=o) (l:=l));have n:∀t,t∈eF l->t∈eF (o::l):=λt q=>by
   unfold eF at q ⊢;rw[F2];split<;>simp_all
  have g:∀t,o.dst=some t->t∈eF (o::l)/\t<8000:=λt q=>⟨by simp[eF,q],lG (b t q) e⟩
  refine pf (B:=wpStill P ops w Q' (o::l) a) e c hr h ?_ ?_
  ·intro T' m u hw;unfold wpStill;rw[hw,bL rfl];have d:=hr.same m;have f:Fr (eF (o::l)) T T':=λt _=>m t;rw[<- d.ev]at u;obtain⟨v,h1,h2⟩:=tS x u;unfold Oper.still;rw[h1 w (λ_=>.refl w)];exact⟨rfl,ub e c l _ _ j (d.put e b v) h2 (λr s he hf k=>p r s he ((f.trans (Fr.put _ _ _ _ g)).trans (hf.mono n)) k)⟩
  ·intro T' m hn hw;unfold wpStill;rw[hw,bJ bN];have d:=hr.same m;have f:Fr (eF (o::l)) T T':=λt _=>m t;exact ub e c l _ _ j (d.put e b undef) hn (λr s he hf k=>p r s he ((f.trans (Fr.put _ _ _ _ g)).trans (hf.mono n)) k)
def Un{o:Oper}{a:Act}{w:bH}{f:bE->Prop}(m:∀s d x,o.op=.convert s d x->(P.underlying s).isSome=true)(h:Av P τ ρ o a.eval w f):
  ∃v,(∀w',Grow w w'->o.quietAt P a (Grow w) w' v)/\f v:=by
 unfold Av at h;split at h
 ·rename_i g args ts ho;unfold GU at h;split at h
  ·rename_i l fi ca n;split at h
   ·rename_i hb;obtain⟨v,h1,h2⟩:=Kd.eT h;refine⟨v,λw' b=>?_,h2⟩;unfold kN at hb;split at hb
    ·rename_i fn k;simp only[dA,h9,vY]at hb;obtain⟨i,j⟩:=hb;have hr:(execOp a.eval o).run P w'=.ok (.enter l (fi++args.map a.eval++ca)) w':=by
      have c:¬ fn.body=none:=by intro hx;simp[hx]at i
      simp[execOp,ho,resolve,n,Deferred.ofValue,invoke,callFunc,k,j,c]
     unfold Oper.quietAt;rw[hr];exact⟨rfl,(h1 w' b).mono λe w2 he=>⟨he.1,b.trans he.2⟩⟩
    ·cases hb
   ·exact h.elim
  ·exact h.elim
 ·obtain⟨v,h1,h2⟩:=tS m h;refine⟨v,λw' b=>?_,h2⟩;unfold Oper.quietAt;rw[h1 w' (λ_=>b)];exact⟨rfl,rfl⟩
def AD{N:Nat}(e:N<=8000){ops:cb Oper}(c:g4 P N ops.toList=true){w:bH}{Q:Tr->Prop}{Q':Act->Prop}:∀(l:bA Oper) (T:Tr) (a:Act),g4 P N l=true->Rel N T a->ov P τ ρ ops w Q l T->
  (∀T' a',Q T'->Fr (eF l) T T'->Rel N T' a'->Q' a')->wpQuiet P ops (Grow w) Q' l a
 |[],T,a,_,hr,h,p=>p _ _ h (.refl _ _) hr
 |o::l,T,a,i,hr,h,p=>by
  have j:=wG i;have x:=ow i (fz (a:=o) (l:=l));have b:=l9 i (fz (a:=o) (l:=l));have n:∀t,t∈eF l->t∈eF (o::l):=λt q=>by
   unfold eF at q ⊢;rw[F2];split<;>simp_all
  have g:∀t,o.dst=some t->t∈eF (o::l)/\t<8000:=λt q=>⟨by simp[eF,q],lG (b t q) e⟩
  refine pf (B:=wpQuiet P ops (Grow w) Q' (o::l) a) e c hr h ?_ ?_
  ·intro T' m u hw;unfold wpQuiet;rw[hw,bL rfl];have d:=hr.same m;have f:Fr (eF (o::l)) T T':=λt _=>m t;rw[<- d.ev]at u;obtain⟨v,h1,h2⟩:=Un x u;exact⟨v,h1,AD e c l _ _ j (d.put e b v) h2 (λr s he hf k=>p r s he ((f.trans (Fr.put _ _ _ _ g)).trans (hf.mono n)) k)⟩
  ·intro T' m hn hw;unfold wpQuiet;rw[hw,bJ bN];have d:=hr.same m;have f:Fr (eF (o::l)) T T':=λt _=>m t;exact AD e c l _ _ j (d.put e b undef) hn (λr s he hf k=>p r s he ((f.trans (Fr.put _ _ _ _ g)).trans (hf.mono n)) k)
def AE{f:Nat->Prop}:∀ {l:bA Nat},tW f l->∀i∈l,f i
 |[],_,_,h=>by cases h
 |_::_,h,i,a=>by
  rcases ey.1 a with rfl|a;·exact h.1
  ·exact AE h.2 i a
def AF{N:Nat}(g:N<=8000){ops:cb Oper}(b:g4 P N ops.toList=true){Q:Exit->Tr->bg0}{Q':Exit->Act->bg0}{p:Tr}(m:∀e T' w' a',Q e T' w'->Fr (eF ops.toList) p T'->Rel N T' a'->Q' e a' w'):
  ∀(fuel:Nat) (listed:cb Bool) (T:Tr) (a:Act) (w:bH),Fr (eF ops.toList) p T->Rel N T a->gR P τ ρ cz A ops Q fuel listed T w->wpAny P .any ops Q' fuel listed a w
 |0,listed,T,a,w,hf,hr,h=>by
  unfold gR at h;unfold wpAny;split at h;·next e=>exact⟨e,m _ _ _ _ h hf hr⟩
  ·exact h.elim
 |fuel+1,listed,T,a,w,hf,hr,h=>by
  unfold gR at h;unfold wpAny;split at h
  ·next e=>
   refine⟨λ_=>m _ _ _ _ h hf hr,λi j=>?_⟩;rw[e]at j;cases j
  ·next i0 C e=>
   refine⟨λr=>(by rw[e]at r;cases r),λi j=>?_⟩;rw[e]at j;have q:=AE h i j;unfold wpOp;cases ho:ops[i]? with
   |none=>simp only[ho]at q
   |some o=>
    simp only[ho]at q;have l:o∈ops.toList:=by
     have:=mD ho;simpa using this
    have x:=ow b l;have d:=l9 b l;have k:∀t,o.dst=some t->t∈eF ops.toList/\t<8000:=λt u=>⟨by unfold eF;exact v7.2 ⟨o,l,u⟩,lG (d t u) g⟩
    refine pf (B:=if Region.wanted o (yielded ops a.tmps)then o.wp P a w (wpAny P .any ops Q' fuel (listed.setIfInBounds i true)) Q'\/(o.asks P a w/\LetsOut Q')else wpAny P .any ops Q' fuel (listed.setIfInBounds i true) (a.put o.dst undef) w) g b hr q ?_ ?_
    ·intro T' n y hw;rw[hw,bL rfl];have c:=hr.same n;have f:Fr (eF ops.toList) p T':=hf.trans (λt _=>n t);refine .inl (wH c x y (λv w' h'=>?_) (λz w' s=>m _ _ _ _ s f c));exact AF g b m fuel _ _ _ _ (f.trans (Fr.put _ _ _ _ k)) (c.put g d v) h'
    ·intro T' n hn hw;rw[hw,bJ bN];have c:=hr.same n;have f:Fr (eF ops.toList) p T':=hf.trans (λt _=>n t);exact AF g b m fuel _ _ _ _ (f.trans (Fr.put _ _ _ _ k)) (c.put g d undef) hn
def Uo(hm:P.follows .mixedOrders=true){N:Nat}(g:N<=8000){id:Nat}{ops:cb Oper}{draw:Bool}{Q:Exit->Tr->bg0}{Q':Exit->Act->bg0}{T:Tr}{a:Act}{w:bH}(p:jG P N A (.region id ops draw)=true)(hr:Rel N T a)(h:tX P τ ρ cz A id ops draw Q T w)(j:∀e T' w' a',Q e T' w'->Fr (eF ops.toList) T T'->Rel N T' a'->Q' e a' w'):
  (Code.region id ops draw).wp P Q' a w:=by
 unfold jG at p;simp only[dA]at p;obtain⟨ho,b⟩:=p;unfold tX at h;cases draw with
 |false=>exact wp_region_list (wN g ho _ _ _ _ ho hr h j)
 |true=>
  simp only[Bool.not_true,Gs]at b;dsimp only at h;split at h
  ·rename_i σ cq k;rw[k]at b;exact Um hm g ho b hr h (λT' w' a' h1 h2 n=>j _ _ _ _ h1 h2 n) (λG T' w' a' h1 h2 n=>j _ _ _ _ h1 h2 n)
  rename_i k;rw[k]at b;dsimp only at b;cases m:A.fork id with
  |true=>
   rw[m,hM]at h;refine wp_region_any hm ?_;exact AF g ho (λe T' w' a' h1 h2 n=>j e T' w' a' h1 h2 n) _ _ _ _ _ (Fr.refl _ _) hr h
  |false=>
  rw[m,hh]at h b;cases c:A.calm id with
  |true=>
   rw[c,hM]at b;rw[c,hM]at h;refine wp_region_quiet (C:=Grow w) hm b (Grow.drew w) ?_;exact AD g ho _ _ _ ho hr h (λT' a' s hf d w' D=>j _ _ _ _ (s w' D) hf d)
  |false=>
  rw[c,hh]at b;rw[c,hh]at h;unfold Dr at h;have f:ops.toList=ops.toList.take (A.head id)++ops.toList.drop (A.head id):=(fK _ _).symm;have z:∀ {l l':bA Oper},g4 P N (l++l')=true->g4 P N l=true/\g4 P N l'=true:=by
   intro l l' h;unfold g4 at h ⊢;rw[List.all_append,dA]at h;exact h
  have r:=ho;rw[f]at r;obtain⟨x,y⟩:=z r;have hw:eF ops.toList=eF (ops.toList.take (A.head id))++eF (ops.toList.drop (A.head id)):=by
   unfold eF;rw[<- List.filterMap_append,<- f]
  cases i:A.head id==ops.size with
  |true=>
   rw[i,hM]at b;have hn:A.head id=ops.size:=by simpa using i
   have q:ops.toList.take (A.head id)=ops.toList:=iq (by rw[hn];simp);have u:ops.toList.drop (A.head id)= []:=kW (by rw[hn];simp);rw[q,u]at h;refine wp_region_still hm b ?_;exact ub g ho _ _ _ ho hr h (λT' a' o hf d=>j _ _ _ _ o hf d)
  |false=>
   rw[i,hh]at b;obtain⟨l⟩:=ops;refine wp_region_still_tail (l:=l) (A.head id) hm b ?_;refine ub g ho _ _ _ x hr h (λT' a' o hf d=>?_);refine wN g ho _ _ _ _ y d o (λe E w2 F he v B=>j _ _ _ _ he ?_ B);rw[hw];exact(hf.mono (λt q=>mE _ q)).trans (v.mono (λt q=>nM _ q))
def nR:(l:bA (Nat×C1))->hO l->ib l->Tr->(Tr->(bg0)->(bH->Nat)->Prop)->Prop
 |[],a,b,T,K=>K T a b
 |(s,c)::l,a,b,T,K=>∃x:c.ty,nR l (a x) (b x) (T.put (some s) (c.mk x)) K
def uc:∀(l:bA (Nat×C1)) (b:hO l) (c:ib l) (T:Tr) (K a:Tr->(bg0)->(bH->Nat)->Prop),nh l b c T K->nR l b c T a->
  ∃T' d e,K T' d e/\a T' d e
 |[],b,c,T,_,_,h,h'=>⟨T,b,c,h,h'⟩
 |(_,_)::l,b,c,_,K,a,h,⟨x,h'⟩=>uc l (b x) (c x) _ K a (h x) h'
def Fr.qq{S:bA Nat}{a b:Tr}{s:Nat}{v:bE}(c:s<8000)(h:Fr (s::S) a b)(f:b.get s=v):Fr S (a.put (some s) v) b:=by
 intro t d;rw[Tr.dI a s t v c];split;·rename_i e;subst e;exact f
 ·rename_i e;exact h t (by simp only[ey,om];exact⟨e,d⟩)
def G9:∀(l:bA (Nat×C1)) (b:hO l) (a:ib l) (m:Nat) (T B:Tr) (w:bH),pd l->rU l b a m T w->Fr (l.map (·.1)) B T->
  ∃n,n<m/\nR l b a B (λd f i=>(∀t,T.get t=d.get t)/\f w/\i w=n)
 |[],b,a,m,T,B,w,_,h,ho=>⟨a w,h.2,λt=>ho t (by simp),h.1,rfl⟩
 |(s,c)::l,b,a,m,T,B,w,e,h,ho=>by
  unfold rU at h;split at h
  ·rename_i x hx;obtain⟨n,hn,h'⟩:=G9 l (b x) (a x) m T (B.put (some s) (c.mk x)) w (λy g=>e y (fT _ g)) h (Fr.qq (e _ (fz ..)) ho (C1.lH hx));exact⟨n,hn,x,h'⟩
  ·exact h.elim
def ud:∀(l:bA (Nat×C1)) (a:hO l) (e:ib l) (T B:Tr) (w:bH),pd l->ng l a T w->Fr (l.map (·.1)) B T->
  ∃n,nR l a e B (λb f i=>(∀t,T.get t=b.get t)/\f w/\i w=n)
 |[],a,e,T,B,w,_,h,ho=>⟨e w,λt=>ho t (by simp),h,rfl⟩
 |(s,c)::l,a,e,T,B,w,d,h,ho=>by
  unfold ng at h;split at h
  ·rename_i x hx;obtain⟨n,h'⟩:=ud l (a x) (e x) T (B.put (some s) (c.mk x)) w (λy g=>d y (fT _ g)) h (Fr.qq (d _ (fz ..)) ho (C1.lH hx));exact⟨n,x,h'⟩
  ·exact h.elim
def Ha:∀(l:bA (Nat×C1)) (d:hO l) (e:ib l) (B:Tr) (K:Tr->(bg0)->(bH->Nat)->Prop) (T:Tr),pd l->nR l d e B K->(∀a f i,K a f i->∀t,T.get t=a.get t)->
  Fr (l.map (·.1)) B T
 |[],d,e,B,K,T,_,h,hk=> λt _=>hk _ _ _ h t
 |(s,_)::l,d,e,B,K,T,c,⟨x,h⟩,hk=>by
  have:=Ha l (d x) (e x) _ K T (λy g=>c y (fT _ g)) h hk;intro t b;simp only[kd,ey,om]at b;rw[this t b.2,Tr.dI B s t _ (c _ (fz ..)),bJ b.1]
def Hb(u:Nat->bE):∀(l:bA Nat) (T:Tr),(∀s∈l,s<8000)->Fr l T (mN u l T)
 |[],_,_=> λ_ _=>rfl
 |s::l,T,b=>by
  intro t a;simp only[ey,om]at a;show(mN u l (T.put (some s) (u s))).get t=_;rw[Hb u l _ (λy c=>b y (fT _ c)) t a.2,Tr.dI T s t _ (b _ (fz ..)),bJ a.1]
def rW(T:Tr)(S:bA Nat):∀(l:bA Nat) (B:Tr),(∀s∈l,s<8000)->Fr (l++S) B T->Fr S (mN (λt=>T.get t) l B) T
 |[],_,_,h=>h
 |_::l,_,a,h=>rW T S l _ (λy b=>a y (fT _ b)) (Fr.qq (a _ (fz ..)) h rfl)
def AG{W:bA Nat}{l:bA (Nat×C1)}{t:Nat}(h:t∈W):t∈mM W l++l.map (·.1):=by
 unfold mM;by_cases a:t∈l.map (·.1);·exact nM _ a
 ·exact mE _ (gq.2 ⟨h,by simpa using a⟩)
def rX{W:bA Nat}{l:bA (Nat×C1)}(h:∀t∈W,t<8000):∀s∈mM W l,s<8000:=λs a=>h s (gq.1 a).1
def AH{W:bA Nat}{l:bA (Nat×C1)}{j:hO l}{q:ib l}{f g b:Tr}{d:bH}{m:Nat}{u:Nat->bE}{K:Tr->(bg0)->(bH->Nat)->Prop}(k:∀t∈W,t<8000)(hl:pd l)(hex:nR l j q (mN u (mM W l) f) K)(hk:∀a e i,K a e i->∀t,g.get t=a.get t)(o:Fr W g b)(r:rU l j q m b d):
  ∃n,n<m/\nR l j q (mN (λt=>b.get t) (mM W l) f) (λa e i=>(∀t,b.get t=a.get t)/\e d/\i d=n):=by
 refine G9 l j q m b _ d hl r (rW b _ _ _ (rX k) ?_);have h1:=Ha l j q _ K g hl hex hk;have h2:=Hb u (mM W l) f (rX k);intro t c;simp only[gF,om]at c;have p:t∉W:=λh=>by
  rcases gF.1 (AG (l:=l) h)with h|h;·exact c.1 h
  ·exact c.2 h
 rw[o t p,h1 t c.2,h2 t c.1]
def Up{N:Nat}{c:Code}{l:bA (Nat×C1)}{body:(Tr->bg0)->Tr->bg0}{Q:Exit->Tr->bg0}{Q':Exit->Act->bg0}{T:Tr}{a:Act}{w:bH}(x:∀t∈wr c,t<8000)(hl:pd l)(hr:Rel N T a)(j:∀(next:Tr->bg0) (next':Act->bg0) T a w,Rel N T a->body next T w->(∀T' w' a',next T' w'->Fr (wr c) T T'->Rel N T' a'->next' a' w')->
   (∀e T' w' a',Q e T' w'->Fr (wr c) T T'->Rel N T' a'->Q' e a' w')->c.wp P (Exit.then next' Q') a w)(K:∀B,Fr (wr c) T B->∀e T' w' a',Q e T' w'->Fr (wr c) B T'->Rel N T' a'->Q' e a' w')(h:wC l (wr c) body T w):(Code.loop c).wp P Q' a w:=by
 obtain⟨D,R,G,h⟩:=h;let J:Nat->Act->bg0:=λn a' w'=>∃T',Rel N T' a'/\Fr (wr c) T T'/\∃u:Nat->bE,nR l D R (mN u (mM (wr c) l) T) (λs r C=>(∀t,T'.get t=s.get t)/\r w'/\C w'=n);have f:∃n,J n a w:=by
  obtain⟨n,hn⟩:=ud l D R T _ w hl G (rW T _ _ T (rX x) (λ_ _=>rfl));exact⟨n,T,hr,.refl _ _,_,hn⟩
 obtain⟨L,f⟩:=f;refine wp_loop_ghost J L f ?_;rintro n F M ⟨E,z,y,u,hex⟩;obtain⟨v,r,C,hK,b,I,rfl⟩:=uc l D R _ _ _ (h u) hex;have A:Rel N v F:=z.same (λt=>(b t).symm);have g:Fr (wr c) T v:=λt q=>(b t).symm.trans (y t q);refine j _ _ _ _ _ A (hK M I) (λk O a3 H d i=>?_) (λe k O a3 he d i=>K _ g _ _ _ _ he d i);have p:Fr (wr c) E k:=λt q=>(d t q).trans (b t).symm;obtain⟨m,hm,o⟩:=AH x hl hex (λ_ _ _ h=>h.1) p H;exact⟨m,hm,k,i,g.trans d,_,o⟩
def Hc:∀(c:Code) (l:Nat) (rest:Code),findLabel c l=some rest->∀t,t∈wr rest->t∈wr c:=by
 intro c;induction c with
 |seq x y b d=>
  intro l rest h t a;unfold findLabel at h;split at h
  ·rename_i r hr;injection h with h;subst h
   rcases gF.1 a with a|a;·exact mE _ (b _ _ hr _ a)
   ·exact nM _ a
  ·exact nM _ (d _ _ h _ a)
 |label l'=>
  intro l rest h t a;unfold findLabel at h;split at h;·injection h with h;subst h;cases a
  ·cases h
 |_=>intro l rest h;simp[findLabel]at h
def Uq{N:Nat}:∀(c:Code) (l:Nat) (rest:Code),findLabel c l=some rest->jG P N A c=true->jG P N A rest=true:=by
 intro c;induction c with
 |seq x y e f=>
  intro l rest h a;unfold jG at a;simp only[dA]at a;unfold findLabel at h;split at h
  ·rename_i r hr;injection h with h;subst h
   unfold jG;simp only[dA];refine⟨⟨e _ _ hr a.1.1,a.1.2⟩,?_⟩;have b:=a.2;split
   ·rename_i ks d;rw[d]at b;simp only[dA]at b ⊢;refine⟨?_,b.2⟩;unfold okW;rw[fS];intro t g;have:=tZ b.1 t (Hc _ _ _ hr t g);simpa using this
   ·rfl
  ·exact f _ _ h a.1.2
 |label l'=>
  intro l rest h a;unfold findLabel at h;split at h;·injection h with h;subst h;rfl
  ·cases h
 |_=>intro l rest h;simp[findLabel]at h
def Ur{N:Nat}{c rest:Code}{g:Nat}{l:bA (Nat×C1)}{first pass:(Tr->bg0)->Tr->bg0}{Q:Exit->Tr->bg0}{Q':Exit->Act->bg0}{T:Tr}{a:Act}{w:bH}(F:∀t∈wr c,t<8000)(hl:pd l)(hr:Rel N T a)(hf:findLabel c g=some rest)(k:∀(J:Tr->bg0) (i:Act->bg0) T a w,Rel N T a->first J T w->(∀T' w' a',J T' w'->Fr (wr c) T T'->Rel N T' a'->i a' w')->
   (∀e T' w' a',Q e T' w'->Fr (wr c) T T'->Rel N T' a'->Q' e a' w')->c.wp P (Exit.jump g i Q') a w)(s:∀(J:Tr->bg0) (i:Act->bg0) T a w,Rel N T a->pass J T w->(∀T' w' a',J T' w'->Fr (wr c) T T'->Rel N T' a'->i a' w')->
   (∀e T' w' a',Q e T' w'->Fr (wr c) T T'->Rel N T' a'->Q' e a' w')->rest.wp P (Exit.jump g i Q') a w)(G:∀B,Fr (wr c) T B->∀e T' w' a',Q e T' w'->Fr (wr c) B T'->Rel N T' a'->Q' e a' w')(h:GX l (wr c) first pass T w):(Code.scope c).wp P Q' a w:=by
 obtain⟨O,Y,S,h⟩:=h;let J:Nat->Act->bg0:=λn a' w'=>∃T',Rel N T' a'/\Fr (wr c) T T'/\∃u:Nat->bE,nR l O Y (mN u (mM (wr c) l) T) (λC A M=>(∀t,T'.get t=C.get t)/\A w'/\M w'=n);refine wp_scope_jumps g (λa w=>∃n,J n a w) (λa w=>leastOf (λn=>J n a w)) hf ?_ ?_
 ·refine k _ _ _ _ _ hr S (λT' w' a' X b p=>?_) (λe T' w' a' he b p=>G _ (.refl _ _) _ _ _ _ he b p);obtain⟨n,hn⟩:=ud l O Y T' _ w' hl X (rW T' _ _ T (rX F) (b.mono (λt r=>AG r)));exact⟨n,T',p,b,_,hn⟩
 ·intro E K W;obtain⟨v,_⟩:=leastOf_spec W;generalize leastOf (λn=>J n E K)=n at v;obtain⟨R,H,b,u,hex⟩:=v;obtain⟨D,A,M,hK,d,V,rfl⟩:=uc l O Y _ _ _ (h u) hex;have I:Rel N D E:=H.same (λt=>(d t).symm);have o:Fr (wr c) T D:=λt r=>(d t).symm.trans (b t r);refine s _ _ _ _ _ I (hK K V) (λx L a3 U f q=>?_) (λe x L a3 he f q=>G _ o _ _ _ _ he f q);have z:Fr (wr c) R x:=λt r=>(f t r).trans (d t).symm;obtain⟨m,hm,y⟩:=AH F hl hex (λ_ _ _ h=>h.1) z U;have j:J m a3 L:=⟨x,q,o.trans f,_,y⟩
  exact⟨⟨m,j⟩,y3 ((leastOf_spec ⟨m,j⟩).2 m j) hm⟩
def Us(hm:P.follows .mixedOrders=true){N:Nat}(W:N<=8000):∀(n:Nat) (c:Code) (Q:Exit->Tr->bg0) (Q':Exit->Act->bg0) (T:Tr) (a:Act) (w:bH),jG P N A c=true->Rel N T a->
  vc P τ ρ cz A n c Q T w->(∀e T' w' a',Q e T' w'->Fr (wr c) T T'->Rel N T' a'->Q' e a' w')->c.wp P Q' a w:=by
 intro n;induction n with
 |zero=>intro c Q Q' T a w _ _ h;exact h.elim
 |succ n o=>
 intro c;cases c with
 |skip=>intro Q Q' T a w _ hr h g;exact wp_skip (g _ _ _ _ h (.refl _ _) hr)
 |label l=>intro Q Q' T a w _ hr h g;exact wp_label (g _ _ _ _ h (.refl _ _) hr)
 |exit id=>intro Q Q' T a w _ hr h g;exact wp_exit (g _ _ _ _ h (.refl _ _) hr)
 |goto l=>intro Q Q' T a w _ hr h g;exact wp_goto (g _ _ _ _ h (.refl _ _) hr)
 |ret=>intro Q Q' T a w _ hr h g;exact wp_ret (g _ _ _ _ h (.refl _ _) hr)
 |region id ops draw=>intro Q Q' T a w d hr h g;exact Uo hm W d hr h g
 |seq x y=>
  intro Q Q' T a w d hr h g;unfold jG at d;simp only[dA]at d;have hx:∀t,t∈wr x->t∈wr (.seq x y):=λt j=>mE _ j;have O:∀t,t∈wr y->t∈wr (.seq x y):=λt j=>nM _ j;unfold vc at h;dsimp only at h;split at h
  ·refine wp_seq (o x _ _ _ _ _ d.1.1 hr h (λe T' w' a' he hf b=>?_));cases e with
   |normal=>exact o y _ _ _ _ _ d.1.2 b he (λe I w2 S D s E=>g _ _ _ _ D ((hf.mono hx).trans (s.mono O)) E)
   |exit id=>exact g _ _ _ _ he (hf.mono hx) b
   |goto l=>exact g _ _ _ _ he (hf.mono hx) b
   |ret=>exact g _ _ _ _ he (hf.mono hx) b
   |panic z=>exact g _ _ _ _ he (hf.mono hx) b
   |outgrown=>exact g _ _ _ _ he (hf.mono hx) b
  ·rename_i ks k;have q:=d.2;rw[k]at q;simp only[dA]at q;have C:=tZ q.1;have hl:=wF q.2;obtain⟨J,U,h⟩:=h;refine wp_seq (o x _ _ _ _ _ d.1.1 hr U (λe T' w' a' he hf b=>?_));cases e with
   |normal=>
    replace he:ng ks J T' w':=he
    obtain⟨n,hex⟩:=ud ks J (wD ks) T' _ w' hl he (rW T' _ _ T (rX C) (hf.mono (λt j=>AG j)));obtain⟨I,F,Z,hK,v,V,_⟩:=uc ks J (wD ks) _ _ _ (h _) hex;have E:Rel N I a':=b.same (λt=>(v t).symm);have L:Fr (wr x) T I:=λt j=>(v t).symm.trans (hf t j);exact o y _ _ _ _ _ d.1.2 E (hK w' V) (λe Y w2 S D s M=>g _ _ _ _ D ((L.mono hx).trans (s.mono O)) M)
   |exit id=>exact g _ _ _ _ he (hf.mono hx) b
   |goto l=>exact g _ _ _ _ he (hf.mono hx) b
   |ret=>exact g _ _ _ _ he (hf.mono hx) b
   |panic z=>exact g _ _ _ _ he (hf.mono hx) b
   |outgrown=>exact g _ _ _ _ he (hf.mono hx) b
 |cond c x y=>
  intro Q Q' T a w d hr h g;unfold jG at d;simp only[dA]at d;unfold vc at h;dsimp only at h;split at h
  ·rename_i t j;have G:a.eval c=.bool t:=by rw[hr.ev];exact j
   cases t with
   |true=>exact wp_cond_true G (o x _ _ _ _ _ d.1 hr h (λe T' w' a' he hf b=>g _ _ _ _ he (hf.mono (λt j=>mE _ j)) b))
   |false=>exact wp_cond_false G (o y _ _ _ _ _ d.2 hr h (λe T' w' a' he hf b=>g _ _ _ _ he (hf.mono (λt j=>nM _ j)) b))
  ·exact h.elim
 |block id c=>
  intro Q Q' T a w d hr h g;refine wp_block (o c _ _ _ _ _ d hr h (λe T' w' a' he hf b=>?_));cases e with
  |exit p=>
   replace he:bif Nat.beq p id then Q .normal T' w' else Q (.exit p) T' w':=he
   show if p=id then Q' .normal a' w' else Q' (.exit p) a' w'
   rw[j3]at he;by_cases e:p=id;·simp only[e,tB,hM]at he;rw[bL e];exact g _ _ _ _ he hf b
   ·have:(p==id)=false:=by simpa using e
    rw[this,hh]at he;rw[bJ e];exact g _ _ _ _ he hf b
  |normal=>exact g _ _ _ _ he hf b
  |goto l=>exact g _ _ _ _ he hf b
  |ret=>exact g _ _ _ _ he hf b
  |panic z=>exact g _ _ _ _ he hf b
  |outgrown=>exact g _ _ _ _ he hf b
 |scope c=>
  intro Q Q' T a w d hr h g;unfold jG at d;simp only[dA]at d;obtain⟨⟨d,C⟩,k⟩:=d;have m:vc P τ ρ cz A n c (Ax Q) T w->(Code.scope c).wp P Q' a w:=λh=>by
   refine wp_scope_straight (o c _ _ _ _ _ d hr h (λe T' w' a' he hf b=>?_));cases e with
   |goto l=>exact he
   |normal=>exact g _ _ _ _ he hf b
   |exit id=>exact g _ _ _ _ he hf b
   |ret=>exact g _ _ _ _ he hf b
   |panic z=>exact g _ _ _ _ he hf b
   |outgrown=>exact g _ _ _ _ he hf b
  unfold vc at h;dsimp only at h;split at h;·exact m h
  ·rename_i l hl;rw[hl]at k;dsimp only at k;split at h;·exact m h
   ·rename_i ks X;rw[X]at k;split at h
    ·rename_i rest r;refine Ur (Q:=Q) (tZ C) (wF k) hr r (λJ F H K R u hb hn i=>?_) (λJ F H K R u hb hn i=>?_) (λB hB e T' w' a' he hf b=>g _ _ _ _ he (hB.trans hf) b) h
     ·refine o c _ _ _ _ _ d u hb (λe T' w' a' he hf b=>?_);cases e with
      |goto l'=>
       replace he:bif Nat.beq l' l then J T' w' else False:=he
       show l'=l/\F a' w';rw[j3]at he;by_cases e:l'=l;·simp only[e,tB,hM]at he;exact⟨e,hn _ _ _ he hf b⟩
       ·have:(l'==l)=false:=by simpa using e
        rw[this,hh]at he;exact he.elim
      |normal=>exact i _ _ _ _ he hf b
      |exit id=>exact i _ _ _ _ he hf b
      |ret=>exact i _ _ _ _ he hf b
      |panic z=>exact i _ _ _ _ he hf b
      |outgrown=>exact i _ _ _ _ he hf b
     ·refine o rest _ _ _ _ _ (Uq _ _ _ r d) u hb (λe T' w' a' he s b=>?_);have hf:Fr (wr c) H T':=s.mono (Hc _ _ _ r);cases e with
      |goto l'=>
       replace he:bif Nat.beq l' l then J T' w' else False:=he
       show l'=l/\F a' w';rw[j3]at he;by_cases e:l'=l;·simp only[e,tB,hM]at he;exact⟨e,hn _ _ _ he hf b⟩
       ·have:(l'==l)=false:=by simpa using e
        rw[this,hh]at he;exact he.elim
      |normal=>exact i _ _ _ _ he hf b
      |exit id=>exact i _ _ _ _ he hf b
      |ret=>exact i _ _ _ _ he hf b
      |panic z=>exact i _ _ _ _ he hf b
      |outgrown=>exact i _ _ _ _ he hf b
    ·exact h.elim
 |loop c=>
  intro Q Q' T a w d hr h g;unfold jG at d;simp only[dA]at d;obtain⟨⟨d,C⟩,k⟩:=d;refine Up (Q:=Q) (body:=λnext=>vc P τ ρ cz A n c (mO next Q)) (tZ C) (wF k) hr (λnext next' H K R u hb hn i=>o c _ _ _ _ _ d u hb (λe T' w' a' he hf b=>?_))
   (λB hB e T' w' a' he hf b=>g _ _ _ _ he (hB.trans hf) b) h
  cases e with
  |normal=>exact hn _ _ _ he hf b
  |exit id=>exact i _ _ _ _ he hf b
  |goto l=>exact i _ _ _ _ he hf b
  |ret=>exact i _ _ _ _ he hf b
  |panic z=>exact i _ _ _ _ he hf b
  |outgrown=>exact i _ _ _ _ he hf b
 |rangeFunc f ps x y=>intro Q Q' T a w _ _ h;exact h.elim
 |refuse Hd=>intro Q Q' T a w _ _ h;exact h.elim
end
end Go.Vc
namespace Go.Vc
open Go
def cA(K:bg1)(e:Ending)(w:bH):Prop:=∃v,e=.returned v/\K v w
def qs(K:bg1)(p:bA PanicEntry->bg0)(e:Ending)(w:bH):Prop:=(∃v,e=.returned v/\K v w)\/∃a,e=.panicked a/\p a w
def iE(P:cP)(τ:cf->K1)(w:bH)(T:Tr):bA ResultVar->cb bE->(cb bE->Prop)->Prop
 |[],acc,f=>f acc
 |.tmp t::l,acc,f=>iE P τ w T l (acc.push (T.get t)) f
 |.cell p t::l,acc,f=>pb P (τ t) t (T.get p) w λv=>iE P τ w T l (acc.push v) f
def oneOf(vs:cb bE):bE:=match vs.toList with | [v]=>v|_=>.tuple vs
def oy(P:cP)(τ:cf->K1)(rs:bA ResultVar)(K:bg1)(p:bA PanicEntry->bg0):Exit->Tr->bg0
 |.normal,T,w=>iE P τ w T rs #[] λvs=>K (oneOf vs) w
 |.ret,T,w=>iE P τ w T rs #[] λvs=>K (oneOf vs) w
 |.panic a,_,w=>p a w
 |_,_,_=>False
noncomputable def jg:bA bE->Nat->Tr->Tr
 |[],_,T=>T
 |v::l,i,T=>jg l (i+1) (T.put (some i) v)
def km(P:cP)(τ:cf->K1)(ρ:cf->Kd)(cz:bg7->Bool)(A:dO)(fn:Func)(args:cb bE)(K:bg1)(p:bA PanicEntry->bg0)(w:bH):Prop:=
 match fn.body with
 |some c=>vc P τ ρ cz A 1000 c (oy P τ fn.results.toList K p) (jg args.toList 0 .nil) w
 |none=>False
def k5(P:cP)(A:dO)(fn:Func)(n:Nat):Bool:=match fn.body with
 |some c=>jG P fn.ntmps A c&&Nat.ble fn.ntmps 8000&&Nat.ble n fn.ntmps
 |none=>false
section
variable{P:cP}{τ:cf->K1}{ρ:cf->Kd}{cz:bg7->Bool}{A:dO}
def oz(tmps:cb bE):ResultVar->Sem bE
 |.tmp t=>pure (tmps.getD t undef)
 |.cell p t=>do loadVar t (<- asAddr (tmps.getD p undef))
def Ut(fn:Func)(tmps:cb bE):results fn tmps=(do
  let vs <- fn.results.mapM (oz tmps)
  pure (if h:vs.size=1 then vs[0]else .tuple vs)):=rfl
def AI{w:bH}{a:Act}{T:Tr}{N:Nat}(hr:Rel N T a):∀(l:bA ResultVar) (acc:cb bE) (f:cb bE->Prop),iE P τ w T l acc f->
  ∃vs,(l.mapM (oz a.tmps)).run P w=.ok vs w/\f (acc++vs.toArray)
 |[],acc,f,h=>⟨[],by simp,by simpa[iE]using h⟩
 |.tmp t::l,acc,f,h=>by
  obtain⟨vs,h1,h2⟩:=AI hr l _ f h;refine⟨T.get t::vs,?_,?_⟩;·simp only[Gq,oz,hr.get,Sem.run_bind,Sem.run_pure,Result.andThen_ok,h1]
  ·have:acc++(T.get t::vs).toArray=acc.push (T.get t)++vs.toArray:=by apply Array.ext';simp
   rw[this];exact h2
 |.cell p t::l,acc,f,h=>by
  unfold iE pb at h;split at h
  ·rename_i q e;obtain⟨v,h1,h2⟩:=GC (P:=P) h;obtain⟨vs,b,c⟩:=AI hr l _ f h2;refine⟨v::vs,?_,?_⟩
   ·have d:(asAddr (a.tmps.getD p undef)).run P w=.ok q w:=by rw[hr.get,e];rfl
    simp only[Gq,oz,Sem.run_bind,d,Sem.run_pure,Result.andThen_ok,h1 w (.refl w),b]
   ·have:acc++(v::vs).toArray=acc.push v++vs.toArray:=by apply Array.ext';simp
    rw[this];exact c
  ·exact h.elim
def AJ{fn:Func}{w:bH}{a:Act}{T:Tr}{N:Nat}(hr:Rel N T a){f:cb bE->Prop}(h:iE P τ w T fn.results.toList #[] f):∃vs,(results fn a.tmps).run P w=.ok (oneOf vs) w/\f vs:=by
 obtain⟨vs,h1,h2⟩:=AI hr _ _ _ h;refine⟨vs.toArray,?_,by simpa using h2⟩;rw[Ut,Array.mapM_eq_mapM_toList];simp only[Sem.run_bind,Sem.run_map,h1,Result.andThen_ok,Sem.run_pure];congr 1
 match vs with
 |[]=>rfl
 |[v]=>rfl
 |u::v::l=>simp[oneOf]
def He:∀(l:bA bE) (i:Nat) (T:Tr) (t:Nat),i+l.length<=8000->(jg l i T).get t=if t<i then T.get t else match l[t-i]? with|some v=>v|none=>T.get t
 |[],i,T,t,_=>by simp[jg]
 |v::l,i,T,t,h=>by
  simp only[hI]at h;unfold jg;rw[He l (i+1) _ t bu];by_cases h1:t<i;·rw[eJ,bL h1,Tr.dI T i t v bu,cF]
  ·by_cases h2:t=i
   ·subst h2;rw[eJ,bJ h1,Tr.dI T t t v bu,bL rfl];simp
   ·rw[cF,bJ h1,Tr.dI T i t v bu,bJ h2];have:t-i=(t-(i+1))+1:=by omega
    rw[this,List.getElem?_cons_succ]
def Rel.init{N:Nat}{args:cb bE}(a:N<=8000)(hn:args.size<=N):Rel N (jg args.toList 0 .nil) {tmps:=args++Array.replicate (N-args.size) undef,defers:=[]} :=by
 refine⟨rfl,by simp;omega,λt=>?_⟩;rw[He _ 0 _ t (by simp;omega),cF,Gw];simp only[iQ,Array.getElem?_append,Array.getElem?_toList];by_cases h:t<args.size;·simp[h]
 ·rw[bJ h,vW (To h)];simp only[Tr.get_nil];by_cases h2:t-args.size<N-args.size;·simp[h2]
  ·simp[h2]
def Hf{g:bg7}{fn:Func}{args:cb bE}{w:bH}{K:bg1}{p:bA PanicEntry->bg0}(hm:P.follows .mixedOrders=true)(hf:P.funcs[g]?=some fn)(a:k5 P A fn args.size=true)(h:km P τ ρ cz A fn args K p w):Calls P g args w (qs K p):=by
 unfold km at h;unfold k5 at a;split at h
 ·rename_i c d;rw[d]at a;simp only[dA]at a;obtain⟨⟨a,i⟩,hn⟩:=a;have b:fn.ntmps<=8000:=by simpa using i
  have f:args.size<=fn.ntmps:=by simpa using hn
  refine calls_of_wp hf d ?_;refine Us hm b 1000 c _ _ _ _ _ a (Rel.init b f) h (λe T' w' a' he _ hr=>?_);cases e with
  |normal=>
   obtain⟨vs,h1,h2⟩:=AJ hr he;exact⟨hr.defers,_,h1,.inl ⟨_,rfl,h2⟩⟩
  |ret=>
   obtain⟨vs,h1,h2⟩:=AJ hr he;exact⟨hr.defers,_,h1,.inl ⟨_,rfl,h2⟩⟩
  |panic j=>exact⟨hr.defers,.inr ⟨_,rfl,he⟩⟩
  |exit id=>exact he.elim
  |goto l=>exact he.elim
  |outgrown=>exact he.elim
 ·exact h.elim
def AK{g:bg7}{fn:Func}{args:cb bE}{w:bH}{K:bg1}(hm:P.follows .mixedOrders=true)(hf:P.funcs[g]?=some fn)(a:k5 P A fn args.size=true)(h:km P τ ρ cz A fn args K (λ_ _=>False) w):Calls P g args w (cA K):=
 (Hf hm hf a h).mono λ_ _ he=>he.elim id λ⟨_,_,h⟩=>h.elim
end
end Go.Vc
namespace Go.Kc
open Go.Kt
def firstFree:Nat->bA Bool->bW Nat
 |_,[]=>none
 |n,b::l=>if b then firstFree (n+1) l else some n
def fW(T:bA Bool):bA Bool×Int×Int:=match firstFree 0 T with
 |some i=>(T.set i true,i,0)
 |none=>(T, -1,3)
def nn(T:bA Bool)(i:Int):bA Bool×Int:=
 if i<0\/(T.length:Int)<=i then(T,1)else if T.getD i.toNat false=false then(T,2)else(T.set i.toNat false,0)
def iF(n:Int):bA Bool:=List.replicate (min (max n 0).toNat 1024) false
def AL:∀ {T:bA Bool} {n i:Nat},firstFree n T=some i->n<=i/\T[i-n]?=some false/\∀j,n<=j->j<i->T[j-n]?=some true
 |[],_,_,h=>by cases h
 |b::T,n,i,h=>by
  unfold firstFree at h;cases b with
  |true=>
   simp only[gQ]at h;obtain⟨h1,h2,c⟩:=AL h;refine⟨bu,?_,λj d a=>?_⟩;·rw[show i-n=(i-(n+1))+1 by omega];simpa using h2
   ·rcases Nat.eq_or_lt_of_le d with e|e;·subst e;simp
    ·rw[show j-n=(j-(n+1))+1 by omega];simpa using c j bu a
  |false=>
   simp only[l2,gP,fU]at h;subst h;exact⟨ep _,by simp,λj h1 h2=>bu⟩
def Hg:∀ {T:bA Bool} {n:Nat},firstFree n T=none->∀b∈T,b=true
 |[],_,_,b,hb=>by cases hb
 |b::T,n,h,c,a=>by
  unfold firstFree at h;cases b with
  |true=>
   simp only[gQ]at h;rcases ey.1 a with rfl|a;·rfl
   ·exact Hg h c a
  |false=>simp at h
def AM(T:bA Bool):(fW T).1.length=T.length:=by
 unfold fW;split<;>simp
def rY(T:bA Bool)(i:Int):(nn T i).1.length=T.length:=by
 unfold nn;split;·rfl
 ·split<;>simp
structure eO where
 use:Int
 cC:Int
deriving DecidableEq
def top:Int:=1099511627776
def fX(g:Int):Bool:=decide (0<=g)&&decide (g<64)
def gS(n:Int):Bool:=decide (0<=n)&&decide (n<=top)
def ht(C:bA eO)(g:Int):eO:=if fX g then C.getD g.toNat ⟨0,0⟩else⟨0,0⟩
def cW(C:bA eO)(g:Int):Int:=(ht C g).use
def g8(C:bA eO)(g:Int):Int:=(ht C g).cC
def iG(C:bA eO)(g:Int)(f:eO->eO):bA eO:=C.set g.toNat (f (C.getD g.toNat ⟨0,0⟩))
def j4(C:bA eO)(g n:Int):bA eO×Int:=
 if fX g&&gS n then(iG C g λx=> {x with cC:=n},0)else(C,1)
def nodupB:bR->Bool
 |[]=>true
 |x::l=> !l.contains x&&nodupB l
def jh(l:bR)(n:Int):Bool:=l.all fX&&nodupB l&&gS n
def dF(C:bA eO)(l:bR)(n:Int):bA eO:=l.foldl (λC g=>iG C g λx=> {x with use:=x.use+n}) C
def dh(C:bA eO)(l:bR)(n:Int):bA eO×Int×Int:=
 if jh l n=false then(C, -1,1)
 else match l.find? (λg=>decide (0<n)&&decide ((C.getD g.toNat ⟨0,0⟩).cC<(C.getD g.toNat ⟨0,0⟩).use+n))with
  |some g=>(C,g,22)
  |none=>(dF C l n, -1,0)
def gk(C:bA eO)(l:bR)(n:Int):bA eO×Int:=
 if jh l n=false then(C,1)
 else match l.find? (λg=>decide ((C.getD g.toNat ⟨0,0⟩).use<n))with
  |some _=>(C,2)
  |none=>(dF C l (-n),0)
def me:bA eO:=List.replicate 64 ⟨0,top⟩
structure hv(C:bA eO):Prop where
 len:C.length=64
 ok:∀x∈C,(0<=x.use/\x.use<=top)/\0<=x.cC/\x.cC<=top
structure FS where
 bY:bR
 bt:Int×Int->bW (bA UInt8)
def gT(bY:bR):FS:=⟨(bY.take 32).map λn=>min (max n 0) 4096,λ_=>none⟩
def np(F:FS)(f:Int):Int:=if f<0\/(F.bY.length:Int)<=f then 0 else F.bY.getD f.toNat 0
def mg(n:Int):UInt8:=UInt8.ofNat (n%256).toNat
def nq(k:Int×Int):bA UInt8:=(List.range 16).map λi:Nat=>mg (31*k.1+7*k.2+(i:Int))
def ej(F:FS)(k:Int×Int):Bool:=decide (0<=k.2)&&decide (k.2<np F k.1)
def rZ(F:FS)(k:Int×Int):bA UInt8×Int:=
 if ej F k=false then([],2)else match F.bt k with
  |some t=>(t,0)
  |none=>(nq k,0)
def nr(F:FS)(k:Int×Int)(t:bA UInt8):FS×Int:=
 if ej F k=false then(F,2)else if t.length≠16 then(F,1)else({F with bt:=λx=>if x=k then some t else F.bt x},0)
def r0(g c:Int):Int:=1+2*g+512*(c%top)
def gU(x:Int):Int×Int×Bool:=if x%2=1/\x/512<top then(x/2%256,x/512,true)else(0,0,false)
def oA(l:bR)(g:Int):Int:=l.getD g.toNat 0
def dK(l:bR)(g:Int):bR×Int:=
 if fX g=false then(l,0)else(l.set g.toNat (i64.wrap (oA l g+1)),if oA l g<0 then 0 else r0 g (oA l g))
def mh(l:bR)(x a:Int):Bool:=
 (gU x).2.2&&fX (gU x).1&&decide (0<=oA l (gU x).1)&&decide ((oA l (gU x).1-(gU x).2.1)%top<=a)
structure eA where
 parent:Int
 use:Int
 own:Int
deriving DecidableEq
def eA.eV(x:eA):Int:=min x.own x.use
def nZ:eA:=⟨0,0,0⟩
def ns(l:bA eA)(i:Int):eA:=l.getD i.toNat nZ
def gG:Nat->bA eA->Bool
 |_,[]=>true
 |i,x::l=>((decide (i=0)&&decide (x.parent= -1))||(decide (0<=x.parent)&&decide (x.parent<(i:Int))))&&gS x.use&&gS x.own&&gG (i+1) l
def hZ(l:bA eA):Bool:=gG 0 l&&decide (l.length<=64)
def lI(l:bA eA)(t:Int):Nat->Int->bR
 |0,_=>[]
 |n+1,g=>if g=t then[]else if g<0 then[g]else g::lI l t n (ns l g).parent
def h0(l:bA eA)(t g:Int):bR:=lI l t (l.length+1) g
def mP(l:bA eA)(g t:Int):Bool:=(h0 l t g).all λx=>decide (0<=x)
def sumOf(l:bA eA)(p:Int):Int:=((l.drop 1).filter λx=>x.parent==p).foldl (λs x=>s+x.eV) 0
def mR(l:bA eA)(t:Int)(out:bR)(i:Nat)(x:eA):Int:=
 if(i:Int)=t\/mP l i t=false then 0
 else if x.parent≠t/\out.getD x.parent.toNat 0<sumOf l x.parent then x.eV*out.getD x.parent.toNat 0/sumOf l x.parent
 else x.eV
def lJ(l:bA eA)(t:Int):bA eA->bR->bR
 |[],out=>out
 |x::r,out=>lJ l t r (out++[mR l t out out.length x])
def mS(l:bA eA)(t:Int):bR:=if hZ l=false\/t<0\/(l.length:Int)<=t then[]else lJ l t l []
def nt(l:bA eA)(dU:bR)(t g:Int):Bool:=
 if hZ l=false\/dU.length≠l.length\/t<0\/(l.length:Int)<=t\/g<0\/(l.length:Int)<=g\/mP l g t=false then false
 else(h0 l t g).any λx=>decide ((ns l x).use<=dU.getD x.toNat 0)
def cn(l:bR):Int:=l.foldl (· + ·) 0
def iu(n:Int)(ws:bR):Bool:=decide (0<=n)&&decide (n<=1048576)&&decide (ws.length<=64)&&ws.all λw=>decide (0<=w)&&decide (w<=top)
def ahead(rs:bR)(i:Nat)(r:Int):Nat:=(rs.zipIdx.filter λp:Int×Nat=>decide (r<p.1)||(decide (p.1=r)&&decide (p.2<i))).length
def iV(n:Int)(ws:bR):bR:=
 if iu n ws=false then[]else
 if cn ws=0 then ws.map λ_=>0 else
 let rs:=ws.map λw=>n*w%cn ws
 let left:=n-cn (ws.map λw=>n*w/cn ws)
 ws.zipIdx.map λp:Int×Nat=>n*p.1/cn ws+if(ahead rs p.2 (n*p.1%cn ws):Int)<left then 1 else 0
def ji(n:Int)(ws:bR):bR:=
 if iu n ws=false then[]else if cn ws=0\/n=0 then ws.map λ_=>0 else if cn ws<=n then ws else iV n ws
end Go.Kc
namespace Go.Sp
open Go Go.Vc
structure Asn where
 holds:cb Obj->(Nat->Prop)->Prop
 loc:∀ {h h':cb Obj} {F:Nat->Prop},holds h F->(∀b,F b->h'[b]?=h[b]?)->holds h' F
abbrev cv:=bA Asn
def dj:cv->cb Obj->(Nat->Prop)->Prop
 |[],_,_=>True
 |A::L,h,U=>∃F,A.holds h F/\(∀b,F b->b<h.size/\¬ U b)/\dj L h (λb=>U b\/F b)
structure Env where
 os:Os
 tape:Nat->Question->Nat
 output:cb (Nat×ByteArray)
def World.env(w:bH):Env:=⟨w.os,w.tape,w.output⟩
structure Sep(E:Env)(L:cv)(w:bH):Prop where
 env:World.env w=E
 heap:dj L w.heap (λ_=>False)
def emp:Asn:=⟨λ_ F=>∀b,¬ F b,λh _=>h⟩
def ue(z:Nat×Nat)(n:Nat):Prop:=∀o,o<n->¬ (z.1<=o/\o<z.2)
def bC(b:Nat)(c:bA bE):Asn:=
 ⟨λh F=>(∃t z,h[b]?=some (.cells c.toArray t z)/\ue z c.length)/\∀x,F x↔x=b,λa hl=>⟨by rw[hl b ((a.2 b).2 rfl)];exact a.1,a.2⟩⟩
def uf(b:Nat)(es:cb MapEntry)(ck:Nat):Asn:=
 ⟨λh F=>h[b]?=some (.map es ck)/\∀x,F x↔x=b,λa hl=>⟨by rw[hl b ((a.2 b).2 rfl)];exact a.1,a.2⟩⟩
def c8(b:Nat)(o:Obj):Asn:=
 ⟨λh F=>h[b]?=some o/\∀x,F x↔x=b,λa hl=>⟨by rw[hl b ((a.2 b).2 rfl)];exact a.1,a.2⟩⟩
def dY(H:cb Obj):Asn:=
 ⟨λh F=>(∀b,b<H.size->h[b]?=H[b]?)/\∀x,F x↔x<H.size,λa hl=>⟨λb hb=>by rw[hl b ((a.2 b).2 hb)];exact a.1 b hb,a.2⟩⟩
def cG(p:Prop)(A:Asn):Asn:=⟨λh F=>p/\A.holds h F,λa hl=>⟨a.1,A.loc a.2 hl⟩⟩
def fe{α:Sort _}(f:α->Asn):Asn:=⟨λh F=>∃x,(f x).holds h F,λ⟨x,hx⟩ hl=>⟨x,(f x).loc hx hl⟩⟩
def star(A B:Asn):Asn:=
  ⟨λh F=>∃a c,A.holds h a/\B.holds h c/\(∀b,a b->¬ c b)/\∀b,F b↔a b\/c b,
   λ⟨a,c,h1,h2,e,d⟩ hl=>⟨a,c,A.loc h1 (λb hb=>hl b ((d b).2 (.inl hb))),B.loc h2 (λb hb=>hl b ((d b).2 (.inr hb))),e,d⟩⟩
def dj.weaken:∀ {L:cv} {h:cb Obj} {U V:Nat->Prop},dj L h U->(∀b,V b->U b)->dj L h V
 |[],_,_,_,_,_=>trivial
 |_::_,_,_,_,⟨F,h1,h2,d⟩,a=>⟨F,h1,λb hb=>⟨(h2 b hb).1,λc=>(h2 b hb).2 (a b c)⟩,d.weaken (λb hb=>hb.elim (λx=>.inl (a b x)) .inr)⟩
def dj.swap{A B:Asn}{L:cv}{h:cb Obj}{U:Nat->Prop}:dj (A::B::L) h U->dj (B::A::L) h U:=by
 rintro⟨F,h1,h2,G,d,a,e⟩;refine⟨G,d,λb hb=>⟨(a b hb).1,λhu=>(a b hb).2 (.inl hu)⟩,F,h1,λb hb=>⟨(h2 b hb).1,?_⟩,e.weaken ?_⟩
 ·rintro(hu|c);·exact(h2 b hb).2 hu
  ·exact(a b c).2 (.inr hb)
 ·rintro b ((hu|c)|hf);·exact .inl (.inl hu)
  ·exact .inr c
  ·exact .inl (.inr hf)
def dj.cons{A:Asn}{L L':cv}{h:cb Obj}{U:Nat->Prop}(hl:∀U,dj L h U->dj L' h U):dj (A::L) h U->dj (A::L') h U:=
 λ⟨F,h1,h2,a⟩=>⟨F,h1,h2,hl _ a⟩
def dj.drop{A:Asn}{L:cv}{h:cb Obj}{U:Nat->Prop}:dj (A::L) h U->dj L h U:=
 λ⟨_,_,_,a⟩=>a.weaken (λ_ hb=>.inl hb)
def dj.front{A:Asn}{h:cb Obj}:∀ {L:cv} {b:cv} {U:Nat->Prop},dj (L++A::b) h U->dj (A::(L++b)) h U
 |[],_,_,a=>a
 |_::_,_,_,a=>(dj.cons (λ_ h=>dj.front h) a).swap
def dj.perm{h:cb Obj}{L L':cv}(hp:L.Perm L'):∀ {U:Nat->Prop},dj L h U->dj L' h U:=by
 induction hp with
 |nil=>exact id
 |cons A _ d=>exact λa=>a.cons (λ_ h=>d h)
 |swap A B L=>exact dj.swap
 |trans _ _ b c=>exact λa=>c (b a)
def dj.append_left{h:cb Obj}:∀ {L L':cv} {U:Nat->Prop},dj (L++L') h U->dj L h U
 |[],_,_,_=>trivial
 |_::_,_,_,⟨F,h1,h2,a⟩=>⟨F,h1,h2,a.append_left⟩
def k6(L:cv):bA Nat->cv
 |[]=>[]
 |i::is=>match L[i]? with
  |some A=>A::k6 L is
  |none=>k6 L is
def oB:bA Nat->Bool
 |[]=>true
 |i::is=> !is.contains i&&oB is
def dj.AN{h:cb Obj}:∀ {L:cv} {U:Nat->Prop},dj L h U->∃c:Nat->Nat->Prop,
  (∀(i:Nat) (A:Asn),L[i]?=some A->A.holds h (c i)/\∀b,c i b->b<h.size/\¬ U b)/\∀i j b,i≠j->i<L.length->j<L.length->c i b->¬ c j b
 |[],_,_=>⟨λ_ _=>False,λi A a=>by simp at a,λ_ _ _ _ a=>by simp at a⟩
 |B::L,U,⟨F,h1,h2,o⟩=>by
  obtain⟨c,g,n⟩:=dj.AN o;refine⟨λi=>match i with|0=>F|i+1=>c i,?_,?_⟩
  ·intro i A a;cases i with
   |zero=>simp only[lE,fU]at a;subst a;exact⟨h1,h2⟩
   |succ i=>
    have:=g i A (by simpa using a);exact⟨this.1,λb hb=>⟨(this.2 b hb).1,λhu=>(this.2 b hb).2 (.inl hu)⟩⟩
  ·intro i j b f a l hb d;cases i with
   |zero=>
    cases j with
    |zero=>exact f rfl
    |succ j=>
     have m:j<L.length:=by simpa using l
     have:=(g j L[j] (dL m)).2 b d;exact this.2 (.inr hb)
   |succ i=>
    cases j with
    |zero=>
     have k:i<L.length:=by simpa using a
     have:=(g i L[i] (dL k)).2 b hb;exact this.2 (.inr d)
    |succ j=>exact n i j b (λe=>f (by rw[e])) (by simpa using a) (by simpa using l) hb d
def dj.k7{h:cb Obj}{L:cv}{d:Nat->Nat->Prop}(f:∀(i:Nat) (A:Asn),L[i]?=some A->A.holds h (d i)/\∀b,d i b->b<h.size)(l:∀i j b,i≠j->i<L.length->j<L.length->d i b->¬ d j b):∀(is:bA Nat) (U:Nat->Prop),oB is=true->(∀b i,i∈is->i<L.length->d i b->¬ U b)->dj (k6 L is) h U
 |[],_,_,_=>trivial
 |i::is,U,c,m=>by
  simp only[oB,dA,h9]at c;have o:i∉is:=by simpa using c.1
  unfold k6;cases n:L[i]? with
  |none=>exact dj.k7 f l is U c.2 (λb j g a hb=>m b j (fT _ g) a hb)
  |some A=>
   have k:i<L.length:=by
    rcases hN i L.length with h' | h';·exact h'
    ·simp[g2 h']at n
   refine⟨d i,(f i A n).1,λb hb=>⟨(f i A n).2 b hb,m b i (fz ..) k hb⟩,?_⟩;refine dj.k7 f l is _ c.2 (λb j g a hb hu=>?_);rcases hu with hu|hu;·exact m b j (fT _ g) a hb hu
   ·exact l i j b (λe=>o (e▸g)) k a hu hb
def dj.fr{h:cb Obj}{A:Asn}:∀(L:cv) (i:Nat) {U:Nat->Prop},L[i]?=some A->dj L h U->dj (A::L.eraseIdx i) h U
 |[],i,_,a,_=>by simp at a
 |B::L,0,_,a,b=>by simp only[lE,fU]at a;subst a;exact b
 |B::L,i+1,_,a,b=>(b.cons λ_ h=>dj.fr L i (by simpa using a) h).swap
section
variable{E:Env}{L:cv}{w:bH}
def Sep.re(h:Sep E L w)(is:bA Nat)(d:oB is=true):Sep E (k6 L is) w:=by
 obtain⟨f,a,e⟩:=h.heap.AN;exact⟨h.env,dj.k7 (λi A c=>⟨(a i A c).1,λb hb=>((a i A c).2 b hb).1⟩) e is _ d (λ_ _ _ _ _=>id)⟩
def Hh:∀ {is:bA Nat},oB is=true->is.Nodup
 |[],_=>List.nodup_nil
 |i::is,h=>by
  simp only[oB,dA,h9]at h;exact rJ.2 ⟨by simpa using h.1,Hh h.2⟩
def Hi:∀ {is:bA Nat},is.Nodup->oB is=true
 |[],_=>rfl
 |i::is,h=>by
  have:=rJ.1 h;simp only[oB,dA,h9];exact⟨by simpa using this.1,Hi this.2⟩
def Hj(L:cv)(i:Nat)(is:bA Nat):k6 L (i::is)=(match L[i]? with|some A=>A::k6 L is|none=>k6 L is):=rfl
def Hk(L:cv):∀(is a:bA Nat),k6 L (is++a)=k6 L is++k6 L a
 |[],_=>rfl
 |i::is,a=>by
  rw[o4,Hj,Hj,Hk L is a];cases L[i]? <;>rfl
def Hl(L:cv):∀(k n:Nat),n+k=L.length->k6 L (List.range' n k)=L.drop n
 |0,n,h=>by simp[k6,kW (show L.length<=n by omega)]
 |k+1,n,h=>by
  rw[List.range'_succ];unfold k6;rw[dN,Hl L k (n+1) bu];exact(lD bu).symm
def wO(n:Nat):bA Nat->Bool
 |[]=>true
 |i::is=>Nat.blt i n&&wO n is
def Hm{n:Nat}:∀ {is:bA Nat},wO n is=true->∀i∈is,i<n
 |[],_,i,h=>by cases h
 |j::is,a,i,h=>by
  simp only[wO,dA,Nat.blt_eq]at a;rcases ey.1 h with rfl|h;·exact a.1
  ·exact Hm a.2 i h
def Sep.ro(h:Sep E L w)(n:Nat)(is:bA Nat)(c:(oB is&&wO n is)=true):Sep E (k6 L is++L.drop n) w:=by
 simp only[dA]at c;rcases hN L.length n with hl|hl
 ·have:=h.re is c.1;rw[kW bu,hs];exact this
 ·have:=h.re (is++List.range' n (L.length-n)) (Hi (v8.2 ⟨Hh c.1,List.nodup_range',λa d b hb=>by
   have h1:=Hm c.2 a d;have h2:=(List.mem_range'_1.1 hb).1;omega⟩))
  rw[Hk,Hl L _ n bu]at this;exact this
def Sep.perm{L':cv}(h:Sep E L w)(hp:L.Perm L'):Sep E L' w:=⟨h.env,h.heap.perm hp⟩
def Sep.swap{A B:Asn}(h:Sep E (A::B::L) w):Sep E (B::A::L) w:=⟨h.env,h.heap.swap⟩
def Sep.fr(h:Sep E L w)(i:Nat){A:Asn}(a:L[i]?=some A):Sep E (A::L.eraseIdx i) w:=⟨h.env,dj.fr L i a h.heap⟩
def Sep.tail{A:Asn}(h:Sep E (A::L) w):Sep E L w:=⟨h.env,h.heap.drop⟩
def Sep.left{L':cv}(h:Sep E (L++L') w):Sep E L w:=⟨h.env,h.heap.append_left⟩
def Sep.star{A B:Asn}:Sep E (star A B::L) w↔Sep E (A::B::L) w:=by
 constructor
 ·rintro⟨he,F,⟨c,d,h1,h2,f,a⟩,e,h⟩;refine⟨he,c,h1,λb hb=>e b ((a b).2 (.inl hb)),d,h2,λb hb=>⟨(e b ((a b).2 (.inr hb))).1,?_⟩,h.weaken ?_⟩
  ·rintro(hu|hu);·exact hu
   ·exact f b hu hb
  ·rintro b ((hu|hu)|hu);·exact .inl hu
   ·exact .inr ((a b).2 (.inl hu))
   ·exact .inr ((a b).2 (.inr hu))
 ·rintro⟨he,c,h1,h2,d,f,a,e⟩;refine⟨he,λb=>c b\/d b,⟨c,d,h1,f,λb hb g=>(a b g).2 (.inr hb),λ_=>l5⟩,λb hb=>?_,e.weaken ?_⟩
  ·rcases hb with hb|hb;·exact h2 b hb
   ·exact⟨(a b hb).1,λhu=>hu⟩
  ·rintro b (hu|hu|hu);·exact hu.elim
   ·exact .inl (.inr hu)
   ·exact .inr hu
def Sep.ex{α:Sort _}{f:α->Asn}:Sep E (fe f::L) w↔∃x,Sep E (f x::L) w:=by
 constructor;·rintro⟨he,F,⟨x,hx⟩,h2,a⟩;exact⟨x,he,F,hx,h2,a⟩
 ·rintro⟨x,he,F,hx,h2,a⟩;exact⟨he,F,⟨x,hx⟩,h2,a⟩
def Sep.cG{p:Prop}{A:Asn}:Sep E (cG p A::L) w↔p/\Sep E (A::L) w:=by
 constructor;·rintro⟨he,F,⟨hp,hx⟩,h2,a⟩;exact⟨hp,he,F,hx,h2,a⟩
 ·rintro⟨hp,he,F,hx,h2,a⟩;exact⟨he,F,⟨hp,hx⟩,h2,a⟩
def Sep.emp:Sep E (emp::L) w↔Sep E L w:=by
 constructor;·exact Sep.tail
 ·rintro⟨he,h⟩;exact⟨he,λ_=>False,λ_ h=>h,λ_ h=>h.elim,h.weaken (λ_ hb=>hb.elim id id)⟩
def Sep.block{b:Nat}{c:bA bE}(h:Sep E (bC b c::L) w):∃t z,w.heap[b]?=some (.cells c.toArray t z)/\ue z c.length:=by
 obtain⟨_,F,⟨h1,_⟩,_⟩:=h;exact h1
def Sep.dk{b:Nat}{o:Obj}(h:Sep E (c8 b o::L) w):w.heap[b]?=some o:=by
 obtain⟨_,F,⟨h1,_⟩,_⟩:=h;exact h1
def Sep.kn{H:cb Obj}(h:Sep E (dY H::L) w)(b:Nat)(hb:b<H.size):w.heap[b]?=H[b]? :=by
 obtain⟨_,F,⟨h1,_⟩,_⟩:=h;exact h1 b hb
def Sep.cell{b:Nat}{c:bA bE}(h:Sep E (bC b c::L) w)(o:Nat):w.cell? ⟨b,o,none⟩=c[o]? :=by
 obtain⟨t,z,a,_⟩:=h.block;simp[World.cell?,a]
def Sep.cellAt{b:Nat}{c:bA bE}(i:Nat)(d:L[i]?=some (bC b c))(h:Sep E L w)(o:Nat):w.cell? ⟨b,o,none⟩=c[o]? :=by
 obtain⟨f,a,_⟩:=h.heap.AN;obtain⟨t,z,e,_⟩:=(a i _ d).1.1;simp[World.cell?,e]
def dj.change{A A':Asn}{F F':Nat->Prop}{h h':cb Obj}(d:h.size<=h'.size)(hold:∀b,b<h.size->¬ F b->h'[b]?=h[b]?)(e:A'.holds h' F')(c:∀b,F' b->b<h'.size/\(F b\/h.size<=b)):
  ∀ {L:cv} {U:Nat->Prop},(∀b,F b->U b)->(∀b,U b->b<h.size)->dj L h U->dj L h' (λb=>U b\/F' b)
 |[],_,_,_,_=>trivial
 |B::L,U,a,g,⟨G,h1,h2,f⟩=>by
  refine⟨G,B.loc h1 (λb hb=>hold b (h2 b hb).1 (λhf=>(h2 b hb).2 (a b hf))),λb hb=>⟨lG (h2 b hb).1 d,?_⟩,?_⟩
  ·rintro(hu|hf);·exact(h2 b hb).2 hu
   ·rcases(c b hf).2 with hf|hf;·exact(h2 b hb).2 (a b hf)
    ·exact absurd (h2 b hb).1 (Nat.not_lt.2 hf)
  ·have:=dj.change (A:=A) d hold e c (L:=L) (U:=λb=>U b\/G b) (λb hb=>.inl (a b hb)) (λb hb=>hb.elim (g b) (λi=>(h2 b i).1)) f;exact this.weaken (λb hb=>by
    rcases hb with(hb|hb)|hb;·exact .inl (.inl hb)
    ·exact .inr hb
    ·exact .inl (.inr hb))
def Sep.change{A A':Asn}{w':bH}(h:Sep E (A::L) w)(d:World.env w'=World.env w)(f:w.heap.size<=w'.heap.size)(e:∀F,A.holds w.heap F->(∀b,F b->b<w.heap.size)->(∀b,b<w.heap.size->¬ F b->w'.heap[b]?=w.heap[b]?)/\∃F',A'.holds w'.heap F'/\∀b,F' b->b<w'.heap.size/\(F b\/w.heap.size<=b)):
  Sep E (A'::L) w':=by
 obtain⟨he,F,h1,h2,g⟩:=h;obtain⟨hold,F',a,c⟩:=e F h1 (λb hb=>(h2 b hb).1);refine⟨d.trans he,F',a,λb hb=>⟨(c b hb).1,λhu=>hu⟩,?_⟩;have:=dj.change (A:=A) f hold a c (L:=L) (U:=λb=>False\/F b) (λb hb=>.inr hb) (λb hb=>hb.elim False.elim (λhf=>(h2 b hf).1)) g;exact this.weaken (λb hb=>by
  rcases hb with hb|hb;·exact hb.elim
  ·exact .inr hb)
def Sep.grow{w':bH}(h:Sep E L w)(g:Grow w w'):Sep E L w':=by
 have h1:Sep E (Sp.emp::L) w:=Sep.emp.2 h;refine Sep.emp.1 (h1.change (A':=Sp.emp) ?_ g.size (λF a _=>⟨λb hb _=>g.heap b hb,F,a,λb hb=>(a b hb).elim⟩));simp[World.env,g.os,g.tape,g.output]
def Sep.drew(h:Sep E L w):Sep E L w.drew:=h.grow (Grow.drew w)
def Sep.new{A':Asn}{w':bH}(h:Sep E L w)(g:Grow w w'){F':Nat->Prop}(c:A'.holds w'.heap F')(a:∀b,F' b->w.heap.size<=b/\b<w'.heap.size):Sep E (A'::L) w':=by
 have h1:Sep E (Sp.emp::L) w:=Sep.emp.2 h;refine h1.change (A':=A') ?_ g.size (λF d _=>⟨λb hb _=>g.heap b hb,F',c,λb hb=>⟨(a b hb).2,.inr (a b hb).1⟩⟩);simp[World.env,g.os,g.tape,g.output]
def heap_alloc(w:bH)(o:Obj):(w.alloc o).heap[w.heap.size]?=some o:=by
 show(w.heap.push o)[w.heap.size]?=some o;simp
def size_alloc(w:bH)(o:Obj):(w.alloc o).heap.size=w.heap.size+1:=by
 show(w.heap.push o).size=_;simp
def Sep.alloc(h:Sep E L w)(c:cb bE)(t:cf):Sep E (bC w.heap.size c.toList::L) (w.alloc (.cells c t)):=
 h.new (Grow.alloc w _) (F':=λx=>x=w.heap.size) ⟨⟨t,(0,0),heap_alloc w _,λ_ _ h=>bu⟩,λ_=>l5⟩ (λb hb=>by subst hb;rw[size_alloc];omega)
def Sep.qt(h:Sep E L w)(es:cb MapEntry)(ck:Nat):Sep E (uf w.heap.size es ck::L) (w.alloc (.map es ck)):=
 h.new (Grow.alloc w _) (F':=λx=>x=w.heap.size) ⟨heap_alloc w _,λ_=>l5⟩ (λb hb=>by subst hb;rw[size_alloc];omega)
def Sep.nu(h:Sep E L w)(o:Obj):Sep E (c8 w.heap.size o::L) (w.alloc o):=
 h.new (Grow.alloc w _) (F':=λx=>x=w.heap.size) ⟨heap_alloc w _,λ_=>l5⟩ (λb hb=>by subst hb;rw[size_alloc];omega)
def Sep.eP{b:Nat}{c:bA bE}(h:Sep E (bC b c::L) w){o:Nat}(ho:o<c.length):Vc.eP w ⟨b,o,none⟩:=by
 refine⟨⟨c[o],?_⟩,?_⟩;·rw[h.cell o];simp[ho]
 ·obtain⟨t,z,d,a⟩:=h.block;simpa[World.frozen?,d]using a o ho
def Sep.setCell{b:Nat}{c:bA bE}(h:Sep E (bC b c::L) w)(o:Nat)(v:bE):Sep E (bC b (c.set o v)::L) (w.setCell ⟨b,o,none⟩ v):=by
 obtain⟨t,z,hb,f⟩:=h.block;refine h.change rfl (by simp[World.setCell]) (λF a d=>⟨λx _ hx=>?_,F,⟨?_,a.2⟩,λx hx=>⟨?_,.inl hx⟩⟩)
 ·have:b≠x:=λe=>hx ((a.2 x).2 e.symm);simp[World.setCell,FT,this]
 ·exact⟨t,z,by simp[World.setCell,FT,hb],by simpa using f⟩
 ·simpa[World.setCell]using d x hx
def St.i{b:Nat}{c:bA bE}{v:bE}{f:bg0}(h:Sep E (bC b c::L) w){o:Nat}(ho:o<c.length)(k:∀a,Sep E (bC b (c.set o v)::L) a->f a):St ⟨b,o,none⟩ v f w:=⟨h.eP ho,k _ (h.setCell o v)⟩
def Al.i{c:cb bE}{t:cf}{f:Addr->bg0}(h:Sep E L w)(k:∀b a,Sep E (bC b c.toList::L) a->f ⟨b,0,none⟩ a):Al (.cells c t) f w:=k _ _ (h.alloc c t)
def mK.i{f:Nat->bg0}(h:Sep E L w)(k:∀b a,Sep E (uf b #[] 0::L) a->f b a):mK f w:=k _ _ (h.qt _ _)
def Dr.i{f:bg0}(h:Sep E L w)(k:∀a,Sep E L a->f a):Dr f w:=k _ h.drew
def Aw.i{f:bg0}(h:Sep E L w)(k:∀a,Sep E L a->f a):Aw f w:=λ_ g=>k _ (h.grow g)
def cB:cv->Asn
 |[]=>emp
 |A::a=>star A (cB a)
def Sep.cB:∀ {a:cv} {L:cv},Sep E (cB a::L) w↔Sep E (a++L) w
 |[],_=>Sep.emp
 |A::a,L=>by
  refine Sep.star.trans ⟨λh=>?_,λh=>?_⟩
  ·have h1:=Sep.cB.1 h.swap;exact⟨h1.env,dj.front h1.heap⟩
  ·refine Sep.swap (Sep.cB.2 (h.perm ?_));exact(jc).symm
end
end Go.Sp
namespace Go.Sp
open Go Go.Vc
@[simp] theorem cj(b o n:Nat):(⟨b,o,none⟩:Addr).add n=⟨b,o+n,none⟩:=by
 unfold Addr.add;split;·subst_vars;rfl
 ·rfl
def cw{b:Bool}{A B:Prop}(h1:b=true->A)(h2:b=false->B):bif b then A else B:=by
 cases b;·exact h2 rfl
 ·exact h1 rfl
def eB{A B:Prop}(h:A):bif true then A else B:=h
def dG{A B:Prop}(h:B):bif false then A else B:=h
def use{P:cP}{f:bg7}{args:cb bE}{w:bH}{K:bg1}{R:Ending->bg0}(h:Calls P f args w (cA K))(k:∀v w',K v w'->R (.returned v) w'):Calls P f args w R:=
 h.mono λe w' ⟨v,he,hk⟩=>by subst he;exact k v w' hk
def cR{n:Int}(h1: -9223372036854775808<=n)(h2:n<=9223372036854775807):i64.wrap n=n:=by
 unfold IntKind.wrap;simp only[IntKind.signed,IntKind.bits,l4];by_cases a:n%2^64≥2^(64-1);·rw[bL (by simpa using a)];omega
 ·rw[bJ (by simpa using a)];omega
def ic(c:bA bE)(o:Nat):bA bE->bA bE
 |[]=>c
 |v::r=>ic (c.set o v) (o+1) r
@[simp] theorem Uu:∀(vs:bA bE) (c:bA bE) (o:Nat),(ic c o vs).length=c.length
 |[],_,_=>rfl
 |v::r,c,o=>by rw[ic,Uu r];simp
def Hn:∀(vs:bA bE) (c:bA bE) (o i:Nat),(ic c o vs)[i]?=if o<=i/\i<o+vs.length/\i<c.length then vs[i-o]? else c[i]?
 |[],c,o,i=>by
  have:¬ (o<=i/\i<o+0/\i<c.length):=by omega
  simp only[ic,p0,bJ this]
 |v::r,c,o,i=>by
  rw[ic,Hn r];simp only[dM,hI,hd];by_cases h1:o=i
  ·subst h1;by_cases h2:o<c.length
   ·have:¬ (o+1<=o/\o<o+1+r.length/\o<c.length):=by omega
    rw[bJ this,bL rfl,bL h2,eJ];simp
   ·have:¬ (o+1<=o/\o<o+1+r.length/\o<c.length):=by omega
    rw[bJ this,bL rfl,bJ h2,cF];simp;omega
  ·rw[bJ h1];by_cases h2:o+1<=i/\i<o+1+r.length/\i<c.length
   ·rw[bL h2,eJ];rw[show i-o=(i-(o+1))+1 by omega];simp
   ·rw[bJ h2,cF]
def oC:∀(vs c:bA bE) (o:Nat),o+vs.length<=c.length->ic c o vs=c.take o++vs++c.drop (o+vs.length):=by
 intro vs c o hl;apply hg;intro i;rw[Hn];by_cases h1:o<=i/\i<o+vs.length/\i<c.length
 ·rw[bL h1,dm,fR (by simp;omega),eN (by simp;omega)];simp[show min o c.length=o by omega]
 ·rw[bJ h1];by_cases h2:i<o;·rw[dm,eN (by simp;omega)];simp[h2]
  ·by_cases a:i<c.length
   ·rw[fR (by simp;omega)];simp only[dg,hJ,pY];congr 1;omega
   ·rw[g2 bu,g2 (by simp;omega)]
section
variable{E:Env}{L:cv}{w:bH}{P:cP}
def Sep.setCells{b:Nat}:∀(vs:bA bE) {c:bA bE} {w:bH} (_:Sep E (bC b c::L) w) (o:Nat),Sep E (bC b (ic c o vs)::L) (w.setCells b o vs)
 |[],_,_,h,_=>h
 |v::r,_,_,h,o=>Sep.setCells r (h.setCell o v) (o+1)
def Sep.isSome{b:Nat}{c:bA bE}(h:Sep E (bC b c::L) w){o:Nat}(ho:o<c.length):(w.cell? ⟨b,o,none⟩).isSome=true:=by
 rw[h.cell o];simp[ho]
def Sep.qu{b:Nat}{c:bA bE}(h:Sep E (bC b c::L) w){o:Nat}(ho:o<c.length):w.frozen? ⟨b,o,none⟩=false:=(h.eP ho).2
def Ho(b:Nat):∀(vs:bA bE) (w:bH) (o i:Nat),rR w ⟨b,o,none⟩ i vs=w.setCells b (o+i) vs
 |[],_,_,_=>rfl
 |v::r,w,o,i=>by rw[rR,cj,Ho b r,World.setCells];rfl
def ef.j{b:Nat}{c:bA bE}{v:bE}{f:bg0}{o n:Nat}(h:Sep E (bC b c::L) w)(ho:o+n<c.length)(k:∀a,Sep E (bC b (c.set (o+n) v)::L) a->f a):St ((⟨b,o,none⟩:Addr).add n) v f w:=by
 rw[cj];exact St.i h ho k
def kM.i{b:Nat}{c:bA bE}{f:bg0}{o:Nat}{vs:bA bE}(h:Sep E (bC b c::L) w)(hl:o+vs.length<=c.length)(k:∀a,Sep E (bC b (ic c o vs)::L) a->f a):kM vs ⟨b,o,none⟩ f w:=by
 have go:∀(vs:bA bE) (i:Nat) {c:bA bE} {w:bH} (_:Sep E (bC b c::L) w) (_:o+i+vs.length<=c.length) (_:∀a,Sep E (bC b (ic c (o+i) vs)::L) a->f a),rQ vs ⟨b,o,none⟩ i w f:=by
  intro vs;induction vs with
  |nil=>intro i c w h _ k;exact k _ h
  |cons v r d=>
   intro i c w h hl k;simp only[hI]at hl;refine⟨by rw[cj];exact h.eP bu,?_⟩;rw[cj];refine d (i+1) (h.setCell (o+i) v) (by simp;omega) (λa h1=>k a h1)
 exact go vs 0 h hl k
def tT.i{b:Nat}{c:bA bE}{f:bg0}{o n:Nat}{k:IntKind}{v:bE}(a:bR)(h:Sep E (bC b c::L) w)(e:v=.agg (a.map (Value.int k)).toArray)(hn:a.length=n)(hl:o+n<=c.length)(g:∀d,Sep E (bC b (ic c o (a.map (Value.int k)))::L) d->f d):tT n k v ⟨b,o,none⟩ w f:=by
 refine⟨a,e,hn,λi j=>?_,?_⟩;·rw[cj];exact h.eP bu
 ·rw[Ho];exact g _ (h.setCells _ _)
def hi(P:cP)(t:cf):bW (Nat×Nat×bA bE):=
 match P.underlying t with
 |some (.slice e)=>match P.info? e with
  |some i=>match i.zero with
   |some z=>some (i.bytes,i.size,z.cells.toList)
   |none=>none
  |none=>none
 |_=>none
def ph{t:cf}{dd sz:Nat}{zs:bA bE}(h:hi P t=some (dd,sz,zs)):∃e i z,P.underlying t=some (.slice e)/\P.info? e=some i/\i.zero=some z/\i.bytes=dd/\i.size=sz/\z.cells.toList=zs:=by
 unfold hi at h;split at h
 ·next e he=>
  split at h
  ·next i a=>
   split at h;·next z b=>simp only[fU,o7]at h;exact⟨e,i,z,he,a,b,h.1,h.2.1,h.2.2⟩
   ·simp at h
  ·simp at h
 ·simp at h
def AO(P:cP)(t:cf):Bool:=
 match P.underlying t with
 |some (.slice e)=>match P.underlying e with
  |some (.int .u8)=>true
  |_=>false
 |_=>false
def AP{t:cf}(h:AO P t=true):∃e,P.underlying t=some (.slice e)/\P.underlying e=some (.int .u8):=by
 unfold AO at h;split at h
 ·next e he=>
  split at h;·next h2=>exact⟨e,he,h2⟩
  ·simp at h
 ·simp at h
def Uv{t:cf}(h:pc P t=true):P.underlying t=some .string:=by
 unfold pc at h;split at h;·assumption
 ·simp at h
def makeSlice.i(h:Sep E L w){t:cf}{dd sz:Nat}{zs:bA bE}(q:hi P t=some (dd,sz,zs)){n m:IntKind}{l c:Int}(o:0<=l)(g:l<=c)(hb:(dd:Int)*c<=281474976710656)(d:c<=9223372036854775807){G:Sl->bg0}(k:∀b a,Sep E (bC b ((List.range (c.toNat*sz)).map λi=>(zs.toArray)[i%zs.length]!)::L) a->G ⟨some ⟨b,0,none⟩,l.toNat,c.toNat⟩ a):
  ∃x:Sl,∃a,Sem.run P (Instr.makeSlice t (.int n l) (.int m c)) w=.ok (.slice x.p x.n x.c) a/\G x a:=by
 obtain⟨e,i,z,s,p,u,f,r,j⟩:=ph q;subst f r j;have:=h.alloc (madeCells z.cells (c.toNat*i.size)) e;refine⟨⟨_,_,_⟩,_,run_make w t e i z s p u n m l c o g hb d,k _ _ ?_⟩;simpa[madeCells]using this
def g9(l:bA UInt8):bA bE:=l.map λb=>Value.int .u8 b.toNat
@[simp] theorem ug(l:bA UInt8)(i:Nat):(g9 l)[i]?=l[i]?.map λb=>Value.int .u8 b.toNat:=by simp[g9]
@[simp] theorem Uw(l:bA UInt8):(g9 l).length=l.length:=by simp[g9]
def mi.i(h:Sep E L w){t:cf}{dd sz m:Nat}(g:hi P t=some (dd,sz,g9 (List.replicate m 0)))(hm:0<m){n j:IntKind}{l:Int}(f:0<=l)(hb:(dd:Int)*l<=281474976710656)(c:l<=9223372036854775807){G:Sl->bg0}(k:∀b a,Sep E (bC b (g9 (List.replicate (l.toNat*sz) 0))::L) a->G ⟨some ⟨b,0,none⟩,l.toNat,l.toNat⟩ a):
  ∃x:Sl,∃a,Sem.run P (Instr.makeSlice t (.int n l) (.int j l)) w=.ok (.slice x.p x.n x.c) a/\G x a:=by
 refine makeSlice.i h g f (g3 _) hb c (λb a h1=>k b a ?_);have:((List.range (l.toNat*sz)).map λi=>((g9 (List.replicate m 0)).toArray)[i%(g9 (List.replicate m 0)).length]!)=g9 (List.replicate (l.toNat*sz) 0):=by
  apply hg;intro i;simp only[eI,Uw,lF,ug];have e:i%m<m:=kL _ hm;by_cases d:i<l.toNat*sz;·simp[d,g9,e]
  ·simp[d]
 rw[this]at h1;exact h1
def toStr.i(l:bA UInt8){b o n c:Nat}{C:bA bE}{s d:cf}(m:Nat)(h:Sep E L w)(p:L[m]?=some (bC b C))(q:AO P s=true)(i:pc P d=true)(hn:l.length=n)(g:∀j (a:j<l.length),C[o+j]?=some (.int .u8 (l[j].toNat:Int))){G:ByteArray->bg0}(k:G ⟨l.toArray⟩ w):
  ∃x:ByteArray,∃f,Sem.run P (convert s d (.slice (some ⟨b,o,none⟩) n c)) w=.ok (.string x) f/\G x f:=by
 subst hn;obtain⟨e,h1,h2⟩:=AP q;exact⟨_,_,run_convert_bytes_back w s d e ⟨b,o,none⟩ c l h1 h2 (Uv i) (λj a=>by rw[cj,h.cellAt m p];exact g j a),k⟩
def oD.i{b o n c:Nat}{C:bA bE}{s:ByteArray}{f st ty:cf}{dd:Nat}{zs:bA bE}(h:Sep E (bC b C::L) w)(p:hi P f=some (dd,1,zs))(hn:s.size=n)(v:o+n<=C.length){G:Int->bg0}(k:∀a,Sep E (bC b (ic C o (byteCells s))::L) a->G (n:Int) a):
  ∃x:Int,∃a,Sem.run P (Builtin.copy_ #[f,st] ty #[.slice (some ⟨b,o,none⟩) n c,.string s]) w=.ok (.int .i64 x) a/\G x a:=by
 subst hn;obtain⟨e,i,z,q,l,y,r,g,t⟩:=ph p;have hl:(byteCells s).length=s.size:=byteCells_length s;have d:=run_storeCells_cells (P:=P) b o (byteCells s) 0 w (λj m=>h.isSome bu) (λj m=>h.qu bu) (λu hu=>by
  obtain⟨_,_,rfl⟩:=fo.1 hu;rfl)
 refine⟨(s.size:Int),w.setCells b o (byteCells s),?_,k _ (h.setCells _ _)⟩;have hf:=firstCells_string (P:=P) s w;simp only[k1]at d;simp[Builtin.copy_,run_underlying q,Builtin.lenOf,sizeOf,typeInfo,l,g,hf,d,goInt]
def append.i{b o n c:Nat}{C:bA bE}{x:bE}{k:Nat}{news:bA bE}{st p ty:cf}{dd sz:Nat}{zs:bA bE}(h:Sep E (bC b C::L) w)(K:hi P st=some (dd,sz,zs))(r:Src P sz p x k news w)(Q:o+n*sz<=C.length)(g:n+k<=c->o+(n+k)*sz<=C.length)(t:((n+k:Nat):Int)<=9223372036854775807)(q:c<n+k->Builtin.nextslicecap (n+k) c*dd<=281474976710656){G:Sl->bg0}(N:n+k<=c->∀d,Sep E (bC b (ic C (o+n*sz) news)::L) d->G ⟨some ⟨b,o,none⟩,n+k,c⟩ d)(O:c<n+k->∀s c' d,n+k<=c'->Sep E (bC s ((C.drop o).take (n*sz)++news++(Builtin.zeroCells zs.toArray (c'-(n+k))).toList)::bC b C::L) d->G ⟨some ⟨s,0,none⟩,n+k,c'⟩ d):
  ∃m:Sl,∃d,Sem.run P (Builtin.append_ #[st,p] ty #[.slice (some ⟨b,o,none⟩) n c,x]) w=.ok (.slice m.p m.n m.c) d/\G m d:=by
 obtain⟨e,i,z,H,y,M,u,D,I⟩:=ph K;subst u D I;by_cases hr:n+k<=c
 ·have hl:=r.newsLen;have F:=g hr;rw[ke]at F;exact⟨⟨_,_,_⟩,_,run_append_room_src w st p ty e i H y b o n c x k news r hr (λj l=>h.isSome bu) (λj l=>h.qu bu),N hr _ (h.setCells _ _)⟩
 ·have f:c<n+k:=by omega
  let a:bA bE:=(C.drop o).take (n*i.size);have B:a.length=n*i.size:=by simp[a];omega
  have hold:(Builtin.firstCells i.size n (.slice (some ⟨b,o,none⟩) n c)).run P w.drew=.ok a.toArray w.drew:=by
   refine run_firstCells_some w.drew i.size n ⟨b,o,none⟩ n c a B (λj v l=>?_);have A:j<n*i.size:=by
    rcases hN j (n*i.size)with h' | h';·exact h'
    ·simp[g2 (show a.length<=j by omega)]at l
   rw[cj,h.drew.cell];rw[<- l];simp[a,A]
  have J:=run_append_grow_src w st p ty e i z H y M (some ⟨b,o,none⟩) n c a hold x k news r f t (q f);refine⟨⟨_,_,_⟩,_,J,?_⟩;refine O f w.heap.size (grownCap w (n+k) c e) _ ?_ ?_;·show n+k<=n+k+_;omega
  ·have:=h.drew.alloc ((a++news).toArray++Builtin.zeroCells z.cells (grownCap w (n+k) c e-(n+k))) e;simpa[a]using this
def jx.i{c:Nat}{x:bE}{k:Nat}{news:bA bE}{st f ty:cf}{dd sz:Nat}{zs:bA bE}(h:Sep E L w)(q:hi P st=some (dd,sz,zs))(r:Src P sz f x k news w)(v:c<k)(j:(k:Int)<=9223372036854775807)(d:Builtin.nextslicecap k c*dd<=281474976710656){G:Sl->bg0}(u:∀g c' a,k<=c'->Sep E (bC g (news++(Builtin.zeroCells zs.toArray (c'-k)).toList)::L) a->G ⟨some ⟨g,0,none⟩,k,c'⟩ a):
  ∃b:Sl,∃a,Sem.run P (Builtin.append_ #[st,f] ty #[.slice none 0 c,x]) w=.ok (.slice b.p b.n b.c) a/\G b a:=by
 obtain⟨e,i,z,s,p,t,l,m,n⟩:=ph q;subst l m n;have hold:(Builtin.firstCells i.size 0 (.slice none 0 c)).run P w.drew=.ok ([]:bA bE).toArray w.drew:=run_firstCells_none w.drew i.size 0 0 c;have o:=run_append_grow_src w st f ty e i z s p t none 0 c [] hold x k news r bu (by simpa using j) (by simpa using d);refine⟨⟨_,_,_⟩,_,o,?_⟩;have e0:0+k=k:=fy k;rw[e0];refine u w.heap.size (grownCap w k c e) _ ?_ ?_;·show k<=k+_;omega
 ·have:=h.drew.alloc (news.toArray++Builtin.zeroCells z.cells (grownCap w k c e-k)) e;simpa using this
end
end Go.Sp
namespace Go.Sp
open Go Go.Vc
inductive LK where
 |int (k:IntKind)|bool|str
def LK.ok:LK->bE->Prop
 |.int k,v=>∃n,v=.int k n
 |.bool,v=>∃b,v=.bool b
 |.str,v=>∃s,v=.string s
def k8(P:cP)(a:cf->bW (bA LK)):bA Field->Nat->bW (bA LK)
 |[],_=>some []
 |f::fs,o=>match f.name== "_",Nat.beq f.offset o,a f.type with
  |false,true,some l=>match ir P f.type with
   |some n=>match Nat.beq n l.length with
    |true=>match k8 P a fs (o+l.length)with
     |some r=>some (l++r)
     |none=>none
    |false=>none
   |none=>none
  |_,_,_=>none
def ko(P:cP):Nat->cf->bW (bA LK)
 |0,_=>none
 |d+1,t=>match P.underlying t with
  |some (.int k)=>some [.int k]
  |some .bool=>some [.bool]
  |some .string=>some [.str]
  |some (.struct fs)=>match P.stoodInHeld t with
   |true=>none
   |false=>k8 P (ko P d) fs.toList 0
  |_=>none
def Cells:bA LK->bA bE->Prop
 |[],[]=>True
 |k::ks,v::vs=>k.ok v/\Cells ks vs
 |_,_=>False
def Cells.length:∀ {l:bA LK} {vs:bA bE},Cells l vs->vs.length=l.length
 |[],[],_=>rfl
 |_::_,_::_,h=>by simp[Cells.length h.2]
 |[],_::_,h=>h.elim
 |_::_,[],h=>h.elim
def Cells.append:∀ {l r:bA LK} {vs:bA bE},Cells (l++r) vs->Cells l (vs.take l.length)/\Cells r (vs.drop l.length)
 |[],_,_,h=>⟨trivial,h⟩
 |_::_,_,_::_,h=>⟨⟨h.1,(Cells.append h.2).1⟩,(Cells.append h.2).2⟩
 |_::_,_,[],h=>h.elim
def Typed(P:cP)(t:cf)(l:bA LK)(v:bE):Prop:=
 match ei P t with
 |some true=>∃cs:cb bE,v=.agg cs/\Cells l cs.toList
 |_=>Cells l [v]
section
variable{P:cP}
def Ux{t:cf}{n:Nat}(h:ir P t=some n):∃i,P.info? t=some i/\i.size=n:=by
 unfold ir at h;cases a:P.info? t with
 |none=>simp[a]at h
 |some i=>simp[a]at h;exact⟨i,rfl,h⟩
def AQ{l:LK}{a b:bE}(c:l.ok a)(hb:l.ok b){t:cf}(d:Nat)(e:(match l with | .int k=>P.underlying t=some (.int k) | .bool=>P.underlying t=some .bool | .str=>P.underlying t=some .string))(w:bH):
  ∃r,(Op.equalIn (d+1) t a b).run P w=.ok r w/\(r=true↔a=b):=by
 cases l with
 |int k=>
  obtain⟨x,rfl⟩:=c;obtain⟨y,rfl⟩:=hb;exact⟨x==y,run_equalIn_int w d t k k x y e,by simp⟩
 |bool=>
  obtain⟨x,rfl⟩:=c;obtain⟨y,rfl⟩:=hb;exact⟨x==y,run_equalIn_bool w d t x y e,by simp⟩
 |str=>
  obtain⟨x,rfl⟩:=c;obtain⟨y,rfl⟩:=hb;refine⟨x.toList==y.toList,run_equalIn_string w d t x y e,?_⟩;rw[<- beq_toListBytes,MapKept.bytes_beq];simp
def AR{t:cf}{d:TypeDesc}(h:P.underlying t=some d)(h1:∀fs,d≠ .struct fs)(h2:∀n e,d≠ .array n e):ei P t=some false:=by
 unfold ei;rw[h];cases d<;>simp_all
def AS{t:cf}{l r:bA LK}{n:Nat}{xs:cb bE}{o:Nat}(u:ir P t=some n)(hn:n=l.length)(m:ei P t≠none)(h1:ei P t=some false->l.length=1)(p:Cells (l++r) (xs.toList.drop o))(w:bH):
  ∃v,(part t xs o).run P w=.ok v w/\Typed P t l v/\v.cells.toList=(xs.toList.drop o).take l.length/\(ei P t=some false->xs.toList.drop o=v::xs.toList.drop (o+1)):=by
 obtain⟨i,s,q⟩:=Ux u;obtain⟨hl,_⟩:=p.append;cases a:ei P t with
 |none=>exact absurd a m
 |some b=>cases b with
  |true=>
   have c:(isAgg t).run P w=.ok true w:=by
    unfold ei at a;cases hu:P.underlying t with
    |none=>simp[hu]at a
    |some d=>cases d<;>simp[hu]at a<;>simp[isAgg,run_underlying hu]
   refine⟨.agg (xs.extract o (o+n)),?_,?_,?_,λh=>by simp at h⟩;·simp[part,c,sizeOf,typeInfo,s,q]
   ·unfold Typed;rw[a];refine⟨_,rfl,?_⟩;have:(xs.extract o (o+n)).toList=(xs.toList.drop o).take l.length:=by
     rw[Array.toList_extract,List.extract,hn];simp
    rw[this];exact hl
   ·show(xs.extract o (o+n)).toList=_;rw[Array.toList_extract,List.extract,hn];simp
  |false=>
   have c:(isAgg t).run P w=.ok false w:=by
    unfold ei at a;cases hu:P.underlying t with
    |none=>simp[hu]at a
    |some d=>cases d<;>simp[hu]at a<;>simp[isAgg,run_underlying hu]
   have f:=h1 a;have hlen:=p.length;simp only[dg,nO,tv]at hlen;have ho:o<xs.size:=by omega
   have j:xs.toList.drop o=xs[o]::xs.toList.drop (o+1):=by
    rw[lD (by simpa using ho)];simp
   rw[f,j]at hl;have e:Cells l [xs[o]]:=by simpa using hl
   have g:xs[o].cells.toList= [xs[o]]:=by
    cases l with
    |nil=>simp at f
    |cons k ks=>
     have:=e.1;cases k<;>(obtain⟨_,h⟩:=this;rw[h];rfl)
   refine⟨xs[o],?_,?_,?_,λ_=>j⟩;·simp[part,c,ho]
   ·unfold Typed;rw[a];exact e
   ·rw[g,f,j];simp
def Hp{d:Nat}{t:cf}{l:bA LK}(h:ko P d t=some l):ei P t≠none/\(ei P t=some false->l.length=1):=by
 cases d with
 |zero=>simp[ko]at h
 |succ d=>
  unfold ko at h;unfold ei;cases hu:P.underlying t with
  |none=>simp[hu]at h
  |some x=>cases x<;>simp[hu]at h<;>simp<;>(try subst h)<;>rfl
def Hq:∀(d:Nat) (t:cf) (l:bA LK),ko P d t=some l->∀(D:Nat),d<=D->∀(a b:bE),Typed P t l a->Typed P t l b->∀w,∃r,(Op.equalIn D t a b).run P w=.ok r w/\(r=true↔a=b):=by
 intro d;induction d with
 |zero=>intro t l h;simp[ko]at h
 |succ d Y=>
  intro t l h D ae a b c hb w;obtain⟨D,rfl⟩:∃U,D=U+1:=⟨D-1,bu⟩
  unfold ko at h;cases hu:P.underlying t with
  |none=>simp[hu]at h
  |some x=>
   cases x<;>simp only[hu]at h<;>try (simp at h;done)
   case bool=>
    simp only[fU]at h;subst h;have g:=AR hu (by simp) (by simp);unfold Typed at c hb;rw[g]at c hb;exact AQ (l:=.bool) c.1 hb.1 D hu w
   case int k=>
    simp only[fU]at h;subst h;have g:=AR hu (by simp) (by simp);unfold Typed at c hb;rw[g]at c hb;exact AQ (l:=.int k) c.1 hb.1 D hu w
   case string=>
    simp only[fU]at h;subst h;have g:=AR hu (by simp) (by simp);unfold Typed at c hb;rw[g]at c hb;exact AQ (l:=.str) c.1 hb.1 D hu w
   case struct fs=>
    cases z:P.stoodInHeld t with
    |true=>simp[z]at h
    |false=>
     simp only[z]at h;have g:ei P t=some true:=by unfold ei;rw[hu]
     unfold Typed at c hb;rw[g]at c hb;obtain⟨xs,rfl,hx⟩:=c;obtain⟨p,rfl,X⟩:=hb;have hf:P.fieldsOf t=fs:=by simp[Program.fieldsOf,hu]
     have m:=run_equalIn_struct (P:=P) w D t xs p (by rw[hf];exact hu) z;rw[hf]at m;rw[m];have key:∀(s:bA Field) (o:Nat) (l:bA LK),k8 P (ko P d) s o=some l->Cells l (xs.toList.drop o)->Cells l (p.toList.drop o)->∃r,(Op.eqFields D xs p s).run P w=.ok r w/\(r=true↔xs.toList.drop o=p.toList.drop o):=by
      intro s;induction s with
      |nil=>
       intro o l hl h1 h2;simp only[k8,fU]at hl;subst hl;have m:=h1.length;have A:=h2.length;refine⟨true,by simp[Op.eqFields],?_⟩;simp only[p0]at m A;simp[tr m,tr A]
      |cons f s R=>
       intro o l hl h1 h2;unfold k8 at hl;split at hl
       ·next i hn ho C=>
        split at hl
        ·next n O=>
         split at hl
         ·next L=>
          split at hl
          ·next r hr=>
           simp only[fU]at hl;subst hl;have E:f.name≠ "_" :=by simpa using hn
           have M:=m7 ho;have y:=m7 L;obtain⟨H,q2⟩:=Hp C;obtain⟨I,S,q,ca,_⟩:=AS O y H q2 h1 w;obtain⟨J,T,tb,W,_⟩:=AS O y H q2 h2 w;obtain⟨Z,B,F⟩:=Y f.type i C D bu I J q tb w;have d1:=h1.append.2;have d2:=h2.append.2;rw[p1]at d1 d2;obtain⟨aa,K,N⟩:=R (o+i.length) r hr d1 d2;have u:I=J↔(xs.toList.drop o).take i.length=(p.toList.drop o).take i.length:=by
            rw[<- ca,<- W];constructor;·intro e;rw[e]
            ·intro e;unfold Typed at q tb;cases g:ei P f.type with
             |none=>exact absurd g H
             |some V=>cases V with
              |true=>
               rw[g]at q tb;obtain⟨ab,rfl,_⟩:=q;obtain⟨ad,rfl,_⟩:=tb;have:ab.toList=ad.toList:=e;rw[Array.toList_inj.1 this]
              |false=>
               rw[g]at q tb;have one:∀ {v:bE},Cells i [v]->v.cells.toList= [v]:=by
                intro v Q;cases i with
                |nil=>exact Q.elim
                |cons k ks=>
                 have:=Q.1;cases k<;>(obtain⟨_,h⟩:=this;rw[h];rfl)
               rw[one q,one tb]at e;simpa using e
           have j:(xs.toList.drop o=p.toList.drop o)↔(I=J/\xs.toList.drop (o+i.length)=p.toList.drop (o+i.length)):=by
            rw[u,<- p1,<- p1];constructor;·intro e;rw[e];exact⟨rfl,rfl⟩
            ·rintro⟨m,A⟩;rw[<- fK i.length (xs.toList.drop o),m,A,fK]
           subst M;cases Z with
           |false=>
            refine⟨false,?_,?_⟩;·simp[Op.eqFields,E,S,T,B]
            ·rw[j];constructor;·intro h;cases h
             ·intro h;exact absurd (F.2 h.1) (by simp)
           |true=>
            refine⟨aa,?_,?_⟩
            ·simp only[Op.eqFields,bL E,Sem.run_bind,S,T,B,Result.andThen_ok];simpa using K
            ·rw[j,N];exact⟨λh=>⟨F.1 rfl,h⟩,λh=>h.2⟩
          ·simp at hl
         ·simp at hl
        ·simp at hl
       ·simp at hl
     obtain⟨r,hr,G⟩:=key fs.toList 0 l h (by simpa using hx) (by simpa using X);refine⟨r,hr,?_⟩;rw[G];simp only[rK,Value.agg.injEq];exact Array.toList_inj
def kh.neq{d:Nat}{t:cf}{l:bA LK}(h:ko P d t=some l)(f:d<=10000)(g:P.eqGuardType P.depth t=false)(e:ei P t=some true){a b:bE}(c:Typed P t l a)(hb:Typed P t l b):∃r,kh P .neq t a b r/\(r=false↔a=b):=by
 have key:=Hq d t l h 10000 f a b c hb;unfold Typed at c hb;rw[e]at c hb;obtain⟨xs,rfl,_⟩:=c;obtain⟨m,rfl,_⟩:=hb;obtain⟨r,_,hr⟩:=key default;refine⟨!r,⟨λj k w=>by simp[eqGuard,g],λw=>?_⟩,by cases r<;>simp_all⟩;obtain⟨r',h1,i⟩:=key w;have:r'=r:=by cases r<;>cases r'<;>simp_all
 subst this;rw[run_neq_struct,h1];rfl
def Uy(e:Bool):∀(d:Nat) (t:cf) (l:bA LK),ko P d t=some l->∀(D:Nat),d<=D->∀(a:bE),Typed P t l a->∀w,(Instr.checkKey e D t a).run P w=.ok () w:=by
 intro d;induction d with
 |zero=>intro t l h;simp[ko]at h
 |succ d C=>
  intro t l h D I a i w;obtain⟨D,rfl⟩:∃v,D=v+1:=⟨D-1,bu⟩
  unfold ko at h;cases hu:P.underlying t with
  |none=>simp[hu]at h
  |some x=>
   cases x<;>simp only[hu]at h<;>try (simp at h;done)
   case bool=>simp[Instr.checkKey,run_underlying hu]
   case int k=>simp[Instr.checkKey,run_underlying hu]
   case string=>simp[Instr.checkKey,run_underlying hu]
   case struct fs=>
    cases g:P.stoodInHeld t with
    |true=>simp[g]at h
    |false=>
     simp only[g]at h;have A:ei P t=some true:=by unfold ei;rw[hu]
     unfold Typed at i;rw[A]at i;obtain⟨xs,rfl,hx⟩:=i;have key:∀(b:bA Field) (o:Nat) (l:bA LK),k8 P (ko P d) b o=some l->Cells l (xs.toList.drop o)->
       (forIn b PUnit.unit λf _=>do
        if f.name≠ "_" then Instr.checkKey e D f.type (<- part f.type xs f.offset)
        pure (ForInStep.yield PUnit.unit):Sem PUnit).run P w=.ok PUnit.unit w:=by
      intro b;induction b with
      |nil=>intro o l hl h1;simp
      |cons f b s=>
       intro o l hl h1;unfold k8 at hl;split at hl
       ·next u hn ho c=>
        split at hl
        ·next n B=>
         split at hl
         ·next p=>
          split at hl
          ·next r hr=>
           simp only[fU]at hl;subst hl;have m:f.name≠ "_" :=by simpa using hn
           have q:=m7 ho;have j:=m7 p;obtain⟨F,q2⟩:=Hp c;obtain⟨H,E,G,ca,_⟩:=AS B j F q2 h1 w;have d1:=h1.append.2;rw[p1]at d1;have z:=s (o+u.length) r hr d1;subst q;have y:=C f.type u c D bu H G w;simp only[List.forIn_cons,Sem.run_bind,bL m,E,y,Result.andThen_ok,Sem.run_pure];exact z
          ·simp at hl
         ·simp at hl
        ·simp at hl
       ·simp at hl
     have:=key fs.toList 0 l h (by simpa using hx);simp only[Instr.checkKey,Sem.run_bind,run_underlying hu,Result.andThen_ok];simp at this ⊢;rw[this];rfl
end
end Go.Sp
namespace Go.Sp
open Go Go.Vc
structure h3(P:cP)(kt:cf){κ:Type}(enc:κ->bE):Prop where
 inj:∀a b,enc a=enc b->a=b
 pj:∀e k w,(Instr.checkKey e 10000 kt (enc k)).run P w=.ok () w
 some_:∀k (es:bA MapEntry) i e w,(∀e∈es,∃k',e.key=enc k')->es[i]?=some e->e.key=enc k->(∀j e',j<i->es[j]?=some e'->e'.key≠enc k)->(Instr.findKey kt (enc k) es).run P w=.ok (some (i,e.val)) w
 none_:∀k (es:bA MapEntry) w,(∀e∈es,∃k',e.key=enc k')->(∀e∈es,e.key≠enc k)->(Instr.findKey kt (enc k) es).run P w=.ok none w
 stay:∀k,Instr.sameBits 10000 (enc k) (enc k)=true
section
variable{P:cP}{kt:cf}
def Hr{d:TypeDesc}{k:bE}:
  ∀(es:bA MapEntry) (n i:Nat) (e:MapEntry),es[i]?=some e->Instr.sameNow d k e.key=some true->(∀j e',j<i->es[j]?=some e'->Instr.sameNow d k e'.key=some false)->Instr.findNow d k es n=some (some (n+i,e.val))
 |[],_,_,_,h,_,_=>by simp at h
 |x::es,n,0,e,h,h1,_=>by
  simp only[lE,fU]at h;subst h;simp[Instr.findNow,h1]
 |x::es,n,i+1,e,h,h1,h2=>by
  have a:=h2 0 x bu rfl;simp only[Instr.findNow,a];rw[Hr es (n+1) i e (by simpa using h) h1 (λj e' b he=>h2 (j+1) e' bu (by simpa using he))];rw[show n+1+i=n+(i+1) by omega]
def Hs{d:TypeDesc}{k:bE}:∀(es:bA MapEntry) (n:Nat),(∀e∈es,Instr.sameNow d k e.key=some false)->Instr.findNow d k es n=some none
 |[],_,_=>rfl
 |x::es,n,h=>by
  simp only[Instr.findNow,h x (by simp)];exact Hs es (n+1) (λe he=>h e (by simp[he]))
def Uz{q:IntKind}(hk:P.underlying kt=some (.int q))(e:Bool)(n:Nat)(v:bE)(w:bH):(Instr.checkKey e (n+1) kt v).run P w=.ok () w:=by
 simp[Instr.checkKey,run_underlying hk]
def Ht(n:Nat)(q:IntKind)(k:Int):Instr.sameBits n (.int q k) (.int q k)=true:=by
 cases n<;>simp[Instr.sameBits]
def UA(n:Nat)(k:Bool):Instr.sameBits n (.bool k) (.bool k)=true:=by
 cases n<;>simp[Instr.sameBits]
def UB(n:Nat)(k:ByteArray):Instr.sameBits n (.string k) (.string k)=true:=by
 cases n<;>simp[Instr.sameBits,MapKept.bytes_beq]
def h3.int{q:IntKind}(hk:P.underlying kt=some (.int q)):h3 P kt (λn:Int=>Value.int q n) where
 inj:=λa b h=>by simpa using h
 pj:=λe k w=>Uz hk e 9999 _ w
 some_:=λk es i e w f p l m=>by
  have hf:∀e'∈es,∃n,e'.key=.int q n:=f;have:=Hr (d:=.int q) (k:=.int q k) es 0 i e p (by rw[l];simp[Instr.sameNow]) (λj e' r he=>by
   obtain⟨n,hn⟩:=hf e' (eH he);have c:=m j e' r he;rw[hn]at c ⊢;simp only[Instr.sameNow,gQ,fU,vY];intro g;exact c (by rw[g]))
  simp[Instr.findKey,run_underlying hk,this]
 none_:=λk es w f o=>by
  have:=Hs (d:=.int q) (k:=.int q k) es 0 (λe he=>by
   obtain⟨n,hn⟩:=f e he;have c:=o e he;rw[hn]at c ⊢;simp only[Instr.sameNow,gQ,fU,vY];intro g;exact c (by rw[g]))
  simp[Instr.findKey,run_underlying hk,this]
 stay:=λk=>Ht _ _ _
def Hu{k:bE}{w:bH}:∀(es:bA MapEntry) (n i:Nat) (e:MapEntry),(∀e∈es,∃r:Bool,(Op.equal kt k e.key).run P w=.ok r w/\(r=true↔k=e.key))->es[i]?=some e->e.key=k->(∀j e',j<i->es[j]?=some e'->e'.key≠k)->
  (Instr.findAsking kt k es n).run P w=.ok (some (n+i,e.val)) w
 |[],_,_,_,_,h,_,_=>by simp at h
 |x::es,n,0,e,b,h,h1,_=>by
  simp only[lE,fU]at h;subst h;obtain⟨r,hr,a⟩:=b x (by simp);have:r=true:=a.2 h1.symm;subst this;simp[Instr.findAsking,hr]
 |x::es,n,i+1,e,b,h,h1,h2=>by
  obtain⟨r,hr,a⟩:=b x (by simp);have:r=false:=by
   cases r with
   |false=>rfl
   |true=>exact absurd (a.1 rfl).symm (h2 0 x bu rfl)
  subst this;have c:=Hu (k:=k) (w:=w) es (n+1) i e (λe he=>b e (by simp[he])) (by simpa using h) h1 (λj e' d he=>h2 (j+1) e' bu (by simpa using he));simp only[Instr.findAsking,Sem.run_bind,hr,Result.andThen_ok,l2,gP];rw[c,show n+1+i=n+(i+1) by omega]
def Hv{k:bE}{w:bH}:∀(es:bA MapEntry) (n:Nat),(∀e∈es,∃r:Bool,(Op.equal kt k e.key).run P w=.ok r w/\(r=true↔k=e.key))->(∀e∈es,e.key≠k)->
  (Instr.findAsking kt k es n).run P w=.ok none w
 |[],_,_,_=>by simp[Instr.findAsking]
 |x::es,n,a,h=>by
  obtain⟨r,hr,b⟩:=a x (by simp);have:r=false:=by
   cases r with
   |false=>rfl
   |true=>exact absurd (b.1 rfl).symm (h x (by simp))
  subst this;have c:=Hv (k:=k) (w:=w) es (n+1) (λe he=>a e (by simp[he])) (λe he=>h e (by simp[he]));simp only[Instr.findAsking,Sem.run_bind,hr,Result.andThen_ok,l2,gP];exact c
def UC{fs:cb Field}{k:bE}:∀(es:bA MapEntry),Instr.findNow (.struct fs) k es 0=some none\/Instr.findNow (.struct fs) k es 0=none
 |[]=>.inl rfl
 |x::es=>.inr (by simp[Instr.findNow,Instr.sameNow])
def UD{cs:cb bE}(n:Nat)(h:∀v∈cs.toList,Instr.sameBits n v v=true):Instr.sameBits (n+1) (.agg cs) (.agg cs)=true:=by
 simp only[Instr.sameBits,tB,l4,fS];intro x hx;obtain⟨i,a,rfl⟩:=jb.1 hx;rw[List.getElem_zip];exact h _ (og _)
def h3.agg{κ:Type}{enc:κ->bE}{d:Nat}{l:bA LK}(m:∀a b,enc a=enc b->a=b)(j:ko P d kt=some l)(o:d<=10000)(g:ei P kt=some true)(n:∀k,Typed P kt l (enc k)):h3 P kt enc:=by
 have hu:∃fs,P.underlying kt=some (.struct fs):=by
  cases d with
  |zero=>simp[ko]at j
  |succ d=>
   unfold ko at j;unfold ei at g;cases hu:P.underlying kt with
   |none=>simp[hu]at g
   |some x=>cases x<;>simp[hu]at j g ⊢
 obtain⟨fs,hu⟩:=hu;have heq:∀k (es:bA MapEntry) (w:bH),(∀e∈es,∃k',e.key=enc k')->∀e∈es,∃r:Bool,(Op.equal kt (enc k) e.key).run P w=.ok r w/\(r=true↔enc k=e.key):=by
  intro k es w c e he;obtain⟨k',p⟩:=c e he;rw[p];exact Hq d kt l j 10000 o _ _ (n k) (n k') w
 refine⟨m,λe k w=>Uy e d kt l j 10000 o _ (n k) w,λk es i e w c m hk q=>?_,λk es w c t=>?_,λk=>?_⟩
 ·have hf:=Hu (kt:=kt) (P:=P) (k:=enc k) (w:=w) es 0 i e (heq k es w c) m hk q;rw[fy]at hf;have s:Instr.findNow (.struct fs) (enc k) es 0=none:=by
   cases es with
   |nil=>simp at m
   |cons x xs=>simp[Instr.findNow,Instr.sameNow]
  simp[Instr.findKey,run_underlying hu,s,hf]
 ·have hf:=Hv (kt:=kt) (P:=P) (k:=enc k) (w:=w) es 0 (heq k es w c) t;rcases UC (fs:=fs) (k:=enc k) es with h|h;·simp[Instr.findKey,run_underlying hu,h]
  ·simp[Instr.findKey,run_underlying hu,h,hf]
 ·have:=n k;unfold Typed at this;rw[g]at this;obtain⟨cs,he,u⟩:=this;rw[he];refine UD 9999 (λv f=>?_);have go:∀(l:bA LK) (vs:bA bE),Cells l vs->∀v∈vs,Instr.sameBits 9999 v v=true:=by
   intro l;induction l with
   |nil=>intro vs h v f;cases vs with
    |nil=>cases f
    |cons _ _=>exact h.elim
   |cons k l y=>intro vs h v f;cases vs with
    |nil=>cases f
    |cons x vs=>
     rcases ey.1 f with rfl|f
     ·have:=h.1;cases k<;>(obtain⟨_,h⟩:=this;rw[h])
      ·exact Ht _ _ _
      ·exact UA _ _
      ·exact UB _ _
     ·exact y vs h.2 v f
  exact go l _ u v f
end
structure iv{κ:Type}(enc:κ->bE)(f:κ->bW bE)(es:bA MapEntry)(ck:Nat):Prop where
 key:∀e∈es,∃k,e.key=enc k/\f k=some e.val
 has:∀k v,f k=some v->∃e∈es,e.key=enc k/\e.val=v
 one:es.Pairwise (λa b=>a.key≠b.key)
 born:∀e∈es,e.born<ck
 k9:es.Pairwise (λa b=>a.born≠b.born)
def cE{κ:Type}(b:Nat)(enc:κ->bE)(f:κ->bW bE):Asn:=
 ⟨λh F=>(∃es ck,h[b]?=some (.map es.toArray ck)/\iv enc f es ck)/\∀x,F x↔x=b,λa hl=>⟨by rw[hl b ((a.2 b).2 rfl)];exact a.1,a.2⟩⟩
def cL{κ:Type}[DecidableEq κ]{α:Type}(f:κ->bW α)(k:κ)(v:bW α):κ->bW α:=λx=>if x=k then v else f x
section
variable{P:cP}{κ:Type}[DecidableEq κ]{enc:κ->bE}{f:κ->bW bE}{es:bA MapEntry}{ck:Nat}{kt:cf}
omit [DecidableEq κ] in
def iv.keys(M:iv enc f es ck):∀e∈es,∃k,e.key=enc k:=λe he=>let ⟨k,h,_⟩:=M.key e he;⟨k,h⟩
omit [DecidableEq κ] in
def iv.at_(M:iv enc f es ck){i:Nat}{e:MapEntry}(c:es[i]?=some e):∀j e',j<i->es[j]?=some e'->e'.key≠e.key:=by
 intro j e' d he;obtain⟨h1,h2⟩:=c4.1 c;obtain⟨a,b⟩:=c4.1 he;have:=m6.1 M.one j i a h1 d;rw[h2,b]at this;exact this
omit [DecidableEq κ] in
def iv.gH(K:h3 P kt enc)(M:iv enc f es ck){k:κ}{v:bE}(hf:f k=some v)(w:bH):∃i e,es[i]?=some e/\e.key=enc k/\e.val=v/\(Instr.findKey kt (enc k) es).run P w=.ok (some (i,v)) w:=by
 obtain⟨e,he,hk,c⟩:=M.has k v hf;obtain⟨i,d,rfl⟩:=jb.1 he;have a:es[i]?=some es[i]:=dL d;refine⟨i,es[i],a,hk,c,?_⟩;rw[<- c];exact K.some_ k es i es[i] w M.keys a hk (λj e' g b=>hk▸M.at_ a j e' g b)
omit [DecidableEq κ] in
def iv.hP(K:h3 P kt enc)(M:iv enc f es ck){k:κ}(hf:f k=none)(w:bH):(Instr.findKey kt (enc k) es).run P w=.ok none w:=
 K.none_ k es w M.keys (λe he hk=>by
  obtain⟨k',h1,h2⟩:=M.key e he;have:k'=k:=K.inj _ _ (h1.symm.trans hk);rw[this,hf]at h2;cases h2)
omit [DecidableEq κ] in
def iv.empty:iv enc (λ_=>none) [] 0:=⟨by simp,by simp,List.Pairwise.nil,by simp,List.Pairwise.nil⟩
def iv.put(K:h3 P kt enc)(M:iv enc f es ck){k:κ}{i:Nat}{e:MapEntry}(r:es[i]?=some e)(hk:e.key=enc k)(v:bE):
  iv enc (cL f k (some v)) (es.set i {e with key:=enc k,val:=v}) ck:=by
 obtain⟨c,g⟩:=c4.1 r;have m:(es.set i {e with key:=enc k,val:=v}).map (·.key)=es.map (·.key):=by
  rw[hL];apply hg;intro j;rw[hd];split;·next h=>subst h;simp[c,g,hk]
  ·rfl
 have d:(es.set i {e with key:=enc k,val:=v}).map (·.born)=es.map (·.born):=by
  rw[hL];apply hg;intro j;rw[hd];split;·next h=>subst h;simp[c,g]
  ·rfl
 refine⟨?_,?_,?_,?_,?_⟩
 ·intro x hx;obtain⟨j,p,rfl⟩:=jb.1 hx;rw[Gg];split;·exact⟨k,rfl,by simp[cL]⟩
  ·next o=>
   have l:j<es.length:=by simpa using p
   obtain⟨k',h1,h2⟩:=M.key es[j] (og l);refine⟨k',h1,?_⟩;have:k'≠k:=by
    rintro rfl;have n:es[j].key=es[i].key:=by rw[h1,g,hk]
    rcases hN i j with h|h;·exact m6.1 M.one i j c l h n.symm
    ·exact m6.1 M.one j i l c bu n
   simp[cL,this,h2]
 ·intro k' t h;unfold cL at h;split at h
  ·next he=>
   simp only[fU]at h;subst he h;exact⟨{e with key:=enc k',val:=v},jb.2 ⟨i,by simpa using c,by simp⟩,rfl,rfl⟩
  ·next o=>
   obtain⟨x,hx,h1,h2⟩:=M.has k' t h;obtain⟨j,p,rfl⟩:=jb.1 hx;have q:i≠j:=by
    rintro rfl;exact o (K.inj _ _ (by rw[<- h1,<- hk,g]))
   refine⟨es[j],jb.2 ⟨j,by simpa using p,by rw[Gg,bJ q]⟩,h1,h2⟩
 ·have:=M.one;rw[<- kc (f:=λe:MapEntry=>e.key) (R:=λa b=>a≠b)]at this ⊢;rw[m];exact this
 ·intro x hx;have:x.born∈(es.set i {e with key:=enc k,val:=v}).map (·.born):=fo.2 ⟨x,hx,rfl⟩;rw[d]at this;obtain⟨y,s,he⟩:=fo.1 this;rw[<- he];exact M.born y s
 ·have:=M.k9;rw[<- kc (f:=λe:MapEntry=>e.born) (R:=λa b=>a≠b)]at this ⊢;rw[d];exact this
def iv.add(K:h3 P kt enc)(M:iv enc f es ck){k:κ}(hf:f k=none)(v:bE):iv enc (cL f k (some v)) (es++[{key:=enc k,val:=v,born:=ck}]) (ck+1):=by
 refine⟨?_,?_,?_,?_,?_⟩
 ·intro x hx;rcases gF.1 hx with hx|hx
  ·obtain⟨k',h1,h2⟩:=M.key x hx;refine⟨k',h1,?_⟩;have:k'≠k:=by rintro rfl;rw[hf]at h2;cases h2
   simp[cL,this,h2]
  ·simp only[h8]at hx;subst hx;exact⟨k,rfl,by simp[cL]⟩
 ·intro k' d h;unfold cL at h;split at h
  ·next he=>
   simp only[fU]at h;subst he h;exact⟨{key:=enc k',val:=v,born:=ck},by simp,rfl,rfl⟩
  ·obtain⟨x,hx,h1,h2⟩:=M.has k' d h;exact⟨x,by simp[hx],h1,h2⟩
 ·rw[jv];refine⟨M.one,FP _ _,λa c b hb=>?_⟩;simp only[h8]at hb;subst hb;obtain⟨k',h1,h2⟩:=M.key a c;intro h;have:k'=k:=K.inj _ _ (h1.symm.trans h);rw[this,hf]at h2;cases h2
 ·intro x hx;rcases gF.1 hx with hx|hx;·have:=M.born x hx;omega
  ·simp only[h8]at hx;subst hx;simp
 ·rw[jv];refine⟨M.k9,FP _ _,λa c b hb=>?_⟩;simp only[h8]at hb;subst hb;have:=M.born a c;simp;omega
def iv.del(K:h3 P kt enc)(M:iv enc f es ck){k:κ}{i:Nat}{e:MapEntry}(n:es[i]?=some e)(hk:e.key=enc k):iv enc (cL f k none) (es.eraseIdx i) ck:=by
 obtain⟨l,c⟩:=c4.1 n;have a:=List.eraseIdx_sublist es i;refine⟨?_,?_,M.one.sublist a,λx hx=>M.born x (a.subset hx),M.k9.sublist a⟩
 ·intro x hx;obtain⟨j,b,d,he⟩:=be0.1 hx;subst he;obtain⟨k',h1,h2⟩:=M.key es[j] (og b);refine⟨k',h1,?_⟩;have:k'≠k:=by
   rintro rfl;have g:es[j].key=es[i].key:=by rw[h1,c,hk]
   rcases hN i j with h|h;·exact m6.1 M.one i j l b h g.symm
   ·exact m6.1 M.one j i b l bu g
  simp[cL,this,h2]
 ·intro k' o h;unfold cL at h;split at h;·cases h
  ·next m=>
   obtain⟨x,hx,h1,h2⟩:=M.has k' o h;obtain⟨j,b,rfl⟩:=jb.1 hx;have d:j≠i:=by
    rintro rfl;exact m (K.inj _ _ (by rw[<- h1,<- hk,c]))
   exact⟨es[j],be0.2 ⟨j,b,d,rfl⟩,h1,h2⟩
def UE{k:κ}{α:Type}{f:κ->bW α}(hf:f k=none):cL f k none=f:=by
 funext x;unfold cL;split;·next h=>subst h;exact hf.symm
 ·rfl
end
section
variable{E:Env}{L:cv}{w:bH}{P:cP}{κ:Type}[DecidableEq κ]{enc:κ->bE}{f:κ->bW bE}{b:Nat}
omit [DecidableEq κ] in
def cE.at_{i:Nat}(h:Sep E L w)(a:L[i]?=some (cE b enc f)):∃es ck,w.heap[b]?=some (.map es.toArray ck)/\iv enc f es ck:=by
 obtain⟨_,F,⟨h1,_⟩,_⟩:=h.fr i a;exact h1
omit [DecidableEq κ] in
def cE.set{k:Type}{c:k->bE}{f':k->bW bE}(h:Sep E (cE b enc f::L) w){d:bA MapEntry}{a:Nat}(M:iv c f' d a):Sep E (cE b c f'::L) {w with heap:=w.heap.setIfInBounds b (.map d.toArray a)} :=by
 have hb:b<w.heap.size:=by
  obtain⟨es,ck,hb,_⟩:=cE.at_ (i:=0) h rfl;exact(oZ.1 hb).1
 refine h.change rfl (by simp) (λF g j=>⟨λx _ hx=>?_,F,⟨⟨d,a,?_,M⟩,g.2⟩,λx hx=>⟨?_,.inl hx⟩⟩)
 ·have:b≠x:=λe=>hx ((g.2 x).2 e.symm);show(w.heap.setIfInBounds b _)[x]?=_;rw[oa,bJ this]
 ·show(w.heap.setIfInBounds b _)[b]?=_;rw[oa,bL rfl,bL hb]
 ·simpa using j x hx
omit [DecidableEq κ] in
def cE.new{g:Nat->bg0}(h:Sep E L w)(k:∀b a,Sep E (cE b enc (λ_=>none)::L) a->g b a):mK g w:=
 k _ _ (h.new (Grow.alloc w _) (F':=λx=>x=w.heap.size) ⟨⟨[],0,heap_alloc w _,iv.empty⟩,λ_=>l5⟩ (λb hb=>by subst hb;rw[size_alloc];omega))
def mQ(P:cP)(t:cf):bW (cf×bE):=
 match P.underlying t with
 |some (.map k e)=>match pa P e with
  |some z=>some (k,z)
  |none=>none
 |_=>none
def UF{t:cf}{z:bE}(h:pa P t=some z)(w:bH):(zeroValue t).run P w=.ok z w:=by
 unfold pa at h;cases a:P.info? t with
 |none=>simp[a]at h
 |some i=>simp[a]at h;simp[zeroValue,typeInfo,a,h]
def uh{t kt:cf}{z:bE}(h:mQ P t=some (kt,z)):∃e,P.underlying t=some (.map kt e)/\∀w,(zeroValue e).run P w=.ok z w:=by
 unfold mQ at h;split at h
 ·next k e he=>
  split at h
  ·next b a=>
   simp only[fU,o7]at h;obtain⟨rfl,rfl⟩:=h;exact⟨e,he,UF a⟩
  ·simp at h
 ·simp at h
omit [DecidableEq κ] in
def gr.i{t kt:cf}{z:bE}(ok:Bool)(i:Nat)(h:Sep E L w)(d:L[i]?=some (cE b enc f))(K:h3 P kt enc)(l:mQ P t=some (kt,z))(k:κ):
  gr P t (.map (some b)) (enc k) ok w (match ok with|true=>.tuple #[(f k).getD z,.bool (f k).isSome]|false=>(f k).getD z):=by
 intro w' g;obtain⟨e,c,m⟩:=uh l;obtain⟨es,ck,hb,M⟩:=cE.at_ (h.grow g) d;cases hf:f k with
 |some v=>
  obtain⟨j,x,n,hk,o,a⟩:=M.gH K hf w';cases ok<;>simp[Instr.lookup,run_underlying c,MapKept.run_getObj_map hb,K.pj,a]
 |none=>
  have a:=M.hP K hf w';cases ok<;>simp[Instr.lookup,run_underlying c,MapKept.run_getObj_map hb,K.pj,a,m]
def mapUpdate.i{t kt:cf}{z:bE}(h:Sep E (cE b enc f::L) w)(K:h3 P kt enc)(d:mQ P t=some (kt,z))(k:κ)(v:bE){G:bg0}(g:∀c,Sep E (cE b enc (cL f k (some v))::L) c->G c):
  ∃c,Sem.run P (Instr.mapUpdate t (.map (some b)) (enc k) v) w=.ok () c/\G c:=by
 obtain⟨e,o,r⟩:=uh d;obtain⟨es,ck,hb,M⟩:=cE.at_ (i:=0) h rfl;cases hf:f k with
 |some v0=>
  obtain⟨j,x,l,hk,p,a⟩:=M.gH K hf w;refine⟨{w with heap:=w.heap.setIfInBounds b (.map (es.set j ({x with key:=enc k,val:=v} :MapEntry)).toArray ck)},?_,g _ (cE.set h (M.put K l hk v))⟩;obtain⟨n,m⟩:=c4.1 l;have hm:es.modify j (λe=> {e with key:=enc k,val:=v})=es.set j {x with key:=enc k,val:=v} :=by
   apply hg;intro q;simp only[List.getElem?_modify,hd];by_cases d:j=q;·subst d;simp[n,m]
   ·simp[d]
  simp[Instr.mapUpdate,run_underlying o,MapKept.run_getObj_map hb,K.pj,a,Instr.keyThatStays,l,hk,K.stay,hm,MapKept.run_setObj_map _ hb]
 |none=>
  have a:=M.hP K hf w;refine⟨{w with heap:=w.heap.setIfInBounds b (.map (es++[({key:=enc k,val:=v,born:=ck} :MapEntry)]).toArray (ck+1))},?_,g _ (cE.set h (M.add K hf v))⟩;simp[Instr.mapUpdate,run_underlying o,MapKept.run_getObj_map hb,K.pj,a,MapKept.run_setObj_map _ hb]
def gI.i{t kt u ty:cf}{z:bE}(h:Sep E (cE b enc f::L) w)(K:h3 P kt enc)(n:mQ P t=some (kt,z))(k:κ){G:bg0}(g:∀c,Sep E (cE b enc (cL f k none)::L) c->G c):
  ∃c,Sem.run P (Builtin.delete_ #[t,u] ty #[.map (some b),enc k]) w=.ok (.tuple #[]) c/\G c:=by
 obtain⟨e,m,q⟩:=uh n;obtain⟨es,ck,hb,M⟩:=cE.at_ (i:=0) h rfl;cases hf:f k with
 |some v0=>
  obtain⟨j,x,d,hk,p,a⟩:=M.gH K hf w;obtain⟨l,o⟩:=c4.1 d;refine⟨{w with heap:=w.heap.setIfInBounds b (.map (es.eraseIdx j).toArray ck)},?_,g _ (cE.set h (M.del K d hk))⟩;simp[Builtin.delete_,run_underlying m,MapKept.run_getObj_map hb,K.pj,a,Array.eraseIdxIfInBounds,l,MapKept.run_setObj_map _ hb]
 |none=>
  have a:=M.hP K hf w;refine⟨{w with heap:=w.heap.setIfInBounds b (.map es.toArray ck)},?_,g _ (by rw[UE hf];exact cE.set h M)⟩;simp[Builtin.delete_,run_underlying m,MapKept.run_getObj_map hb,K.pj,a,MapKept.run_setObj_map _ hb]
end
end Go.Sp
namespace Go.Kc
open Go Go.Sp
structure Pg where
 kf:Int
 ki:Int
 place:Int
 at_:Int
 owner:Int
 refs:Int
 gen:Int
 UG:Bool
 e9:Bool
def Pg.zero:Pg:=⟨0,0,0,0,0,0,0,false,false⟩
structure TS where
 pg:Int->bW Pg
 files:Int×Int->bW Int
 c1:Int×Int->bW Int
 next:Int
def TS.zero:TS:=⟨λ_=>none,λ_=>none,λ_=>none,0⟩
def TS.of(S:TS)(k:Int×Int):Int:=(S.files k).getD (-1)
def TS.at_(S:TS)(k:Int×Int):Int:=(S.c1 k).getD (-1)
def TS.iH(S:TS)(kf ki o:Int):TS:={S with pg:=cL S.pg S.next (some ⟨kf,ki,0,0,o,0,0,false,false⟩),next:=i64.wrap (S.next+1)}
def TS.make(S:TS)(kf ki o:Int):TS×Int×Int:=
 if kf<0 then(S.iH (-1) S.next o,S.next,0)
 else if S.of (kf,ki)≥0 then(S, -1,4)
 else({S with files:=cL S.files (kf,ki) (some S.next)}.iH kf ki o,S.next,0)
def TS.get(S:TS)(id:Int):Pg×Int:=match S.pg id with
 |some p=>(p,0)
 |none=>(Pg.zero,2)
def TS.cK(S:TS)(id:Int)(p:Pg):TS:={S with pg:=cL S.pg id (some p)}
def TS.put(S:TS)(id place at_:Int):TS×Int:=match S.pg id with
 |none=>(S,2)
 |some p=>
  if place<0\/2<place\/at_<0\/(place=0/\at_≠0)then(S,1)
  else if 0<=S.at_ (place,at_)/\S.at_ (place,at_)≠id then(S,4)
  else({pg:=cL S.pg id (some {p with place:=place,at_:=at_}),files:=S.files,c1:=if place≠0 then cL (cL S.c1 (p.place,p.at_) none) (place,at_) (some id)else cL S.c1 (p.place,p.at_) none,next:=S.next},0)
def TS.bO(S:TS)(id n:Int):TS×Int×Int:=match S.pg id with
 |none=>(S,0,2)
 |some p=>if n< -1000\/1000<n\/i64.wrap (p.refs+n)<0 then(S,0,1)else(S.cK id {p with refs:=i64.wrap (p.refs+n)},i64.wrap (p.refs+n),0)
def TS.drop(S:TS)(id:Int):TS×Int:=match S.pg id with
 |none=>(S,2)
 |some p=>if 0<p.refs\/p.place≠0 then(S,4)else({S with pg:=cL S.pg id none,files:=cL S.files (p.kf,p.ki) none},0)
def TS.own(S:TS)(id o:Int):TS×Int:=match S.pg id with
 |none=>(S,2)
 |some p=>(S.cK id {p with owner:=o},0)
def TS.mark(S:TS)(id:Int)(d:Bool):TS×Int:=match S.pg id with
 |none=>(S,2)
 |some p=>(S.cK id {p with e9:=d},0)
end Go.Kc
namespace Go.Stab
structure Ord{α:Type}(R:α->α->Prop):Prop where
 trans:∀x y z,R x y->R y z->R x z
 ui:∀x,¬ R x x
 tot:∀x y,x≠y->R x y\/R y x
section
variable{α:Type}{R:α->α->Prop}
def Ord.not(O:Ord R){x y:α}(a:x≠y)(h:¬ R x y):R y x:=(O.tot x y a).resolve_left h
def ins(P:bA α)(n:Nat)(x:α):bA α:=P.take n++x::P.drop n
def mT(P:bA α)(n:Nat)(x:α):(ins P n x).length=P.length+1:=by
 unfold ins;simp only[dg,hJ,hI,nO];omega
def r1(P:bA α)(n:Nat)(x:α):(ins P n x).Perm (x::P):=by
 unfold ins;refine jc.trans ?_;rw[fK]
def r2(P:bA α)(n:Nat)(x:α)(hn:n<=P.length)(i:Nat):(ins P n x)[i]?=if i<n then P[i]? else if i=n then some x else P[i-1]? :=by
 unfold ins;have hl:(P.take n).length=n:=by simp;omega
 by_cases h1:i<n;·rw[bL h1,eN bu];simp[h1]
 ·rw[bJ h1,fR bu,hl];by_cases h2:i=n;·rw[bL h2];simp[h2]
  ·rw[bJ h2];obtain⟨k,hk⟩:∃k,i-n=k+1:=⟨i-n-1,bu⟩
   rw[hk,List.getElem?_cons_succ,pY];congr 1;omega
def wP(P:bA α)(x:α):ins P P.length x=P++[x]:=by simp[ins]
def Hw{A P B:bA α}{n:Nat}{x y:α}(hn:P[n]?=some y):((A++ins P n x++B).set (A.length+n) y).set (A.length+n+1) x=A++ins P (n+1) x++B:=by
 have g:n<P.length:=(c4.1 hn).1;have f:=r2 P n x bu;have a:=r2 P (n+1) x bu;have hl:=mT P n x;have e:=mT P (n+1) x;apply hg;intro i;simp only[hd,dM,dg,hl];by_cases b:A.length+n+1=i;·rw[bL b,eJ,eN (by simp;omega),fR bu,a,cF,eJ]
 ·rw[bJ b];by_cases c:A.length+n=i;·rw[bL c,eJ,eN (by simp;omega),fR bu,a,eJ,<- hn];congr 1;omega
  ·rw[bJ c];by_cases h1:i<A.length;·rw[eN (by simp;omega),eN h1,eN (by simp;omega),eN h1]
   ·by_cases h2:i<A.length+(P.length+1)
    ·rw[eN (by simp;omega),fR bu,eN (by simp;omega),fR bu,f,a];by_cases d:i-A.length<n;·rw[bL d,eJ]
     ·rw[bJ d,cF,cF,cF]
    ·rw[fR (by simp;omega),fR (by simp;omega)];simp[hl,e]
def wQ{A P B:bA α}{n:Nat}{x y:α}(hn:P[n]?=some y):((A++ins P (n+1) x++B).set (A.length+n+1) y).set (A.length+n) x=A++ins P n x++B:=by
 have g:n<P.length:=(c4.1 hn).1;have f:=r2 P (n+1) x bu;have a:=r2 P n x bu;have hl:=mT P (n+1) x;have e:=mT P n x;apply hg;intro i;simp only[hd,dM,dg,hl];by_cases b:A.length+n=i;·rw[bL b,eJ,eN (by simp;omega),fR bu,a,cF,eJ]
 ·rw[bJ b];by_cases c:A.length+n+1=i;·rw[bL c,eJ,eN (by simp;omega),fR bu,a,cF,cF,<- hn];congr 1;omega
  ·rw[bJ c];by_cases h1:i<A.length;·rw[eN (by simp;omega),eN h1,eN (by simp;omega),eN h1]
   ·by_cases h2:i<A.length+(P.length+1)
    ·rw[eN (by simp;omega),fR bu,eN (by simp;omega),fR bu,f,a];by_cases d:i-A.length<n;·rw[bL d,eJ]
     ·rw[bJ d,cF,cF,cF]
    ·rw[fR (by simp;omega),fR (by simp;omega)];simp[hl,e]
def pk{l:bA α}(h:l.Pairwise R){i j:Nat}{x y:α}(hx:l[i]?=some x)(b:l[j]?=some y)(a:i<j):R x y:=by
 obtain⟨h1,rfl⟩:=c4.1 hx;obtain⟨h2,rfl⟩:=c4.1 b;exact m6.1 h i j h1 h2 a
def r3{l:bA α}{n:Nat}{x:α}(h:x∈l.take n):∃i,i<n/\l[i]?=some x:=by
 obtain⟨i,a,rfl⟩:=jb.1 h;simp only[hJ]at a;exact⟨i,bu,by simp⟩
def wR{l:bA α}{n:Nat}{x:α}(h:x∈l.drop n):∃i,n<=i/\l[i]?=some x:=by
 obtain⟨i,a,rfl⟩:=jb.1 h;simp only[nO]at a;exact⟨n+i,bu,by simp⟩
def wS(O:Ord R){X Y:bA α}{i j:Nat}(n:X.Pairwise R)(o:Y.Pairwise R)(h1:i=0\/Y.length<=j\/∃x y,X[i-1]?=some x/\Y[j]?=some y/\R x y)(h2:j=0\/X.length<=i\/∃x y,Y[j-1]?=some y/\X[i]?=some x/\R y x):
  ∀u∈X.take i++Y.take j,∀v∈X.drop i++Y.drop j,R u v:=by
 intro u hu v g;have lt:∀ {l:bA α} {k:Nat} {z:α},l[k]?=some z->k<l.length:=λh=>(c4.1 h).1;rcases gF.1 hu with hu|hu<;>rcases gF.1 g with g|g
 ·obtain⟨p,hp,b⟩:=r3 hu;obtain⟨q,r,a⟩:=wR g;exact pk n b a bu
 ·obtain⟨p,hp,b⟩:=r3 hu;obtain⟨q,r,a⟩:=wR g;rcases h1 with h1|h1|⟨x,y,hx,m,hr⟩
  ·omega
  ·have:=lt a;omega
  ·have e:p=i-1\/p<i-1:=by omega
   have f:q=j\/j<q:=by omega
   have c:u=x\/R u x:=by
    rcases e with rfl|e;·rw[b]at hx;exact .inl (cU hx)
    ·exact .inr (pk n b hx e)
   have d:y=v\/R y v:=by
    rcases f with rfl|f;·rw[a]at m;exact .inl (cU m).symm
    ·exact .inr (pk o m a f)
   rcases c with rfl|c<;>rcases d with rfl|d;·exact hr
   ·exact O.trans _ _ _ hr d
   ·exact O.trans _ _ _ c hr
   ·exact O.trans _ _ _ c (O.trans _ _ _ hr d)
 ·obtain⟨p,hp,b⟩:=r3 hu;obtain⟨q,r,a⟩:=wR g;rcases h2 with h2|h2|⟨x,y,m,hx,hr⟩
  ·omega
  ·have:=lt a;omega
  ·have e:p=j-1\/p<j-1:=by omega
   have f:q=i\/i<q:=by omega
   have c:u=y\/R u y:=by
    rcases e with rfl|e;·rw[b]at m;exact .inl (cU m)
    ·exact .inr (pk o b m e)
   have d:x=v\/R x v:=by
    rcases f with rfl|f;·rw[a]at hx;exact .inl (cU hx).symm
    ·exact .inr (pk n hx a f)
   rcases c with rfl|c<;>rcases d with rfl|d;·exact hr
   ·exact O.trans _ _ _ hr d
   ·exact O.trans _ _ _ c hr
   ·exact O.trans _ _ _ c (O.trans _ _ _ hr d)
 ·obtain⟨p,hp,b⟩:=r3 hu;obtain⟨q,r,a⟩:=wR g;exact pk o b a bu
def r4(O:Ord R){P:bA α}{n:Nat}{x:α}(c:P.Pairwise R)(h1:n=0\/∃y,P[n-1]?=some y/\R y x)(h2:P.length<=n\/∃y,P[n]?=some y/\R x y):(ins P n x).Pairwise R:=by
 have key:=wS O (X:=P) (Y:=[x]) (i:=n) (j:=0) c (FP _ _) (by
  rcases h1 with h|⟨y,d,hr⟩
  ·exact .inl h
  ·exact .inr (.inr ⟨y,x,d,rfl,hr⟩)) (.inl rfl)
 have e:=wS O (X:=P) (Y:=[x]) (i:=n) (j:=1) c (FP _ _) (.inr (.inl (by simp))) (by
  rcases h2 with h|⟨y,d,hr⟩
  ·exact .inr (.inl h)
  ·exact .inr (.inr ⟨y,x,rfl,d,hr⟩))
 unfold ins;rw[jv,g7];have a:=c;rw[<- fK n P,jv]at a;refine⟨a.1,⟨λv b=>e x (by simp) v (by simp[b]),a.2.1⟩,λu hu v b=>?_⟩;rcases ey.1 b with rfl|b;·exact key u (by simp[hu]) _ (by simp)
 ·exact a.2.2 u hu v b
def jH{X Y a b:bA α}{i j:Nat}(h1:a.Perm (X.take i++Y.take j))(h2:b.Perm (X.drop i++Y.drop j))(s1:a.Pairwise R)(s2:b.Pairwise R)(d:∀u∈X.take i++Y.take j,∀v∈X.drop i++Y.drop j,R u v):(a++b).Perm (X++Y)/\(a++b).Pairwise R:=by
 refine⟨(h1.append h2).trans ?_,jv.2 ⟨s1,s2,λu hu v e=>d u (h1.mem_iff.1 hu) v (h2.mem_iff.1 e)⟩⟩;have c:X++Y=(X.take i++X.drop i)++(Y.take j++Y.drop j):=by rw[fK,fK]
 rw[c];simp only[dm];refine o0 _ ?_;rw[<- dm,<- dm];exact rF _ lZ
def nv(l l':bA α)(a b i:Nat):Prop:=l'.length=l.length/\∀k,l'[k]?=if a<=k/\k<a+i then l[k-a+b]? else if b<=k/\k<b+i then l[k-b+a]? else l[k]?
def nv.zero(l:bA α)(a b:Nat):nv l l a b 0:=⟨rfl,λk=>by rw[cF,cF]⟩
def nv.step{l l':bA α}{a b i n:Nat}{x y:α}(h:nv l l' a b i)(j:a+n<=b)(o:i<n)(hx:l'[b+i]?=some x)(g:l'[a+i]?=some y):
  nv l ((l'.set (a+i) x).set (b+i) y) a b (i+1):=by
 have m:b+i<l'.length:=(c4.1 hx).1;have c:=hx;have d:=g;rw[h.2,cF,cF]at c d;refine⟨by simpa using h.1,λk=>?_⟩;simp only[hd,dM];by_cases e:b+i=k;·rw[bL e,eJ,cF,eJ,<- d];congr 1;omega
 ·rw[bJ e];by_cases f:a+i=k;·rw[bL f,eJ,eJ,<- c];congr 1;omega
  ·rw[bJ f,h.2];by_cases h1:a<=k/\k<a+i;·rw[bL h1,eJ]
   ·rw[bJ h1];by_cases h2:b<=k/\k<b+i;·rw[bL h2,cF,eJ]
    ·rw[bJ h2,cF,cF]
def nv.eq{A U M V B l':bA α}(h:nv (A++U++M++V++B) l' A.length (A.length+U.length+M.length) U.length)(a:U.length=V.length):l'=A++V++M++U++B:=by
 apply hg;intro k;rw[h.2];have g:∀(U V:bA α) (k:Nat),U.length=V.length->(A++U++M++V++B)[k]?=if k<A.length then A[k]? else if k<A.length+U.length then U[k-A.length]? else if k<A.length+U.length+M.length then M[k-A.length-U.length]? else
   if k<A.length+U.length+M.length+U.length then V[k-A.length-U.length-M.length]? else B[k-A.length-U.length-M.length-U.length]? :=by
  intro U V k a;by_cases h1:k<A.length;·rw[bL h1,eN (by simp;omega),eN (by simp;omega),eN (by simp;omega),eN h1]
  rw[bJ h1];by_cases h2:k<A.length+U.length;·rw[bL h2,eN (by simp;omega),eN (by simp;omega),eN (by simp;omega),fR bu]
  rw[bJ h2];by_cases b:k<A.length+U.length+M.length
  ·rw[bL b,eN (by simp;omega),eN (by simp;omega),fR (by simp;omega)];congr 1;simp;omega
  rw[bJ b];by_cases c:k<A.length+U.length+M.length+U.length
  ·rw[bL c,eN (by simp;omega),fR (by simp;omega)];congr 1;simp;omega
  rw[bJ c,fR (by simp;omega)];congr 1;simp;omega
 rw[g V U k a.symm,g U V k a];by_cases h1:A.length<=k/\k<A.length+U.length
 ·rw[bL h1,g U V _ a,cF,cF,cF,eJ,cF,eJ];congr 1;omega
 ·rw[bJ h1];by_cases h2:A.length+U.length+M.length<=k/\k<A.length+U.length+M.length+U.length
  ·rw[bL h2,g U V _ a,cF,eJ,cF,cF,cF,eJ];congr 1;omega
  ·rw[bJ h2];by_cases b:k<A.length;·rw[bL b,bL b]
   ·rw[bJ b,bJ b,bJ (show ¬ k<A.length+U.length by omega),bJ (show ¬ k<A.length+V.length by omega)];by_cases c:k<A.length+U.length+M.length;·rw[bL c,bL (show k<A.length+V.length+M.length by omega)];congr 1;omega
    ·rw[bJ c,bJ (show ¬ k<A.length+V.length+M.length by omega),bJ (show ¬ k<A.length+U.length+M.length+U.length by omega),bJ (show ¬ k<A.length+V.length+M.length+V.length by omega)];congr 1;omega
end
end Go.Stab
namespace Go.Kc
open Go Go.Vc Go.Sp
structure dy where
 id:Int
 group:Int
 du:Int
def ff(R:bA dy)(k:Int):bW dy:=R.find? (λe=>e.id==k)
structure Good(R:bA dy):Prop where
 cZ:R.Pairwise (λa b=>a.id<b.id)
 ok:∀e∈R,(0<=e.id/\e.id<=16777216)/\(0<=e.group/\e.group<=16777216)/\0<=e.du/\e.du<=3
variable{R R':bA dy}
def Good.nil:Good []:=⟨List.Pairwise.nil,λ_ h=>by cases h⟩
def uniq(G:R.Pairwise (λa b:dy=>a.id<b.id)){e e':dy}(h:e∈R)(h':e'∈R)(eQ:e.id=e'.id):e=e':=by
 obtain⟨i,d,rfl⟩:=jb.1 h;obtain⟨j,f,rfl⟩:=jb.1 h';rcases Ga i j with c|rfl|c;·have:=m6.1 G i j d f c;omega
 ·rfl
 ·have:=m6.1 G j i f d c;omega
def kO(G:R.Pairwise (λa b:dy=>a.id<b.id)){k:Int}{e:dy}:ff R k=some e↔e∈R/\e.id=k:=by
 unfold ff;constructor;·intro h;exact⟨vV h,by simpa using Gi h⟩
 ·rintro⟨h1,h2⟩;cases hf:R.find? (λe=>e.id==k)with
  |none=>have:=pZ.1 hf e h1;simp[h2]at this
  |some e'=>
   have c:=vV hf;have d:e'.id=k:=by simpa using Gi hf
   rw[uniq G c h1 bu]
def r5(G:R.Pairwise (λa b:dy=>a.id<b.id)){k:Int}:ff R k=none↔∀e∈R,e.id≠k:=by
 unfold ff;rw[pZ];simp
def AT(G:R.Pairwise (λa b:dy=>a.id<b.id))(c:R'.Pairwise (λa b:dy=>a.id<b.id)){k:Int}(h:∀e,e.id=k->(e∈R'↔e∈R)):ff R' k=ff R k:=by
 apply Option.ext;intro e;rw[kO G,kO c];exact⟨λ⟨h1,h2⟩=>⟨(h e h2).1 h1,h2⟩,λ⟨h1,h2⟩=>⟨(h e h2).2 h1,h2⟩⟩
def iI(R:bA dy)(x:dy):bA dy:=R.filter (λy=>decide (y.id<x.id))++x::R.filter (λy=>decide (x.id<y.id))
def ie(id g:Int):Prop:=id<0\/16777216<id\/g<0\/16777216<g
instance(id g:Int):Decidable (ie id g):=by unfold ie;infer_instance
def jI(R:bA dy)(id g:Int)(dY:Bool):bA dy×Int:=
 if ie id g then(R,1)else if(ff R id).isSome then(R,4)else(iI R ⟨id,g,if dY then 1 else 0⟩,0)
def jj(R:bA dy)(id:Int):bA dy×Int:=if(ff R id).isSome then(R.filter (λe=>e.id !=id),0)else(R,2)
def kp(R:bA dy)(id:Int):bA dy×Int:=if(ff R id).isSome then(R.map (λe=>if e.id=id then {e with du:=0} else e),0)else(R,2)
def oE(R:bA dy)(g:Int):Int:=(R.filter (λe=>e.group==g)).length
def jJ(g:Int)(a:Int->Int->Int×Int)(e:dy):dy:=if e.group=g then⟨e.id,(a e.group e.du).1,(a e.group e.du).2⟩else e
def nS(g:Int)(a:Int->Int->Int×Int)(e:dy):Bool:=e.group==g&& !(a e.group e.du==(e.group,e.du))
def iw(R:bA dy)(g:Int)(a:Int->Int->Int×Int):bA dy×Int:=(R.map (jJ g a),(R.filter (nS g a)).length)
def jK(g a:Int):Int×Int:=(g,min1 (i64.wrap (a+1)) 3)
def mU(R:bA dy)(f t:Int):bA dy×Int:=if t<0\/16777216<t then(R,0)else iw R f (λ_ a=>(t,a))
def wT{x y:dy}(hn:∀e∈R,e.id≠x.id):y∈iI R x↔y=x\/y∈R:=by
 unfold iI;simp only[gF,gq,ey,gE];constructor
 ·rintro(⟨h,_⟩|rfl|⟨h,_⟩);·exact .inr h
  ·exact .inl rfl
  ·exact .inr h
 ·rintro(rfl|h);·exact .inr (.inl rfl)
  ·have:=hn y h;rcases Int.lt_trichotomy y.id x.id with h1|h1|h1;·exact .inl ⟨h,h1⟩
   ·exact absurd h1 this
   ·exact .inr (.inr ⟨h,h1⟩)
def Good.ins(G:Good R){x:dy}(hn:∀e∈R,e.id≠x.id)(hx:(0<=x.id/\x.id<=16777216)/\(0<=x.group/\x.group<=16777216)/\0<=x.du/\x.du<=3):Good (iI R x):=by
 refine⟨?_,λe he=>?_⟩
 ·unfold iI;rw[jv,g7];refine⟨G.cZ.filter _,⟨λy d=>?_,G.cZ.filter _⟩,λa c b hb=>?_⟩;·simpa using(gq.1 d).2
  ·have h1:a.id<x.id:=by simpa using(gq.1 c).2
   rcases ey.1 hb with rfl|hb;·exact h1
   ·have h2:x.id<b.id:=by simpa using(gq.1 hb).2
    omega
 ·rcases(wT hn).1 he with rfl|h;·exact hx
  ·exact G.ok e h
def Good.add(G:Good R)(id g:Int)(dY:Bool):Good (jI R id g dY).1:=by
 unfold jI;split;·exact G
 ·next hb=>
  split;·exact G
  ·next hf=>
   have hf:ff R id=none:=by simpa using hf
   refine G.ins ((r5 G.cZ).1 hf) ?_;unfold ie at hb;refine⟨⟨?_,?_⟩,⟨?_,?_⟩,?_⟩<;>simp only<;>first|omega|(split<;>omega)
def Good.filter(G:Good R)(p:dy->Bool):Good (R.filter p):=⟨G.cZ.filter _,λe he=>G.ok e (gq.1 he).1⟩
def Good.drop(G:Good R)(id:Int):Good (jj R id).1:=by
 unfold jj;split;·exact G.filter _
 ·exact G
def Good.map(G:Good R)(f:dy->dy)(eQ:∀e,(f e).id=e.id)(a:∀e∈R,(0<=(f e).group/\(f e).group<=16777216)/\0<=(f e).du/\(f e).du<=3):Good (R.map f):=by
 refine⟨?_,λe he=>?_⟩;·rw[kc];exact G.cZ.imp (λh=>by rw[eQ,eQ];exact h)
 ·obtain⟨x,hx,rfl⟩:=fo.1 he;exact⟨by rw[eQ];exact(G.ok x hx).1,a x hx⟩
def Good.cy(G:Good R)(id:Int):Good (kp R id).1:=by
 unfold kp;split
 ·refine G.map _ (λe=>by split<;>rfl) (λe he=>?_);have:=G.ok e he;split;·exact⟨this.2.1,(show(0:Int)<=0 by decide),(show(0:Int)<=3 by decide)⟩
  ·exact this.2
 ·exact G
def r6(g:Int)(a:Int->Int->Int×Int)(e:dy):(jJ g a e).id=e.id:=by unfold jJ;split<;>rfl
def Good.each(G:Good R)(g:Int)(a:Int->Int->Int×Int)(b:∀e∈R,e.group=g->(0<=(a e.group e.du).1/\(a e.group e.du).1<=16777216)/\0<=(a e.group e.du).2/\(a e.group e.du).2<=3):Good (iw R g a).1:=by
 refine G.map _ (r6 g a) (λe he=>?_);unfold jJ;split;·next h=>exact b e he h
 ·exact(G.ok e he).2
def UH{g a:Int}(b:0<=a)(c:a<=3):jK g a=(g,if a<3 then a+1 else 3):=by
 unfold jK min1;rw[cR bu bu];congr 1;split<;>split<;>omega
def Good.du(G:Good R)(g:Int):Good (iw R g jK).1:=by
 refine G.each g jK (λe he _=>?_);have:=G.ok e he;rw[UH this.2.2.1 this.2.2.2];refine⟨this.2.1,?_⟩;simp only;split<;>omega
def Good.move(G:Good R)(f t:Int):Good (mU R f t).1:=by
 unfold mU;split;·exact G
 ·exact G.each f _ (λe he _=>⟨by simp only;omega,(G.ok e he).2.2⟩)
end Go.Kc
namespace Go.Kc
open Go Go.Vc Go.Sp
namespace By
def pg(n:Nat)(i:Int):Prop:=0<=i/\i<n
instance(n:Nat)(i:Int):Decidable (pg n i):=inferInstanceAs (Decidable (_/\_))
def la(X:bA UInt8)(i:Int):bA UInt8:=(X.drop (16*i.toNat)).take 16
def lb(X:bA UInt8)(i:Int)(t:bA UInt8):bA UInt8:=X.take (16*i.toNat)++t++X.drop (16*i.toNat+16)
def zs:bA UInt8:=List.replicate 16 0
def rd(n:Nat)(X:bA UInt8)(i:Int):bA UInt8×Int:=if pg n i then(la X i,0)else([],1)
def wr(n:Nat)(X:bA UInt8)(i:Int)(t:bA UInt8):bA UInt8×Int:=if pg n i/\t.length=16 then(lb X i t,0)else(X,1)
def gt(n:Nat)(X:bA UInt8)(i a:Int):UInt8×Int:=if pg n i/\0<=a/\a<16 then(X.getD (16*i.toNat+a.toNat) 0,0)else(0,1)
def pt(n:Nat)(X:bA UInt8)(i a:Int)(b:UInt8):bA UInt8×Int:=if pg n i/\0<=a/\a<16 then(X.set (16*i.toNat+a.toNat) b,0)else(X,1)
def cl(n:Nat)(X:bA UInt8)(i:Int):bA UInt8×Int:=wr n X i zs
variable{n:Nat}{X:bA UInt8}{i j:Int}
def Hx(h:X.length=16*n)(a:pg n i):(la X i).length=16:=by
 obtain⟨h1,h2⟩:=a;simp only[la,hJ,nO];omega
def AU{t:bA UInt8}(h:X.length=16*n)(a:pg n i)(b:t.length=16):(lb X i t).length=16*n:=by
 obtain⟨h1,h2⟩:=a;simp only[lb,dg,hJ,nO];omega
def Hy{t:bA UInt8}(h:X.length=16*n)(a:pg n i)(b:t.length=16):ic (g9 X) (16*i.toNat) (g9 t)=g9 (lb X i t):=by
 obtain⟨h1,h2⟩:=a;rw[oC _ _ _ (by simp;omega)];simp[g9,lb,b,kK]
def UI{k:Nat}(hk:k<16):(la X i)[k]?=X[16*i.toNat+k]? :=by
 simp[la,hk]
def AV(h:X.length=16*n)(t:bA UInt8):(wr n X i t).1.length=16*n:=by
 unfold wr;split;·next a=>exact AU h a.1 a.2
 ·exact h
def UJ(h:X.length=16*n)(a:Int)(b:UInt8):(pt n X i a b).1.length=16*n:=by
 unfold pt;split<;>simpa
end By
end Go.Kc
namespace Go.Kc
open Go Go.Kt Go.Sp
def jk(R:bA dy)(gs:bR):bR:=[3,2,1,0].flatMap λa:Int=>((R.filter λe=>gs.contains e.group&&e.du==a).map dy.id)
structure eE where
 min:Int
 low:Int
 whole:Bool
deriving DecidableEq
structure fa where
 bS:bA Bool
 dd:bA UInt8
 used:bA eO
structure Cs where
 tree:bA G
 fr:fa
 sl:fa
 files:FS
 bX:bA dy
 log:bR
 bt:TS
 kept:Int->bW Int
 guards:bA eE
def gy(n:Int):fa:=⟨iF n,List.replicate (16*(min (max n 0).toNat 1024)) 0,me⟩
def new(cx cT:Int)(bY:bR):Cs:=⟨Kt.new,gy cx,gy cT,gT bY,[],List.replicate 64 0,TS.zero,λ_=>none,[⟨0,0,false⟩]⟩
def fa.dv(s:fa)(at_:Int)(a:bR):fa:=⟨(nn s.bS at_).1,(By.cl s.bS.length s.dd at_).1,(gk s.used a 1).1⟩
def Cs.chain(S:Cs)(g:Int):bR:=dp S.tree g
def Cs.live(S:Cs)(g:Int):Bool:=dt S.tree g
def Cs.memory(S:Cs)(g:Int):Int:=cW S.fr.used g
def Cs.swap(S:Cs)(g:Int):Int:=cW S.sl.used g
def Cs.mV(S:Cs)(g:Int):eE:=S.guards.getD g.toNat ⟨0,0,false⟩
def Cs.cp(S:Cs)(p:Int):Cs×Int×Int:=
 let r:=gi S.tree p
 if r.2.2=0 then({S with tree:=r.1,guards:=S.guards++[⟨0,0,false⟩]},r.2)else(S,r.2)
def TS.all(T:TS):bR:=((List.range T.next.toNat).filter λi:Nat=>(T.pg i).isSome).map Int.ofNat
def TS.et(T:TS)(o:Int):bR:=((List.range T.next.toNat).filter λi:Nat=>match T.pg i with|some p=>p.owner==o|none=>false).map Int.ofNat
def TS.dx(T:TS)(ids:bR)(o:Int):TS:=ids.foldl (λT id=>(T.own id o).1) T
def Cs.remove(S:Cs)(g:Int):Cs×Int:=
 let r:=iT S.tree g
 if r.2=0 then
  let up:=o9 S.tree g
  ({S with tree:=r.1,bt:=S.bt.dx (S.bt.et g) up,bX:=(mU S.bX g up).1,fr:={S.fr with used:=(gk S.fr.used [g] (cW S.fr.used g)).1},sl:={S.sl with used:=(gk S.sl.used [g] (cW S.sl.used g)).1}},0)
 else(S,r.2)
def Cs.ig(S:Cs)(g:Int)(x:eE):Cs:={S with guards:=S.guards.set g.toNat x}
def Cs.cC(S:Cs)(g what n:Int):Cs×Int:=
 if S.live g=false then(S,2)else if gS n=false then(S,1)
 else if what=0 then(S.ig g {S.mV g with min:=n},0)
 else if what=1 then(S.ig g {S.mV g with low:=n},0)
 else if what=2 then({S with fr:={S.fr with used:=(j4 S.fr.used g n).1}},(j4 S.fr.used g n).2)
 else if what=3 then({S with sl:={S.sl with used:=(j4 S.sl.used g n).1}},(j4 S.sl.used g n).2)
 else if what=4 then(if 1<n then(S,1)else(S.ig g {S.mV g with whole:=n==1},0))
 else(S,1)
def gV(R:bA dy):bR->bA dy×Int
 |[]=>(R,0)
 |g::gs=>let r:=iw R g jK;let q:=gV r.1 gs;(q.1,r.2+q.2)
def Cs.du(S:Cs)(t:Int):Cs×Int:=let r:=gV S.bX (ia S.tree t);({S with bX:=r.1},r.2)
def Cs.text(S:Cs)(p:Pg):bA UInt8:=
 if p.place=1 then(By.rd S.fr.bS.length S.fr.dd p.at_).1 else if p.place=2 then(By.rd S.sl.bS.length S.sl.dd p.at_).1 else(rZ S.files (p.kf,p.ki)).1
def Cs.clean(S:Cs)(id:Int)(p:Pg):Cs:=
 if 0<=p.kf/\p.e9=true then {S with files:=(nr S.files (p.kf,p.ki) (S.text p)).1,bt:=(S.bt.mark id false).1} else S
def Cs.ft(S:Cs)(id:Int)(p:Pg)(a:bR):Cs×Bool:=
 if a.any (λg=>decide (g8 S.sl.used g<=cW S.sl.used g))then(S,false)else
 let t:=fW S.sl.bS
 if t.2.2≠0 then(S,false)else
 ({S with sl:=⟨t.1,(By.wr t.1.length S.sl.dd t.2.1 (S.text p)).1,(dh S.sl.used a 1).1⟩,bt:=(S.bt.put id 2 t.2.1).1},true)
def Cs.leave(S:Cs)(id:Int)(p:Pg)(a:bR):Cs:=
 {S with fr:=S.fr.dv p.at_ a,bX:=(jj S.bX id).1,log:=(dK S.log p.owner).1,kept:=cL S.kept id (some (dK S.log p.owner).2)}
def Cs.out(S:Cs)(id:Int):Cs×Bool:=
 let p:=(S.bt.get id).1
 let a:=S.chain p.owner
 if 0<=p.kf then
  let b:=S.clean id p
  ({b with bt:=(b.bt.put id 0 0).1}.leave id p a,true)
 else
  let r:=S.ft id p a
  if r.2 then(r.1.leave id p a,true)else(S,false)
def Cs.nodes(S:Cs)(own:eE->Int):bA eA:=
 (List.range S.guards.length).map λg:Nat=>if S.live g then⟨((S.tree[g]?).map G.up).getD (-1),S.memory g,own (S.mV g)⟩else⟨((S.tree[g]?).map G.up).getD (-1),0,0⟩
def Cs.held(S:Cs)(t:Int)(own:eE->Int):bA Bool:=
 let l:=S.nodes own
 (List.range l.length).map λg:Nat=>nt l (mS l t) t g
def pass(held:Int->Bool):bR->Cs->Cs×Bool
 |[],S=>(S,false)
 |id::r,S=>
  if held (S.bt.get id).1.owner then pass held r S
  else let o:=S.out id
   if o.2 then(o.1,true)else pass held r o.1
def hy(l:bA Bool)(g:Int):Bool:=l.getD g.toNat false
def Cs.cO(S:Cs)(t:Int)(gs:bR)(all:Bool):Cs×Bool:=
 if S.live t=false then(S,false)else
 let mn:=S.held t eE.min
 let lw:=S.held t eE.low
 let o:=jk S.bX gs
 let r:=pass (λg=>hy mn g||hy lw g) o S
 if r.2 then(r.1,true)else if all then pass (λg=>hy mn g) o r.1 else(r.1,false)
def Cs.c2(S:Cs)(t:Int):Cs×Bool:=S.cO t (ia S.tree t) true
def db(t:Int)(gs:bR):Nat->Cs->Cs×Int
 |0,S=>(S,0)
 |n+1,S=>let r:=S.cO t gs false;let q:=db t gs n r.1;(q.1,(if r.2 then 1 else 0)+q.2)
def ct(t:Int):bA (Int×Int)->Cs->Cs×Int
 |[],S=>(S,0)
 |(g,k)::r,S=>let a:=db t [g] k.toNat S;let b:=ct t r a.1;(b.1,a.2+b.2)
def dC(t:Int):Nat->Cs->Cs×Int
 |0,S=>(S,0)
 |n+1,S=>let r:=S.c2 t;if r.2 then let q:=dC t n r.1;(q.1,1+q.2)else(r.1,0)
def Cs.weights(S:Cs)(t:Int):bR:=
 (ia S.tree t).map λg=>if hy (S.held t eE.min) g=false/\hy (S.held t eE.low) g=false then oE S.bX g else 0
def Cs.shrink(S:Cs)(t n:Int):Cs×Int:=
 if S.live t=false\/n<1\/1000<n then(S,0)else
 let a:=ct t ((ia S.tree t).zip (ji n (S.weights t))) S
 let b:=dC t (n-a.2).toNat a.1
 (b.1,a.2+b.2)
def take(g:Int):Nat->Cs->Cs×Int×Int×Int
 |0,S=>(S, -1,0,12)
 |n+1,S=>
  let a:=S.chain g
  let t:=dh S.fr.used a 1
  let full (c:Cs) (b:Int):Cs×Int×Int×Int:=
   let r:=c.c2 b
   if r.2 then take g n r.1 else(r.1, -1,b,12)
  if t.2.2=0 then
   let p:=fW S.fr.bS
   if p.2.2=0 then({S with fr:={S.fr with bS:=p.1,used:=t.1}},p.2.1, -1,0)
   else full {S with fr:={S.fr with used:=(gk t.1 a 1).1}} 0
  else full S t.2.1
def Cs.take(S:Cs)(g:Int):Cs×Int×Int×Int:=Kc.take g (S.bX.length+1) S
def Cs.place(S:Cs)(id at_ g:Int)(text:bA UInt8)(dY:Bool):Cs:=
 {S with fr:={S.fr with dd:=(By.wr S.fr.bS.length S.fr.dd at_ text).1},bt:=((S.bt.own id g).1.put id 1 at_).1,bX:=(jI S.bX id g dY).1}
def Cs.c3(S:Cs)(g:Int)(text:bA UInt8):Cs×Int×Int×Int:=
 let t:=S.take g
 if t.2.2.2≠0 then(t.1, -1,t.2.2.1,t.2.2.2)else
 let m:=t.1.bt.make (-1) 0 g
 ({t.1 with bt:=m.1}.place m.2.1 t.2.1 g text false,m.2.1, -1,0)
def Cs.fresh(S:Cs)(g:Int):Cs×Int×Int×Int:=if S.live g=false then(S, -1, -1,2)else S.c3 g By.zs
def Cs.copy(S:Cs)(id g:Int):Cs×Int×Int×Int:=
 let p:=S.bt.get id
 if p.2≠0\/S.live g=false\/p.1.place=0 then(S, -1, -1,2)else S.c3 g (S.text p.1)
def Cs.cd(S:Cs)(id g:Int):Cs×Int×Int:=
 let p:=S.bt.get id
 if p.2≠0\/S.live g=false\/(p.1.place=0/\p.1.kf<0)then(S, -1,2)
 else if p.1.place=1 then({S with bX:=(kp S.bX id).1}, -1,0)
 else
  let o:=if p.1.place=0 then g else p.1.owner
  let t:=S.take o
  if t.2.2.2≠0 then(t.1,t.2.2.1,t.2.2.2)else
  let text:=t.1.text p.1
  let a:=if p.1.place=2 then {t.1 with sl:=t.1.sl.dv p.1.at_ (t.1.chain o)} else t.1
  let b:=mh a.log ((a.kept id).getD 0) (a.memory o)
  (a.place id t.2.1 o text (!b), -1,0)
def Cs.cN(S:Cs)(k:Int×Int)(g:Int):Cs×Int×Int×Int:=
 if ej S.files k=false\/S.live g=false then(S, -1, -1,2)else
 let made:=decide (S.bt.of k<0)
 let m:=S.bt.make k.1 k.2 g
 let a:=if made then {S with bt:=m.1} else S
 let id:=if made then m.2.1 else S.bt.of k
 let b:=a.cd id g
 if b.2.2=0 then(b.1,id, -1,0)
 else if made then({b.1 with bt:=(b.1.bt.drop id).1}, -1,b.2.1,b.2.2)
 else(b.1, -1,b.2.1,b.2.2)
def Cs.here(S:Cs)(id:Int):Int×Bool:=let p:=S.bt.get id;(p.1.at_,p.2==0&&p.1.place==1)
def Cs.get(S:Cs)(id at_:Int):Cs×Int×Int:=
 let h:=S.here id
 if h.2=false then(S,0,2)else
 let r:=By.gt S.fr.bS.length S.fr.dd h.1 at_
 (if r.2=0 then {S with bX:=(kp S.bX id).1} else S,(r.1.toNat:Int),r.2)
def Cs.put(S:Cs)(id at_:Int)(b:UInt8):Cs×Int:=
 let h:=S.here id
 if h.2=false then(S,2)else
 let r:=By.pt S.fr.bS.length S.fr.dd h.1 at_ b
 if r.2=0 then({S with fr:={S.fr with dd:=r.1},bX:=(kp S.bX id).1,bt:=(S.bt.mark id true).1},0)else(S,r.2)
def Cs.bO(S:Cs)(id n:Int):Cs×Int:=
 let r:=S.bt.bO id n
 if r.2.2≠0\/0<r.2.1 then({S with bt:=r.1},r.2.2)else
 let a:={S with bt:=r.1}
 let p:=(a.bt.get id).1
 let e:=a.chain p.owner
 let c:=if p.place=1 then
   let b:=a.clean id p
   {b with fr:=b.fr.dv p.at_ e,bX:=(jj b.bX id).1}
  else if p.place=2 then {a with sl:=a.sl.dv p.at_ e} else a
 let d:=(c.bt.put id 0 0).1.drop id
 ({c with bt:=d.1},d.2)
end Go.Kc
namespace Go.Sp
open Go Go.Vc
abbrev cY(E:Env)(x:bE)(L:cv):=cA λv w=>v=x/\Sep E L w
end Go.Sp
