/- A part of the proof. -/
import Derived.Tactics
import Derived.Still
import Derived.Laws.World
import Derived.KernelRfl
import Derived.Scope
import Derived.ScopeJumps
import Derived.StillTail
import Derived.Deep.LoopGhost
import Derived.Deep.Quiet
import Derived.Eval
import Derived.Deep.AppendSrc
import Derived.Laws.MakeOwn
import Derived.Laws.IdiomStrings
import Derived.Stop.BytesEq
import Derived.Laws.StructEq
import Derived.MapKept
set_option linter.all false
set_option maxRecDepth 100000
open Go in abbrev aN2:Value:=.bool false
open Go in abbrev aN3:Value:=.bool true
open Go in abbrev aN4:Value:=.tuple #[]
open Go in abbrev aN8:Value:=.slice none 0 0
open Go.IntKind(i64 u64)
open Go in abbrev bf8:=World->Prop
open Go in abbrev bf9:=Value->World->Prop
open Go in abbrev ch:=Option Addr
open Go in abbrev bI:=World
open Go in abbrev bE:=Value
open Go in abbrev bg5:=FuncId
open Go in abbrev cc:=TypeId
open Go in abbrev cN:=Program
universe u
abbrev fD(i:Int)(n:Nat)(A B:Prop):Prop:=cond (decide (i<(n:Int))) A B
abbrev eg(i n:Int)(A B:Prop):Prop:=cond (decide (i<n)) A B
abbrev dN(b:Bool)(A B:Prop):Prop:=cond (!b) A B
def bJ:=@if_neg
def dO:=@List.getElem?_eq_getElem
def bK:=@if_pos
def cZ:=@List.getElem?_eq_some_iff
def dJ:=@List.getD_eq_getElem?_getD
def cR:=@Option.some.inj
def dd:=@List.length_append
def dj:=@List.append_assoc
def eM:=@List.getElem?_append_left
def dA:=@Int.toNat_natCast
def dg:=@decide_eq_false
def dy:=@Bool.and_eq_true
def eI:=@List.mem_of_getElem?
def dF:=@decide_eq_true
def dW:=@List.length_set
def fM:=@List.getElem?_append_right
def eC:=@List.getElem?_map
def ei:=@List.length_map
def fK:=@List.take_append_drop
def ew:=@List.mem_cons
def fE:=@List.mem_cons_self
def fY:=@List.mem_cons_of_mem
def ek:=@Nat.le_refl
def gQ:=@List.getElem?_eq_none
def fS:=@Option.some.injEq
def fQ:=@List.all_eq_true
def iU:=@Array.getD_eq_getD_getElem?
def gw:=@decide_eq_true_eq
def gf:=@List.take_length
def g7:=@List.pairwise_cons
def gg:=@Option.map_some
def fx:=@Nat.zero_add
def iw:=@List.take_of_length_le
def fA:=@List.mem_map
def fj:=@Nat.zero_le
def hd:=@List.getElem?_set
def hg:=@List.ext_getElem?
def gG:=@List.mem_filter
def gH:=@List.mem_append
def gn:=@List.mem_range
def jd:=@List.getElem?_set_self
def iE:=@List.getElem?_set_ne
def ia:=@List.mem_singleton
def eJ:=@congrArg
def hF:=@List.length_take
def hv:=@List.append_nil
def hM:=@List.length_cons
def fR:=@Nat.mul_one
def jx:=@List.set_append_right
def je:=@List.mem_iff_getElem
def ib:=@Bool.not_eq_true'
def jy:=@List.pairwise_append
def kX:=@Option.isSome_iff_exists
def lG:=@List.drop_eq_getElem_cons
def kY:=@List.drop_of_length_le
def g2:=@Int.le_refl
def lH:=@List.getElem?_cons_zero
def jf:=@List.perm_middle
def hG:=@List.map_set
def kZ:=@List.contains_iff_mem
def hN:=@Nat.lt_or_ge
def kg:=@of_decide_eq_false
def k1:=@Nat.mul_le_mul_right
def jH:=@List.filter_cons
def m8:=@List.pairwise_iff_getElem
def hh:=@cond_false
def jI:=@Bool.or_eq_true
def l1:=@List.perm_append_comm
def l2:=@List.length_filter_le
def l3:=@List.length_singleton
def oe:=@Array.getElem?_setIfInBounds
def k2:=@Nat.eq_zero_or_pos
def kL:=@List.pairwise_map
def mD:=@Array.mem_of_getElem?
def mE:=@List.length_replicate
def lI:=@Nat.lt_of_lt_of_le
def iV:=@Nat.sub_self
def og:=@List.nodup_iff_pairwise_ne
def gR:=@if_false
def mF:=@List.mem_append_left
def oh:=@Array.getElem?_eq_getElem
def m9:=@Nat.eq_of_beq_eq_true
def hH:=@cond_true
def l4:=@Bool.false_eq_true
def o1:=@Array.getElem?_eq_some_iff
def k3:=@List.map_append
def om:=@List.getElem?_replicate
def nO:=@List.mem_append_right
def kh:=@List.map_cons
def na:=@List.getElem?_range
def pU:=@List.perm_append_comm_assoc
def lJ:=@List.nil_append
def nP:=@List.mem_of_mem_take
def g3:=@if_true
def mG:=@List.take_add_one
def mH:=@of_decide_eq_true
def rC:=@List.take_append_of_le_length
def mI:=@Option.getD_some
def mJ:=@Nat.mod_eq_of_lt
def tm:=@Nat.and_two_pow_sub_one_eq_mod
def oo:=@List.replicate_succ
def kj:=@Nat.add_mul
def nQ:=@List.flatMap_cons
def tn:=@List.eq_nil_of_length_eq_zero
def o2:=@Array.mem_toList_iff
def rD:=@Classical.byContradiction
def l5:=@Bool.true_and
def lK:=@Nat.add_zero
def nR:=@List.length_drop
def pV:=@List.Perm.append_left
def pW:=@List.mem_iff_getElem?
def kM:=@Nat.mod_lt
def pX:=@BitVec.ofInt_natCast
def o3:=@List.getElem?_take
def oq:=@List.getElem_mem
def rE:=@List.Perm.append_right
def o4:=@List.take_sublist
def nb:=@Bool.toNat_le
def mK:=@Nat.le_trans
def pY:=@List.getElem?_drop
def pZ:=@List.find?_eq_none
def tp:=@Nat.add_sub_cancel_left
def o5:=@List.cons_append
def rF:=@List.set_append_left
def rG:=@Nat.testBit_two_pow
def vT:=@List.mem_of_find?_eq_some
def o6:=@Nat.min_eq_left
def ot:=@Prod.mk.injEq
def nc:=@Nat.mul_add
def tq:=@Nat.pow_le_pow_right
def tr:=@List.mem_of_mem_drop
def vU:=@List.length_eq_zero_iff
def p0:=@List.length_nil
def tt:=@Array.length_toList
def vV:=@Array.getElem?_eq_none
def ou:=@Nat.zero_mul
def o7:=@Bool.or_false
def p1:=@List.drop_drop
def tu:=@BitVec.toNat_ofNat
def tv:=@List.filter_append
def rH:=@List.nodup_cons
def vW:=@Nat.eq_of_testBit_eq
def FI:=@Int.mul_le_mul_of_nonneg_right
def tw:=@List.flatten_cons
def tx:=@Bool.eq_false_iff
def SQ:=@Array.getElem?_setIfInBounds_self_of_lt
def vX:=@beq_eq_false_iff_ne
def vY:=@List.filter_eq_self
def tz:=@beq_self_eq_true
def tA:=@List.any_eq_true
def rI:=@List.drop_zero
def rJ:=@Bool.and_false
def tB:=@decide_eq_decide
def tC:=@List.not_mem_nil
def yV:=@List.append_eq_nil_iff
def p3:=@Nat.pow_succ
def vZ:=@List.mem_filterMap
def FJ:=@Nat.two_pow_add_eq_or_of_lt
def l6:=@Iff.rfl
def tD:=@Int.natCast_mul
def yW:=@List.count_cons_of_ne
def v7:=@List.nodup_append
def v8:=@List.filter_congr
def wa:=@List.count_append
def FK:=@List.getElem?_eq_none_iff
def yX:=@List.count_cons_self
def wb:=@BitVec.toNat_and
def rK:=@Nat.add_comm
def FL:=@List.Pairwise.imp_of_mem
def wc:=@List.drop_length
def yY:=@List.mergeSort_perm
def SR:=@Array.getElem?_setIfInBounds_ne
def FM:=@List.pairwise_singleton
def FN:=@decide_eq_false_iff_not
def tE:=@Nat.lt_irrefl
def nd:=@Ne.symm
def tF:=@Nat.add_assoc
def yZ:=@Nat.lt_of_le_of_lt
def we:=@List.count_cons
def y0:=@List.set_cons_zero
def FO:=@Nat.div_div_eq_div_mul
def SS:=@List.drop_append_of_le_length
def y1:=@List.foldl_append
def FP:=@Array.getElem?_modify
def FQ:=@List.countP_le_length
def tG:=@List.map_map
def wg:=@Bool.false_and
def wi:=@List.take_zero
def FR:=@List.getElem?_zipWith
def wj:=@Option.map_map
def y2:=@List.flatten_nil
def FT:=@Bool.or_eq_false_iff
def y3:=@List.mem_flatMap
def FU:=@Nat.pow_lt_pow_right
def y4:=@Nat.div_eq_of_lt
def SU:=@Int.fdiv_eq_ediv_of_nonneg
def FV:=@List.replicate_zero
def FX:=@List.getElem_of_mem
def FY:=@List.filterMap_cons
def FZ:=@List.flatMap_append
def F0:=@List.flatten_append
def F1:=@Array.toList_filter
def y5:=@Nat.two_pow_pos
def SV:=@Option.isNone_iff_eq_none
def y6:=@Int.ediv_nonneg
def SW:=@Array.getElem?_replicate
def F2:=@Bool.true_eq_false
def wk:=@Nat.mul_comm
def F3:=@Nat.xor_lt_two_pow
def F4:=@Option.isSome_some
def tH:=@beq_iff_eq
def y7:=@Int.mul_nonneg
def o8:=@eq_self
def F5:=@List.idxOf_append
def F6:=@Nat.lt_trichotomy
def F7:=@List.size_toArray
def F8:=@List.length_range
def F9:=@List.drop_sublist
def bb8:=@List.set_eq_take_append_cons_drop
def y8:=@List.all_cons
def Ga:=@Option.bind_some
def Gb:=@List.countP_cons
def Gc:=@List.getElem_set
def bc3:=@Nat.testBit_eq_decide_div_mod_eq
def SX:=@Nat.le_of_ble_eq_true
def bc5:=@List.eraseIdx_eq_take_drop_succ
def y9:=@Nat.succ_mul
def Gd:=@List.foldl_cons
def o9:=@not_or
def Ge:=@List.find?_some
def zc:=@Nat.pow_zero
def Gf:=@Nat.div_le_self
def Gg:=@Int.natCast_add
def Gh:=@List.any_append
def SY:=@List.mem_of_getLast?
def SZ:=@List.getElem?_of_mem
def S1:=@List.contains_append
def Gi:=@Int.emod_nonneg
def zd:=@Int.zero_add
def bd9:=@List.mem_eraseIdx_iff_getElem
def be0:=@Int.mul_le_mul_of_nonneg_left
def S2:=@List.take_set_of_le
def S3:=@List.drop_set_of_lt
def S4:=@List.map_congr_left
def Gj:=@List.mapM_cons
def tI:=@or_false
def Gk:=@Nat.mul_le_mul
def zj:=@Nat.div_one
def S5:=@Option.isSome_none
def S6:=@List.set_cons_succ
def S7:=@List.map_replicate
def Gl:=@Bool.false_or
def Gm:=@Nat.mul_assoc
def Gn:=@Int.add_assoc
def S8:=@Nat.le_of_not_lt
def Gq:=@Nat.lt_trans
def Gr:=@Nat.sub_zero
def S9:=@List.drop_append
abbrev bS:=List Int
abbrev bV:=@Option
abbrev bA:=@List
abbrev cb:=@Array
theorem cD{c:Prop}{h:Decidable c}(k:¬c:=by omega){α:Sort u}{a b:α}:(ite c a b)=b:=if_neg k
theorem eK{c:Prop}{h:Decidable c}(k:c:=by omega){α:Sort u}{a b:α}:(ite c a b)=a:=if_pos k
theorem dP{α:Type u}{l:List α}{i:Nat}(h:i<l.length:=by omega):l[i]?=some l[i]:=List.getElem?_eq_getElem h
theorem bu{p:Prop}(h:p:=by omega):p:=h
theorem bN{p:Prop}[Decidable p](h:p:=by decide):p:=h
namespace Go.Kt
structure G where
 up:Int
 live:Bool
def ds(l:bA G)(g:Int):Bool:=decide (0<=g)&&(match l[g.toNat]? with|some x=>x.live|none=>false)
structure WF(l:bA G):Prop where
 pos:0<l.length
 fk:l.length<=64
 root:l[0]?=some ⟨-1,true⟩
 up:∀(i:Nat) x,l[i]?=some x->0<i->0<=x.up/\x.up<i
 live:∀(i:Nat) x y,l[i]?=some x->0<i->x.live=true->l[x.up.toNat]?=some y->y.live=true
def iW{l:bA G}{g:Int}:ds l g=true↔∃n:Nat,g=n/\∃x,l[n]?=some x/\x.live=true:=by
 unfold ds;rw[dy,gw];constructor
 ·rintro⟨a,h⟩;refine⟨g.toNat,bu,?_⟩;split at h;·next x hx=>exact⟨x,hx,h⟩
  ·cases h
 ·rintro⟨n,rfl,x,hx,hl⟩;refine⟨bu,?_⟩;rw[dA,hx];exact hl
def Ta{l:bA G}{g:Int}(h:ds l g=true):0<=g/\g<l.length:=by
 obtain⟨n,rfl,x,hx,_⟩:=iW.1 h;have:=(cZ.1 hx).1;omega
def chain(l:bA G)(g:Nat):bA Nat:=
 if h:0<g/\0<=((l[g]?).map G.up).getD (-1)/\((l[g]?).map G.up).getD (-1)<g then g::chain l (((l[g]?).map G.up).getD (-1)).toNat else[g]
termination_by g
decreasing_by omega
def tJ(l:bA G):chain l 0= [0]:=by rw[chain,dif_neg bu]
def rL{l:bA G}{g:Nat}{x:G}(h:WF l)(hx:l[g]?=some x)(a:0<g):chain l g=g::chain l x.up.toNat:=by
 have:=h.up g x hx a;rw[chain];rw[hx];simp only[gg,mI];rw[dif_pos ⟨a,this.1,this.2⟩]
def Gs(l:bA G)(g:Nat):∃r,chain l g=g::r:=by
 rw[chain];split<;>exact⟨_,rfl⟩
def zp{l:bA G}(h:WF l):∀(g:Nat),g<l.length->(∀x∈chain l g,x<=g)/\(chain l g).length<=g+1:=by
 intro g;induction g using Nat.strongRecOn with
 |_ g d=>
  intro c;rcases k2 g with a|a;·subst a;rw[tJ];simp
  ·obtain⟨x,hx⟩:∃x,l[g]?=some x:=⟨_,dO c⟩
   have hu:=h.up g x hx a;rw[rL h hx a];have:=d x.up.toNat bu bu;refine⟨λy b=>?_,by rw[hM];omega⟩;rcases ew.1 b with rfl|b;·omega
   ·have:=this.1 y b;omega
def Tb{l:bA G}(h:WF l):∀(g:Nat),g<l.length->(chain l g).Nodup:=by
 intro g;induction g using Nat.strongRecOn with
 |_ g c=>
  intro b;rcases k2 g with a|a;·subst a;rw[tJ];simp
  ·obtain⟨x,hx⟩:∃x,l[g]?=some x:=⟨_,dO b⟩
   have hu:=h.up g x hx a;rw[rL h hx a,rH];refine⟨λhm=>?_,c _ bu bu⟩;have:=(zp h x.up.toNat bu).1 g hm;omega
def Tc{l:bA G}(h:WF l):∀(g:Nat),g<l.length->0∈chain l g:=by
 intro g;induction g using Nat.strongRecOn with
 |_ g c=>
  intro b;rcases k2 g with a|a;·subst a;rw[tJ];simp
  ·obtain⟨x,hx⟩:∃x,l[g]?=some x:=⟨_,dO b⟩
   have hu:=h.up g x hx a;rw[rL h hx a];exact fY _ (c _ bu bu)
def dk(l:bA G)(g:Int):bS:=if ds l g=true then(chain l g.toNat).map Int.ofNat else[]
def Gt(l:bA G)(g:Int):Int:=((dk l g).length:Int)-1
def pa(l:bA G)(g:Int):Int:=if ds l g=true then((l[g.toNat]?).map G.up).getD (-1)else -1
def nS(l:bA G)(is:Nat->Bool):bS:=((List.range l.length).filter λi:Nat=>ds l (i:Int)&&is i).map Int.ofNat
def ic(l:bA G)(g:Int):bS:=if ds l g=true then nS l (λi=>(dk l i).contains g)else[]
def kk(l:bA G)(g:Int):bS:=if ds l g=true then nS l (λi=>((l[i]?).map G.up).getD (-1)==g)else[]
def gh(l:bA G)(p:Int):bA G×Int×Int:=
 if ds l p=false then(l, -1,2)else if Gt l p≥7 then(l, -1,21)else if l.length≥64 then(l, -1,3)else(l++[⟨p,true⟩],l.length,0)
def iX(l:bA G)(g:Int):bA G×Int:=
 if g=0 then(l,1)else if ds l g=false then(l,2)else if kk l g≠ []then(l,4)else(l.set g.toNat ⟨((l[g.toNat]?).map G.up).getD (-1),false⟩,0)
def new:bA G:=[⟨-1,true⟩]
def Td:WF new:=⟨bN,bN,rfl,λi x hx a=>by
 match i,hx with
 |0,_=>omega
 |i+1,hx=>simp[new]at hx,λi x y hx a=>by
 match i,hx with
 |0,_=>omega
 |i+1,hx=>simp[new]at hx⟩
def Te{l:bA G}(h:WF l)(p:Int):WF (gh l p).1:=by
 unfold gh;split;·exact h
 split;·exact h
 split;·exact h
 next hl _ hn=>
  have hl:ds l p=true:=by simpa using hl
  obtain⟨n,rfl,x,hx,g⟩:=iW.1 hl;have f:=(cZ.1 hx).1;refine⟨by simp,by simp;omega,?_,λi y a d=>?_,λi y z a d j c=>?_⟩;·rw[eM h.pos];exact h.root
  ·rcases hN i l.length with b|b;·rw[eM b]at a;exact h.up i y a d
   ·rw[fM b]at a;have:i-l.length=0:=by
     rcases k2 (i-l.length)with h' | h';·exact h'
     ·rw[gQ (by simp;omega)]at a;cases a
    rw[this]at a;have:=cR a;subst this;exact⟨by show(0:Int)<=(n:Int);omega,by show(n:Int)<i;omega⟩
  ·rcases hN i l.length with b|b
   ·rw[eM b]at a;have hu:=h.up i y a d;rw[eM bu]at c;exact h.live i y z a d j c
   ·rw[fM b]at a;have:i-l.length=0:=by
     rcases k2 (i-l.length)with h' | h';·exact h'
     ·rw[gQ (by simp;omega)]at a;cases a
    rw[this]at a;have:=cR a;subst this;have e:((n:Int)).toNat=n:=by omega
    simp only[e]at c;rw[eM f,hx]at c;rw[<- cR c];exact g
def Tf{l:bA G}(h:WF l)(g:Int):WF (iX l g).1:=by
 unfold iX;split;·exact h
 split;·exact h
 split;·exact h
 next m hl hk=>
  have hl:ds l g=true:=by simpa using hl
  have hk:kk l g= []:=by simpa using hk
  obtain⟨n,rfl,x,hx,p⟩:=iW.1 hl;have d:=(cZ.1 hx).1;rw[dA,hx];simp only[gg,mI];have f:n≠0:=λe=>m (by rw[e];rfl);refine⟨by rw[dW];exact h.pos,by rw[dW];exact h.fk,?_,λi y a b=>?_,λi y z a b c j=>?_⟩;·rw[iE f];exact h.root
  ·by_cases e:n=i
   ·subst e;rw[jd d]at a;have:=cR a;subst this;exact h.up n x hx b
   ·rw[iE e]at a;exact h.up i y a b
  ·by_cases e:n=i
   ·subst e;rw[jd d]at a;have:=cR a;subst this;cases c
   ·rw[iE e]at a;by_cases k:n=y.up.toNat
    ·exfalso;have hu:=h.up i y a b;have o:=(cZ.1 a).1;have:(i:Int)∈kk l n:=by
      unfold kk nS;rw[bK hl];refine fA.2 ⟨i,gG.2 ⟨gn.2 o,?_⟩,rfl⟩;rw[dy];refine⟨iW.2 ⟨i,rfl,y,a,c⟩,?_⟩;show(((l[i]?).map G.up).getD (-1)==(n:Int))=true;rw[a];simp only[gg,mI,tH];omega
     rw[hk]at this;cases this
    ·rw[iE k]at j;exact h.live i y z a b c j
end Go.Kt
namespace Go.Vc
open Go
structure Sl where
 p:ch
 n:Nat
 c:Nat
inductive C1 where
 |int (k:IntKind)|bool|str|ptr|slice|map|raw|addr
def C1.ty:C1->Type
 |.int _=>Int | .bool=>Bool | .str=>ByteArray | .ptr=>ch | .slice=>Sl | .map=>bV Nat | .raw=>bE | .addr=>Addr
def C1.mk:(c:C1)->c.ty->bE
 |.int k,n=>.int k n
 |.bool,b=>.bool b
 |.str,s=>.string s
 |.ptr,p=>.pointer p
 |.slice,s=>.slice s.p s.n s.c
 |.map,r=>.map r
 |.raw,v=>v
 |.addr,a=>.pointer (some a)
def C1.un:(c:C1)->bE->bV c.ty
 |.int k,.int k' n=>match decide (k=k')with|true=>some n|false=>none
 |.bool,.bool b=>some b
 |.str,.string s=>some s
 |.ptr,.pointer p=>some p
 |.slice,.slice p n c=>some ⟨p,n,c⟩
 |.map,.map r=>some r
 |.raw,v=>some v
 |.addr,.pointer (some a)=>some a
 |_,_=>none
def C1.lL{c:C1}{v:bE}{x:c.ty}(h:c.un v=some x):v=c.mk x:=by
 cases c<;>cases v<;>simp only[C1.un,reduceCtorEq]at h
 case int.int k k' n=>
  split at h;·rename_i e;simp only[gw]at e;subst e;exact eJ (Value.int k) (cR h)
  ·cases h
 case bool.bool=>exact eJ Value.bool (cR h)
 case str.string=>exact eJ Value.string (cR h)
 case ptr.pointer=>exact eJ Value.pointer (cR h)
 case map.map=>exact eJ Value.map (cR h)
 case slice.slice p n c=>have h':(⟨p,n,c⟩:Sl)=x:=cR h;subst h';rfl
 case addr.pointer p=>cases p with|none=>cases h|some a=>exact eJ (λa=>Value.pointer (some a)) (cR h)
 all_goals exact cR h
inductive K1 where
 |one (c:C1)|agg (l:bA C1)|arr (n:Nat) (k:IntKind)
inductive Kd where
 |k (x:K1)|jg (l:bA K1)
def zr:bA C1->cb bE->(cb bE->Prop)->Prop
 |[],acc,f=>f acc
 |c::l,acc,f=>∃x:c.ty,zr l (acc.push (c.mk x)) f
def K1.ex:K1->(bE->Prop)->Prop
 |.one c,f=>∃x:c.ty,f (c.mk x)
 |.agg l,f=>zr l #[] (λcs=>f (.agg cs))
 |.arr n k,f=>∃xs:bS,xs.length=n/\f (.agg (xs.map (Value.int k)).toArray)
def wm:bA K1->cb bE->(cb bE->Prop)->Prop
 |[],acc,f=>f acc
 |k::l,acc,f=>k.ex λv=>wm l (acc.push v) f
def Kd.ex:Kd->(bE->Prop)->Prop
 |.k x,f=>x.ex f
 |.jg l,f=>wm l #[] (λvs=>f (.tuple vs))
def Gu:∀(l:bA C1) (acc:cb bE) (f:cb bE->Prop),zr l acc f->∃vs,f vs
 |[],acc,_,h=>⟨acc,h⟩
 |_::l,_,f,⟨_,h⟩=>Gu l _ f h
def K1.eV{k:K1}{f:bE->Prop}(h:k.ex f):∃v,f v:=by
 cases k with
 |one c=>obtain⟨x,h⟩:=h;exact⟨_,h⟩
 |agg l=>obtain⟨v,h⟩:=Gu l _ _ h;exact⟨_,h⟩
 |arr n k=>obtain⟨x,_,h⟩:=h;exact⟨_,h⟩
def zv:∀(l:bA K1) (acc:cb bE) (f:cb bE->Prop),wm l acc f->∃vs,f vs
 |[],acc,_,h=>⟨acc,h⟩
 |_::l,_,f,h=>let ⟨_,h⟩:=K1.eV h;zv l _ f h
def Kd.eV{k:Kd}{f:bE->Prop}(h:k.ex f):∃v,f v:=by
 cases k with
 |k x=>exact K1.eV h
 |jg l=>obtain⟨v,h⟩:=zv l _ _ h;exact⟨_,h⟩
def ej(P:cN)(t:cc):bV Bool:=
 match P.underlying t with
 |some (.struct _)=>some true
 |some (.array _ _)=>some true
 |some _=>some false
 |none=>none
def ix(P:cN)(t:cc):bV Nat:=
 match P.info? t with
 |some i=>some i.size
 |none=>none
def pb(P:cN)(t:cc):bV bE:=
 match P.info? t with
 |some i=>i.zero
 |none=>none
section
variable{P:cN}{w:bI}
def wo{t:cc}{z:bE}(h:pb P t=some z):(zeroValue t).run P w=.ok z w:=by
 unfold pb at h;split at h;·rename_i i a;simp[zeroValue,typeInfo,a,h]
 ·cases h
def hY{t:cc}{d:TypeDesc}(h:P.underlying t=some d):(underlying t).run P w=.ok d w:=by
 simp[underlying,h]
def tK{t:cc}{b:Bool}(h:ej P t=some b):(isAgg t).run P w=.ok b w:=by
 unfold ej at h;cases hu:P.underlying t with
 |none=>simp[hu]at h
 |some d=>cases d<;>simp[hu]at h<;>subst h<;>simp[isAgg,hY hu]
def run_sizeOf{t:cc}{n:Nat}(h:ix P t=some n):(sizeOf t).run P w=.ok n w:=by
 unfold ix at h;cases hu:P.info? t with
 |none=>simp[hu]at h
 |some i=>simp[hu]at h;subst h;simp[sizeOf,typeInfo,hu]
end
structure Grow(w w':bI):Prop where
 os:w'.os=w.os
 tape:w'.tape=w.tape
 output:w'.output=w.output
 size:w.heap.size<=w'.heap.size
 heap:∀b,b<w.heap.size->w'.heap[b]?=w.heap[b]?
def Grow.refl(w:bI):Grow w w:=⟨rfl,rfl,rfl,ek _,λ_ _=>rfl⟩
def Grow.trans{a b c:bI}(h:Grow a b)(h':Grow b c):Grow a c:=
 ⟨h'.os.trans h.os,h'.tape.trans h.tape,h'.output.trans h.output,mK h.size h'.size,λx hx=>(h'.heap x (lI hx h.size)).trans (h.heap x hx)⟩
def Grow.drew(w:bI):Grow w w.drew:=⟨rfl,rfl,rfl,ek _,λ_ _=>rfl⟩
def Grow.alloc(w:bI)(o:Obj):Grow w (w.alloc o):=
 ⟨rfl,rfl,rfl,by show w.heap.size<=(w.heap.push o).size;simp,λb hb=>by show(w.heap.push o)[b]?=w.heap[b]?;rw[Array.getElem?_push,bJ (Nat.ne_of_lt hb)]⟩
def Grow.cell{w w':bI}(h:Grow w w'){a:Addr}{v:bE}(b:w.cell? a=some v):w'.cell? a=some v:=by
 unfold World.cell? at b ⊢;cases hb:w.heap[a.block]? with
 |none=>simp[hb]at b
 |some o=>
  have c:a.block<w.heap.size:=by
   rcases hN a.block w.heap.size with h|h;·exact h
   ·simp[vV h]at hb
  rw[h.heap _ c,hb];simpa[hb]using b
def zE:bA C1->Addr->Nat->cb bE->bI->(cb bE->Prop)->Prop
 |[],_,_,acc,_,f=>f acc
 |c::l,a,i,acc,w,f=>∃x:c.ty,w.cell? (a.add i)=some (c.mk x)/\zE l a (i+1) (acc.push (c.mk x)) w f
def Tg(n:Nat)(k:IntKind)(a:Addr)(w:bI)(f:bE->Prop):Prop:=
 ∃xs:bS,xs.length=n/\(∀i,i<n->w.cell? (a.add i)=some (.int k (xs.getD i 0)))/\f (.agg (xs.map (Value.int k)).toArray)
def z1(P:cN)(k:K1)(t:cc)(a:Addr)(w:bI)(f:bE->Prop):Prop:=
 match k with
 |.one c=>match ej P t with
  |some false=>∃x:c.ty,w.cell? a=some (c.mk x)/\f (c.mk x)
  |_=>False
 |.agg l=>match ej P t,ix P t with
  |some true,some n=>bif n==l.length then zE l a 0 #[] w (λcs=>f (.agg cs))else False
  |_,_=>False
 |.arr n k=>match ej P t,ix P t with
  |some true,some m=>bif m==n then Tg n k a w f else False
  |_,_=>False
def Gv{P:cN}:∀(l:bA C1) (a:Addr) (i:Nat) (acc:cb bE) (w:bI) (f:cb bE->Prop),zE l a i acc w f->
  ∃vs,(∀w',Grow w w'->(loadCellsFrom a i l.length acc).run P w'=.ok vs w')/\f vs
 |[],_,_,acc,_,_,h=>⟨acc,λ_ _=>by simp[loadCellsFrom],h⟩
 |c::l,a,i,acc,w,f,⟨x,hx,h⟩=>by
  obtain⟨vs,h1,h2⟩:=Gv (P:=P) l a (i+1) _ w f h;exact⟨vs,λw' g=>by simp[loadCellsFrom,g.cell hx,h1 w' g],h2⟩
def Gw{P:cN}{k:IntKind}{a:Addr}{w:bI}(xs:bS):∀(m i:Nat) (acc:cb bE),i+m=xs.length->
  (∀j,j<xs.length->w.cell? (a.add j)=some (.int k (xs.getD j 0)))->
  (loadCellsFrom a i m acc).run P w=.ok (acc++((xs.drop i).map (Value.int k)).toArray) w
 |0,i,acc,c,_=>by
  have:xs.drop i= []:=by simp;omega
  simp[loadCellsFrom,this]
 |m+1,i,acc,c,h=>by
  have b:i<xs.length:=by omega
  have d:=Gw (P:=P) xs m (i+1) (acc.push (.int k (xs.getD i 0))) bu h;simp only[loadCellsFrom,Sem.run_bind,run_load,h i b,Result.andThen_ok,d];congr 1;rw[show(List.drop i xs).map (Value.int k)=Value.int k (xs.getD i 0)::(List.drop (i+1) xs).map (Value.int k) by
   have e:xs.getD i 0=xs[i]:=by simp[List.getD,b]
   rw[e,lG b,kh]]
  apply Array.ext';simp only[Array.toList_append,Array.toList_push,dj,List.singleton_append]
def Gx{P:cN}{k:K1}{t:cc}{a:Addr}{w:bI}{f:bE->Prop}(h:z1 P k t a w f):
  ∃v,(∀w',Grow w w'->(loadVar t a).run P w'=.ok v w')/\f v:=by
 unfold z1 at h;cases k with
 |one c=>
  dsimp only at h;split at h
  ·rename_i e;obtain⟨x,hx,hf⟩:=h;exact⟨_,λw' g=>by simp[loadVar,tK e,g.cell hx],hf⟩
  ·exact h.elim
 |agg l=>
  dsimp only at h;split at h
  ·rename_i n b d;cases hn:n==l.length with
   |false=>simp[hn]at h
   |true=>
    rw[hn,hH]at h;simp at hn;subst hn;obtain⟨vs,h1,h2⟩:=Gv (P:=P) l a 0 #[] w _ h;exact⟨_,λw' g=>by simp[loadVar,tK b,run_sizeOf d,loadCells,h1 w' g],h2⟩
  ·exact h.elim
 |arr n k=>
  dsimp only at h;split at h
  ·rename_i m b d;cases hn:m==n with
   |false=>simp[hn]at h
   |true=>
    rw[hn,hH]at h;simp at hn;subst hn;obtain⟨xs,h1,h2,i⟩:=h;subst h1;exact⟨_,λw' g=>by simp[loadVar,tK b,run_sizeOf d,loadCells,Gw (P:=P) xs xs.length 0 #[] bu (λj o=>g.cell (h2 j o))],i⟩
  ·exact h.elim
def NN(p:ch)(f:Addr->Prop):Prop:=∃a,p=some a/\f a
@[simp] theorem aKG(a:Addr)(f:Addr->Prop):NN (some a) f↔f a:=by simp[NN]
@[simp] theorem aKF(f:Addr->Prop):NN none f↔False:=by simp[NN]
def p4(x:bE)(f:bE->Prop):Prop:=
 match x with
 |.pointer p=>NN p λa=>f (.pointer (some a))
 |.func (.func g) fi ca=>f (.func (.func g) fi ca)
 |_=>False
def p5(P:cN)(s:cc)(i:Nat):bV Nat:=
 match P.underlying s with
 |some (.struct fs)=>match fs[i]? with
  |some fd=>match ix P fd.type with
   |some (_+1)=>some fd.offset
   |_=>none
  |none=>none
 |_=>none
def z2(P:cN)(s:cc)(x:bE)(i:Nat)(f:bE->Prop):Prop:=
 match x with
 |.pointer (some a)=>match p5 P s i with
  |some o=>f (.pointer (some (a.add o)))
  |none=>False
 |_=>False
def pc(P:cN)(k:K1)(t:cc)(x:bE)(w:bI)(f:bE->Prop):Prop:=
 match x with
 |.pointer (some a)=>z1 P k t a w f
 |_=>False
def z6(c x y:bE)(f:bE->Prop):Prop:=
 match c,x,y with
 |.bool b,.bool p,.bool q=>f (.bool (bif b then p else q))
 |.bool true,x,_=>f x
 |.bool false,_,y=>f y
 |_,_,_=>False
def dm(k:IntKind)(m n:Int):Int:=k.wrap (BitVec.ofInt k.bits m &&& BitVec.ofInt k.bits n).toNat
def iY(k:IntKind)(m n:Int):Int:=k.wrap (BitVec.ofInt k.bits m ||| BitVec.ofInt k.bits n).toNat
def ov(k:IntKind)(m n:Int):Int:=k.wrap (BitVec.ofInt k.bits m ^^^ BitVec.ofInt k.bits n).toNat
def wq(k:IntKind)(m n:Int):Int:=k.wrap (BitVec.ofInt k.bits m &&& ~~~ BitVec.ofInt k.bits n).toNat
def ow(k:IntKind)(n:Int):Int:=k.wrap (BitVec.ofInt k.bits (if k.signed then -1 else k.max) ^^^ BitVec.ofInt k.bits n).toNat
def p6(op:BinOp)(k:IntKind)(m:Int)(k':IntKind)(n:Int)(f:bE->Prop):Prop:=
 match op with
 |.shl=>0<=n/\f (.int k (k.wrap (m*2^(min n.toNat k.bits))))
 |.shr=>0<=n/\f (.int k (m.fdiv (2^(min n.toNat k.bits))))
 |op=>match decide (k=k')with
  |false=>False
  |true=>match op with
   |.add=>f (.int k (k.wrap (m+n)))
   |.sub=>f (.int k (k.wrap (m-n)))
   |.mul=>f (.int k (k.wrap (m*n)))
   |.quo=>n≠0/\f (.int k (k.wrap (m.tdiv n)))
   |.rem=>n≠0/\f (.int k (m.tmod n))
   |.and=>f (.int k (dm k m n))
   |.or=>f (.int k (iY k m n))
   |.xor=>f (.int k (ov k m n))
   |.andNot=>f (.int k (wq k m n))
   |.eql=>f (.bool (m==n))
   |.neq=>f (.bool (m !=n))
   |.lss=>f (.bool (m<n))
   |.leq=>f (.bool (m<=n))
   |.gtr=>f (.bool (m>n))
   |.geq=>f (.bool (m≥n))
   |_=>False
def p7(op:BinOp)(s t:ByteArray)(f:bE->Prop):Prop:=
 match op with
 |.add=>s.size+t.size<=9223372036854775807/\f (.string (s++t))
 |.eql=>f (.bool (s.toList==t.toList))
 |.neq=>f (.bool (!(s.toList==t.toList)))
 |.lss=>f (.bool (Op.bytesLess s.toList t.toList))
 |_=>False
def wu(P:cN)(t:cc):Bool:=match P.underlying t with|some .bool=>true|_=>false
def wv(P:cN)(t:cc):Bool:=match P.underlying t with|some (.pointer _)=>true|_=>false
def tL(P:cN)(t:cc):Bool:=match P.underlying t with|some (.slice _)=>true|_=>false
def wx(P:cN)(t:cc):Bool:=match P.underlying t with|some (.map _ _)=>true|_=>false
def kl(P:cN)(op:BinOp)(t:cc)(x y:bE)(b:Bool):Prop:=
 (∀a c w,(eqGuard op t a c x y).run P w=.ok () w)/\∀w,(binOp op t x y).run P w=.ok (.bool b) w
def wy(P:cN)(op:BinOp)(t:cc)(x y:bE)(f:bE->Prop):Prop:=
 match op with
 |.eql=>∃b:Bool,kl P .eql t x y b/\f (.bool b)
 |.neq=>∃b:Bool,kl P .neq t x y b/\f (.bool b)
 |_=>False
def Th(P:cN)(op:BinOp)(t:cc)(x y:bE)(f:bE->Prop):Prop:=
 match x,y with
 |.int k m,.int k' n=>p6 op k m k' n f
 |.string s,.string u=>p7 op s u f
 |.bool p,.bool q=>match wu P t,op with
  |true,.eql=>f (.bool (p==q))
  |true,.neq=>f (.bool (!(p==q)))
  |_,_=>False
 |.pointer p,.pointer none=>match wv P t,op with
  |true,.eql=>f (.bool p.isNone)
  |true,.neq=>f (.bool (!p.isNone))
  |_,_=>False
 |.slice p _ _,.slice none _ _=>match tL P t,op with
  |true,.eql=>f (.bool p.isNone)
  |true,.neq=>f (.bool (!p.isNone))
  |_,_=>False
 |.map r,.map none=>match wx P t,op with
  |true,.eql=>f (.bool r.isNone)
  |true,.neq=>f (.bool (!r.isNone))
  |_,_=>False
 |x,y=>wy P op t x y f
def tM(P:cN)(op:BinOp)(t:cc)(x y:bE)(f:bE->Prop):Prop:=
 match y with
 |.nilFunc=>wy P op t x .nilFunc f
 |y=>Th P op t x y f
def z7(op:UnOp)(x:bE)(f:bE->Prop):Prop:=
 match op,x with
 |.not,.bool b=>f (.bool !b)
 |.neg,.int k n=>f (.int k (k.wrap (0-n)))
 |.xor,.int k n=>f (.int k (ow k n))
 |_,_=>False
def aKI(P:cN)(d:cc)(x:bE)(f:bE->Prop):Prop:=
 match P.underlying d,x with
 |some (.int k),.int _ n=>f (.int k (k.wrap n))
 |some .string,.string s=>f (.string s)
 |_,_=>False
def pd(P:cN)(t:cc):Bool:=match P.underlying t with|some .string=>true|_=>false
def Ti(s:ByteArray)(i:Int)(f:Int->Prop):Prop:=0<=i/\∃b:UInt8,s[i.toNat]?=some b/\f (b.toNat:Int)
def Aa(P:cN)(t:cc)(x i:bE)(f:bE->Prop):Prop:=
 match x,i with
 |.string s,.int _ i=>match pd P t with
  |true=>Ti s i λb=>f (.int .u8 b)
  |false=>False
 |_,_=>False
def l7(P:cN)(t:cc):bV (Nat×Nat):=
 match P.underlying t with
 |some (.array n e)=>match ix P e with
  |some m=>some (n,m)
  |none=>none
 |_=>none
def ox(P:cN)(t:cc):bV Nat:=
 match P.underlying t with
 |some (.slice e)=>ix P e
 |_=>none
def cK(p:ch)(n:Nat)(i:Int)(m:Nat)(f:Addr->Prop):Prop:=∃a,p=some a/\(0<=i/\i<n)/\f (a.add (i.toNat*m))
def Ab(P:cN)(t:cc)(x i:bE)(f:bE->Prop):Prop:=
 match x,i with
 |.slice p n _,.int _ i=>match ox P t with
  |some m=>cK p n i m λa=>f (.pointer (some a))
  |none=>False
 |.pointer p,.int _ i=>match l7 P t with
  |some (n,m)=>cK p n i m λa=>f (.pointer (some a))
  |none=>False
 |_,_=>False
def Ac(P:cN)(t:cc)(cs:cb bE)(off:Nat):bV bE:=
 match ej P t,ix P t with
 |some true,some n=>some (.agg (cs.extract off (off+n)))
 |some false,_=>cs[off]?
 |_,_=>none
def Ad(P:cN)(t:cc)(x:bE)(i:Nat)(f:bE->Prop):Prop:=
 match P.underlying t,x with
 |some (.struct fs),.agg cs=>match fs[i]? with
  |some fd=>match Ac P fd.type cs fd.offset with
   |some v=>f v
   |none=>False
  |none=>False
 |_,_=>False
def Ae(x:bE)(i:Nat)(f:bE->Prop):Prop:=
 match x with
 |.tuple vs=>match vs[i]? with
  |some v=>f v
  |none=>False
 |_=>False
def tO(n m:Nat)(b a d:bV bE)(f:Nat->Nat->Nat->Prop):Prop:=
 let low (h c:Nat):Prop:=match b with
  |none=>f 0 h c
  |some (.int _ l)=>(0<=l/\l<=h)/\f l.toNat h c
  |_=>False
 match a,d with
 |none,none=>low n m
 |some (.int _ h),none=>(0<=h/\h<=m)/\low h.toNat m
 |some (.int _ h),some (.int _ c)=>(0<=c/\c<=m)/\(0<=h/\h<=c.toNat)/\low h.toNat c.toNat
 |_,_=>False
def gi(a:ch)(l c m:Nat):ch:=if c=l then a else a.map (·.add (l*m))
def nf(a:Addr)(l c m:Nat):ch:=some (if c=l then a else a.add (l*m))
def Af(P:cN)(t:cc)(x:bE)(d b e:bV bE)(f:bE->Prop):Prop:=
 match x with
 |.slice p n c=>match ox P t with
  |some m=>tO n c d b e λl h c=>f (.slice (gi p l c m) (h-l) (c-l))
  |none=>False
 |.string s=>match pd P t,e with
  |true,none=>tO s.size s.size d b none λl h _=>f (.string (s.extract l h))
  |_,_=>False
 |.pointer (some a)=>match l7 P t with
  |some (n,m)=>tO n n d b e λl h c=>f (.slice (nf a l c m) (h-l) (c-l))
  |none=>False
 |_=>False
def min1(x y:Int):Int:=if y<x then y else x
def eE(x y:Int):Int:=if y>x then y else x
def Gy(P:cN)(b:Builtin)(t:cc)(args:bA bE)(f:bE->Prop):Prop:=
 match b,args with
 |.len,[.slice _ n _]=>match tL P t with|true=>f (.int .i64 n)|false=>False
 |.len,[.string s]=>match pd P t with|true=>f (.int .i64 s.size)|false=>False
 |.len,[.pointer _]=>match P.underlying t with
  |some (.pointer e)=>match l7 P e with|some (n,_)=>f (.int .i64 n)|none=>False
  |_=>False
 |.len,[.agg _]=>match l7 P t with
  |some (n,_)=>f (.int .i64 n)
  |none=>False
 |.min,[.int k x,.int _ y]=>f (.int k (min1 x y))
 |.max,[.int k x,.int _ y]=>f (.int k (eE x y))
 |_,_=>False
def Ag(P:cN)(b:Builtin)(ts:cb cc)(args:cb bE)(f:bE->Prop):Prop:=
 match ts[0]? with
 |some t=>Gy P b t args.toList f
 |none=>False
def Gz(P:cN)(t:cc)(ps:cb (Nat×bE)):bV (cb bE):=
 match pb P t,P.underlying t with
 |some z,some (.struct fs)=>match fs.toList.mapM λf=>(ix P f.type).map λn=>(f.offset,n)with
  |some l=>Instr.fill (λi=>l[i]?) z.cells ps.toList
  |none=>none
 |some z,some (.array _ e)=>match ix P e with
  |some m=>Instr.fill (λi=>some (i*m,m)) z.cells ps.toList
  |none=>none
 |_,_=>none
def tP(P:cN)(t:cc)(ps:cb (Nat×bE))(f:bE->Prop):Prop:=
 match Gz P t ps with
 |some cs=>f (.agg cs)
 |none=>False
def GA(P:cN)(t:cc):bV Bool:=match P.underlying t with|some (.interface _)=>some true|some _=>some false|none=>none
def jz:Op->Bool
 |.load .. | .lookup .. | .convert .. =>true
 |_=>false
def gp(P:cN)(t:cc)(m k:bE)(ok:Bool)(w:bI)(v:bE):Prop:=∀w',Grow w w'->(Instr.lookup t m k ok).run P w'=.ok v w'
def tQ(P:cN)(s d:cc)(x:bE)(w:bI)(v:bE):Prop:=∀w',Grow w w'->(convert s d x).run P w'=.ok v w'
def Ah(P:cN)(s d:cc)(x:bE)(w:bI)(f:bE->Prop):Prop:=
 match P.underlying d,x with
 |some (.int k),.int _ n=>f (.int k (k.wrap n))
 |some .string,.string t=>f (.string t)
 |some .string,.slice p n c=>∃l:ByteArray,tQ P s d (.slice p n c) w (.string l)/\f (.string l)
 |_,_=>False
def vQ(P:cN)(τ:cc->K1)(ρ:cc->Kd)(o:Oper)(ev:Operand->bE)(w:bI)(f:bE->Prop):Prop:=
 match o.op with
 |.move x=>f (ev x)
 |.assign x=>f (ev x)
 |.pick c x y=>z6 (ev c) (ev x) (ev y) f
 |.nilCheck x=>p4 (ev x) f
 |.fieldAddr s x i=>z2 P s (ev x) i f
 |.load t x=>pc P (τ t) t (ev x) w f
 |.binOp op t x y _=>tM P op t (ev x) (ev y) f
 |.unOp op _ x=>z7 op (ev x) f
 |.convert s d x=>Ah P s d (ev x) w f
 |.index t x i=>Aa P t (ev x) (ev i) f
 |.indexAddr t x i=>Ab P t (ev x) (ev i) f
 |.field t x i=>Ad P t (ev x) i f
 |.extract t i=>Ae (ev t) i f
 |.slice t x e a g=>Af P t (ev x) (e.map ev) (a.map ev) (g.map ev) f
 |.build t ps=>tP P t (ps.map λ(i,x)=>(i,ev x)) f
 |.makeInterface t x=>match GA P t with|some false=>f (.iface t (ev x))|_=>False
 |.lookup t m k ok=>(ρ o.type).ex λv=>gp P t (ev m) (ev k) ok w v/\f v
 |.makeFunc fn fi ca=>f (.func fn (fi.map ev) (ca.map ev))
 |.call {callee:=.builtin b,args,argTypes} =>Ag P b argTypes (args.map ev) f
 |_=>False
inductive Tr where
 |nil
 |node (v:bE) (l r:Tr)
noncomputable def Tr.get(T:Tr):Nat->bE:=
 Tr.rec (λ_=>undef) (λv _ _ gl gr n=>bif Nat.beq n 0 then v else bif Nat.beq (n%2) 1 then gl (n/2)else gr (n/2-1)) T
noncomputable def Tr.jJ(f:Nat):Tr->Nat->bE->Tr:=
 Nat.rec (λT _ _=>T) (λ_ a T n x=>
  Tr.rec (bif Nat.beq n 0 then .node x .nil .nil else bif Nat.beq (n%2) 1 then .node undef (a .nil (n/2) x) .nil else .node undef .nil (a .nil (n/2-1) x))
   (λv l r _ _=>bif Nat.beq n 0 then .node x l r else bif Nat.beq (n%2) 1 then .node v (a l (n/2) x) r else .node v l (a r (n/2-1) x)) T) f
noncomputable def Tr.put(T:Tr)(d:bV Nat)(v:bE):Tr:=match d with|some d=>Tr.jJ 13 T d v|none=>T
def Tr.get_nil(n:Nat):Tr.get .nil n=undef:=rfl
def Tr.fm(v:bE)(l r:Tr)(n:Nat):Tr.get (.node v l r) n=bif Nat.beq n 0 then v else bif Nat.beq (n%2) 1 then l.get (n/2)else r.get (n/2-1):=rfl
def Tr.l8(f:Nat)(v:bE)(l r:Tr)(n:Nat)(x:bE):Tr.jJ (f+1) (.node v l r) n x=
  bif Nat.beq n 0 then .node x l r else bif Nat.beq (n%2) 1 then .node v (Tr.jJ f l (n/2) x) r else .node v l (Tr.jJ f r (n/2-1) x):=rfl
def j5(a b:Nat):Nat.beq a b=(a==b):=by rw[Bool.eq_iff_iff];simp
def Tr.iF:∀(f:Nat) (T:Tr) (n m:Nat) (x:bE),n+1<2^f->(Tr.jJ f T n x).get m=if m=n then x else T.get m
 |0,_,_,_,_,h=>by simp at h
 |f+1,T,n,m,x,h=>by
  have e:Tr.jJ (f+1) T n x=match T with
   |.nil=>Tr.jJ (f+1) (.node undef .nil .nil) n x
   |T=>Tr.jJ (f+1) T n x:=by cases T<;>rfl
  have g:∀k,(Tr.nil).get k=(Tr.node undef .nil .nil).get k:=by
   intro k;rw[Tr.fm,Tr.get_nil];cases Nat.beq k 0<;>cases Nat.beq (k%2) 1<;>rfl
  have key:∀(v:bE) (l r:Tr),(Tr.jJ (f+1) (.node v l r) n x).get m=if m=n then x else(Tr.node v l r).get m:=by
   intro v l r;rw[Tr.l8];have h2:2^(f+1)=2^f+2^f:=by rw[p3];omega
   by_cases hn:n=0
   ·subst hn;simp only[j5,tz,hH];rw[Tr.fm,Tr.fm];by_cases hm:m=0;·subst hm;simp[j5]
    ·have:(m==0)=false:=by simpa using hm
     simp only[j5,this,hh,bJ hm]
   ·have i:Nat.beq n 0=false:=by rw[j5];simpa using hn
    rw[i,hh];by_cases hp:n%2=1
    ·have d:Nat.beq (n%2) 1=true:=by rw[j5];simpa using hp
     rw[d,hH,Tr.fm,Tr.fm,Tr.iF f l (n/2) (m/2) x bu];by_cases hm:m=0;·subst hm;rw[bJ (by omega:¬ 0=n)];rfl
     ·have c:Nat.beq m 0=false:=by rw[j5];simpa using hm
      rw[c,hh,hh];by_cases b:m%2=1
      ·have a:Nat.beq (m%2) 1=true:=by rw[j5];simpa using b
       rw[a,hH,hH];by_cases e:m=n;·subst e;simp
       ·rw[bJ e,bJ (by omega:¬ m/2=n/2)]
      ·have a:Nat.beq (m%2) 1=false:=by rw[j5];simpa using b
       rw[a,hh,hh,bJ (λe:m=n=>b (by rw[e];exact hp))]
    ·have d:Nat.beq (n%2) 1=false:=by rw[j5];simpa using hp
     rw[d,hh,Tr.fm,Tr.fm,Tr.iF f r (n/2-1) (m/2-1) x bu];by_cases hm:m=0;·subst hm;rw[bJ (by omega:¬ 0=n)];rfl
     ·have c:Nat.beq m 0=false:=by rw[j5];simpa using hm
      rw[c,hh,hh];by_cases b:m%2=1
      ·have a:Nat.beq (m%2) 1=true:=by rw[j5];simpa using b
       rw[a,hH,hH,bJ (λe:m=n=>hp (by rw[<- e];exact b))]
      ·have a:Nat.beq (m%2) 1=false:=by rw[j5];simpa using b
       rw[a,hh,hh];by_cases e:m=n;·subst e;simp
       ·rw[bJ e,bJ (by omega:¬ m/2-1=n/2-1)]
  cases T with
  |nil=>rw[g m];exact key _ _ _
  |node v l r=>exact key v l r
def Tr.dK(T:Tr)(d m:Nat)(v:bE)(h:d<8000):(T.put (some d) v).get m=if m=d then v else T.get m:=
 Tr.iF 13 T d m v bu
noncomputable def Tr.ev(T:Tr):Operand->bE
 |.tmp t=>T.get t
 |.const v=>v
 |.global g=>.pointer (some ⟨g,0,none⟩)
 |.func f=>.func (.func f) #[] #[]
end Go.Vc
namespace Go.Vc
open Go
section
variable{P:cN}{w:bI}
def Tj{c x y:bE}{f:bE->Prop}(h:z6 c x y f):∃v,(∀w,(do pure (Next.value (if <- asBool c then x else y)):Sem Next).run P w=.ok (.value v) w)/\f v:=by
 unfold z6 at h;split at h;·rename_i b p q;cases b<;>exact⟨_,λw=>by simp[asBool],h⟩
 ·exact⟨_,λw=>by simp[asBool],h⟩
 ·exact⟨_,λw=>by simp[asBool],h⟩
 ·exact h.elim
def Tk{op:BinOp}{t:cc}{k k':IntKind}{m n:Int}{f:bE->Prop}(h:p6 op k m k' n f):
  ∃v,(∀w,(binOp op t (.int k m) (.int k' n)).run P w=.ok v w)/\f v:=by
 unfold p6 at h;split at h
 ·obtain⟨a,h⟩:=h;refine⟨_,λw=>?_,h⟩;simp[binOp,Op.shift,show ¬ n<0 by omega]
 ·obtain⟨a,h⟩:=h;refine⟨_,λw=>?_,h⟩;simp[binOp,Op.shift,show ¬ n<0 by omega]
 ·split at h;·exact h.elim
  ·rename_i e;simp only[gw]at e;subst e;split at h<;>first
    |exact h.elim
    |(obtain⟨a,h⟩:=h;exact⟨_,λw=>by simp[binOp,Op.intDiv,a],h⟩)
    |exact⟨_,λw=>by simp[binOp,Op.intArith,Op.intBits,Op.intCmp,dm,iY,ov,wq],h⟩
def Tl{op:BinOp}{t:cc}{s u:ByteArray}{f:bE->Prop}(h:p7 op s u f):
  ∃v,(∀w,(binOp op t (.string s) (.string u)).run P w=.ok v w)/\f v:=by
 unfold p7 at h;split at h
 ·obtain⟨a,h⟩:=h;refine⟨_,λw=>?_,h⟩;have:¬ ((s.size+u.size:Nat):Int)>i64.max:=by simp[IntKind.max,IntKind.bits,IntKind.signed];omega
  simp only[binOp,Op.stringOp,bJ this,Sem.run_pure]
 ·exact⟨_,λw=>by simp[binOp,Op.stringOp],h⟩
 ·exact⟨_,λw=>by simp[binOp,Op.stringOp],h⟩
 ·exact⟨_,λw=>by simp[binOp,Op.stringOp],h⟩
 ·exact h.elim
def Ai(a b:bE):Prop:=match a,b with | .nilIface,.nilIface=>False | .agg _,.agg _=>False|_,_=>True
def rM{op:BinOp}{t:cc}{x y:Operand}{a b:bE}(h:Ai a b):
  (eqGuard op t x y a b).run P w=.ok () w:=by
 unfold eqGuard;cases op<;>cases a<;>cases b<;>first|exact h.elim|simp
def GB{t:cc}(h:wu P t=true):P.underlying t=some .bool:=by
 unfold wu at h;split at h<;>simp_all
def Aj{t:cc}(h:pd P t=true):P.underlying t=some .string:=by
 unfold pd at h;split at h<;>simp_all
def GC{t:cc}(h:wv P t=true):∃e,P.underlying t=some (.pointer e):=by
 unfold wv at h;split at h<;>simp_all
def Ak{t:cc}(h:tL P t=true):∃e,P.underlying t=some (.slice e):=by
 unfold tL at h;split at h<;>simp_all
def aux{t:cc}(h:wx P t=true):∃e e',P.underlying t=some (.map e e'):=by
 unfold wx at h;split at h<;>simp_all
def rN{t:cc}{x y:bE}{b:Bool}(h:(Op.equalIn 10000 t x y).run P w=.ok b w):(Op.equal t x y).run P w=.ok b w:=h
def run_equal_bool{t:cc}{p q:Bool}(h:P.underlying t=some .bool):(Op.equal t (.bool p) (.bool q)).run P w=.ok (p==q) w:=by
 apply rN;rw[Op.equalIn];simp[hY h]
def GD{t e:cc}{p:ch}(h:P.underlying t=some (.pointer e)):(Op.equal t (.pointer p) (.pointer none)).run P w=.ok p.isNone w:=by
 apply rN;rw[Op.equalIn];cases p<;>simp[hY h]
def GF{t e:cc}{p:ch}{n c n' c':Nat}(h:P.underlying t=some (.slice e)):(Op.equal t (.slice p n c) (.slice none n' c')).run P w=.ok p.isNone w:=by
 apply rN;rw[Op.equalIn];cases p<;>simp[hY h]
def GG{t e e':cc}{r:bV Nat}(h:P.underlying t=some (.map e e')):(Op.equal t (.map r) (.map none)).run P w=.ok r.isNone w:=by
 apply rN;rw[Op.equalIn];cases r<;>simp[hY h]
def wz{op:BinOp}{t:cc}{x y:bE}{f:bE->Prop}(h:wy P op t x y f):
  (∀c d w,(eqGuard op t c d x y).run P w=.ok () w)/\∃v,(∀w,(binOp op t x y).run P w=.ok v w)/\f v:=by
 unfold wy at h;split at h;·obtain⟨b,⟨h1,h2⟩,a⟩:=h;exact⟨h1,_,h2,a⟩
 ·obtain⟨b,⟨h1,h2⟩,a⟩:=h;exact⟨h1,_,h2,a⟩
 ·exact h.elim
def Tm{op:BinOp}{t:cc}{x y:bE}{f:bE->Prop}(h:tM P op t x y f):
  (∀a b w,(eqGuard op t a b x y).run P w=.ok () w)/\∃v,(∀w,(binOp op t x y).run P w=.ok v w)/\f v:=by
 cases x<;>cases y<;>try (exact wz h)
 case bool.bool p q=>
  refine⟨λ_ _ _=>rM trivial,?_⟩
  replace h:(match(generalizing:=false) wu P t,op with|true,.eql=>f (.bool (p==q))|true,.neq=>f (.bool (!(p==q)))|_,_=>False):=h
  split at h;·rename_i e;exact⟨_,λw=>by simp[binOp,run_equal_bool (GB e)],h⟩
  ·rename_i e;exact⟨_,λw=>by simp[binOp,run_equal_bool (GB e)],h⟩
  ·exact h.elim
 case int.int k m k' n=>exact⟨λ_ _ _=>rM trivial,Tk h⟩
 case string.string s u=>exact⟨λ_ _ _=>rM trivial,Tl h⟩
 case pointer.pointer p q=>
  cases q with
  |some q=>exact wz h
  |none=>
   refine⟨λ_ _ _=>rM trivial,?_⟩
   replace h:(match(generalizing:=false) wv P t,op with|true,.eql=>f (.bool p.isNone)|true,.neq=>f (.bool (!p.isNone))|_,_=>False):=h
   split at h;·rename_i e;obtain⟨_,e⟩:=GC e;exact⟨_,λw=>by simp[binOp,GD e],h⟩
   ·rename_i e;obtain⟨_,e⟩:=GC e;exact⟨_,λw=>by simp[binOp,GD e],h⟩
   ·exact h.elim
 case slice.slice p n c q n' c'=>
  cases q with
  |some q=>exact wz h
  |none=>
   refine⟨λ_ _ _=>rM trivial,?_⟩
   replace h:(match(generalizing:=false) tL P t,op with|true,.eql=>f (.bool p.isNone)|true,.neq=>f (.bool (!p.isNone))|_,_=>False):=h
   split at h;·rename_i e;obtain⟨_,e⟩:=Ak e;exact⟨_,λw=>by simp[binOp,GF e],h⟩
   ·rename_i e;obtain⟨_,e⟩:=Ak e;exact⟨_,λw=>by simp[binOp,GF e],h⟩
   ·exact h.elim
 case map.map r q=>
  cases q with
  |some q=>exact wz h
  |none=>
   refine⟨λ_ _ _=>rM trivial,?_⟩
   replace h:(match(generalizing:=false) wx P t,op with|true,.eql=>f (.bool r.isNone)|true,.neq=>f (.bool (!r.isNone))|_,_=>False):=h
   split at h;·rename_i e;obtain⟨_,_,e⟩:=aux e;exact⟨_,λw=>by simp[binOp,GG e],h⟩
   ·rename_i e;obtain⟨_,_,e⟩:=aux e;exact⟨_,λw=>by simp[binOp,GG e],h⟩
   ·exact h.elim
def Tn{op:UnOp}{x:bE}{f:bE->Prop}(h:z7 op x f):∃v,(∀w,(Op.unary op x).run P w=.ok v w)/\f v:=by
 unfold z7 at h;split at h;·exact⟨_,λw=>by simp[Op.unary],h⟩
 ·exact⟨_,λw=>by simp[Op.unary,Op.intArith],h⟩
 ·exact⟨_,λw=>by simp[Op.unary,Op.intBits,ow],h⟩
 ·exact h.elim
def To{o:Oper}{ev:Operand->bE}{x:Operand}{f:bE->Prop}(ho:o.op=.nilCheck x)(h:p4 (ev x) f):
  ∃v,(∀w,(execOp ev o).run P w=.ok (.value v) w)/\f v:=by
 unfold p4 at h;split at h
 ·rename_i p e;obtain⟨q,rfl,h⟩:=h;exact⟨_,λw=>by simp[execOp,ho,e],h⟩
 ·rename_i g fi ca e;exact⟨_,λw=>by simp[execOp,ho,e],h⟩
 ·exact h.elim
def Tq{s:cc}{i o:Nat}(h:p5 P s i=some o):∃fs fd n,P.underlying s=some (.struct fs)/\fs[i]?=some fd/\ix P fd.type=some (n+1)/\fd.offset=o:=by
 unfold p5 at h;split at h
 ·rename_i fs a;split at h
  ·rename_i fd b;split at h
   ·rename_i n c;exact⟨fs,fd,n,a,b,c,cR h⟩
   ·cases h
  ·cases h
 ·cases h
def Ts{s:cc}{x:bE}{i:Nat}{f:bE->Prop}(h:z2 P s x i f):∃v,(∀w,(Instr.fieldAt s x i).run P w=.ok v w)/\f v:=by
 unfold z2 at h;split at h
 ·rename_i a;split at h
  ·rename_i o e;obtain⟨fs,fd,n,b,c,d,rfl⟩:=Tq e;exact⟨_,λw=>by simp[Instr.fieldAt,hY b,c,Instr.sureAddr,fieldPlace,run_sizeOf d],h⟩
  ·exact h.elim
 ·exact h.elim
def Tt{k:K1}{t:cc}{x:bE}{f:bE->Prop}(h:pc P k t x w f):∃v,(∀w',Grow w w'->(Instr.loadAt t x).run P w'=.ok v w')/\f v:=by
 unfold pc at h;split at h
 ·obtain⟨v,h1,h2⟩:=Gx h;exact⟨v,λw' g=>by simp[Instr.loadAt,Instr.sureAddr,h1 w' g],h2⟩
 ·exact h.elim
def Tu{s d:cc}{x:bE}{w:bI}{f:bE->Prop}(a:(P.underlying s).isSome=true)(h:Ah P s d x w f):∃v,(∀w',Grow w w'->(convert s d x).run P w'=.ok v w')/\f v:=by
 obtain⟨b,a⟩:=kX.1 a;unfold Ah at h;split at h
 ·rename_i k k' n e;exact⟨_,λw _=>by simp[convert,hY a,hY e,Conv.intToInt],h⟩
 ·rename_i s e;exact⟨_,λw _=>by simp[convert,hY a,hY e],h⟩
 ·obtain⟨l,h1,h2⟩:=h;exact⟨_,h1,h2⟩
 ·exact h.elim
def Tv{t:cc}{x i:bE}{f:bE->Prop}(h:Aa P t x i f):∃v,(∀w,(Instr.index t x i).run P w=.ok v w)/\f v:=by
 unfold Aa at h;split at h
 ·rename_i s k i;split at h
  ·rename_i e;obtain⟨a,b,hb,h⟩:=h;exact⟨_,λw=>by simp[Instr.index,asIntOf,hY (Aj e),a,hb],h⟩
  ·exact h.elim
 ·exact h.elim
def GH{t:cc}{m:Nat}(h:ox P t=some m):∃e,P.underlying t=some (.slice e)/\ix P e=some m:=by
 unfold ox at h;split at h;·rename_i e he;exact⟨e,he,h⟩
 ·cases h
def wA{t:cc}{n m:Nat}(h:l7 P t=some (n,m)):∃e,P.underlying t=some (.array n e)/\ix P e=some m:=by
 unfold l7 at h;split at h
 ·rename_i n' e he;split at h
  ·rename_i a hm;injection h with h;injection h with h1 h2;subst h1;subst h2
   exact⟨e,he,hm⟩
  ·cases h
 ·cases h
def Tw{t:cc}{x i:bE}{f:bE->Prop}(h:Ab P t x i f):∃v,(∀w,(Instr.indexAt t x i).run P w=.ok v w)/\f v:=by
 unfold Ab at h;split at h
 ·rename_i p n c k i;split at h
  ·rename_i m e;obtain⟨e,b,d⟩:=GH e;obtain⟨a,rfl,hb,h⟩:=h;exact⟨_,λw=>by simp[Instr.indexAt,asIntOf,hY b,hb,run_sizeOf d],h⟩
  ·exact h.elim
 ·rename_i p k i;split at h
  ·rename_i n m e;obtain⟨e,b,d⟩:=wA e;obtain⟨a,rfl,hb,h⟩:=h;exact⟨_,λw=>by simp[Instr.indexAt,asIntOf,hY b,hb,run_sizeOf d,Instr.sureAddr],h⟩
  ·exact h.elim
 ·exact h.elim
def Tx{t:cc}{cs:cb bE}{off:Nat}{v:bE}(h:Ac P t cs off=some v):(part t cs off).run P w=.ok v w:=by
 unfold Ac at h;split at h
 ·rename_i n a b;injection h with h;subst h
  simp[part,tK a,run_sizeOf b]
 ·rename_i a;simp[part,tK a,h]
 ·cases h
def Ty{t:cc}{x:bE}{i:Nat}{f:bE->Prop}(h:Ad P t x i f):∃v,(∀w,(Instr.field t x i).run P w=.ok v w)/\f v:=by
 unfold Ad at h;split at h
 ·rename_i fs cs e;split at h
  ·rename_i fd a;split at h
   ·rename_i v b;exact⟨v,λw=>by simp[Instr.field,hY e,a,asAgg,Tx b],h⟩
   ·exact h.elim
  ·exact h.elim
 ·exact h.elim
def Tz{x:bE}{i:Nat}{f:bE->Prop}(h:Ae x i f):∃v,(∀w,(Instr.extract x i).run P w=.ok v w)/\f v:=by
 unfold Ae at h;split at h
 ·split at h;·rename_i v e;exact⟨v,λw=>by simp[Instr.extract,e],h⟩
  ·exact h.elim
 ·exact h.elim
def Am{s:Bool}{n m:Nat}{e d g:bV bE}{f:Nat->Nat->Nat->Prop}(h:tO n m e d g f):
  ∃l k c,(∀w,(Instr.sliceBounds s n m e d g).run P w=.ok (l,k,c) w)/\f l k c:=by
 have bound:∀(w:bI) (k:IntKind) (i:Int) (y:Nat) (code:BoundsCode),0<=i/\i<=y->(Instr.sliceBound (.int k i) y code).run P w=.ok i.toNat w:=by
  intro w k i y code hb;simp[Instr.sliceBound,asIntOf,hb]
 unfold tO at h;dsimp only at h;split at h
 ·split at h;·exact⟨_,_,_,λw=>by simp[Instr.sliceBounds],h⟩
  ·obtain⟨hb,h⟩:=h;exact⟨_,_,_,λw=>by simp[Instr.sliceBounds,bound _ _ _ _ _ hb],h⟩
  ·exact h.elim
 ·obtain⟨hb,h⟩:=h;split at h;·exact⟨_,_,_,λw=>by simp[Instr.sliceBounds,bound _ _ _ _ _ hb],h⟩
  ·obtain⟨a,h⟩:=h;exact⟨_,_,_,λw=>by simp[Instr.sliceBounds,bound _ _ _ _ _ hb,bound _ _ _ _ _ a],h⟩
  ·exact h.elim
 ·obtain⟨hb,b,h⟩:=h;split at h;·exact⟨_,_,_,λw=>by simp[Instr.sliceBounds,bound _ _ _ _ _ hb,bound _ _ _ _ _ b],h⟩
  ·obtain⟨a,h⟩:=h;exact⟨_,_,_,λw=>by simp[Instr.sliceBounds,bound _ _ _ _ _ hb,bound _ _ _ _ _ b,bound _ _ _ _ _ a],h⟩
  ·exact h.elim
 ·exact h.elim
def TA{t:cc}{x:bE}{i g j:bV bE}{f:bE->Prop}(h:Af P t x i g j f):
  ∃v,(∀w,(Instr.sliceAt t x i g j).run P w=.ok v w)/\f v:=by
 unfold Af at h;split at h
 ·rename_i p n c;split at h
  ·rename_i m e;obtain⟨e,b,d⟩:=GH e;obtain⟨l,k,c',hr,h⟩:=Am (P:=P) (s:=true) h;exact⟨_,λw=>by simp only[Instr.sliceAt,Instr.slice,Sem.run_bind,hY b,Result.andThen_ok,hr,run_sizeOf d,Sem.run_pure,gi],h⟩
  ·exact h.elim
 ·rename_i s;split at h
  ·rename_i e;obtain⟨l,k,c',hr,h⟩:=Am (P:=P) (s:=false) h;exact⟨_,λw=>by simp only[Instr.sliceAt,Instr.slice,Sem.run_bind,hY (Aj e),Result.andThen_ok,hr,Sem.run_pure,S5,l4,gR],h⟩
  ·exact h.elim
 ·rename_i a;split at h
  ·rename_i n m e;obtain⟨e,b,d⟩:=wA e;obtain⟨l,k,c',hr,h⟩:=Am (P:=P) (s:=false) h;exact⟨_,λw=>by simp only[Instr.sliceAt,Instr.sureAddr,Sem.run_bind,hY b,Result.andThen_ok,hr,run_sizeOf d,Sem.run_pure,nf],h⟩
  ·exact h.elim
 ·exact h.elim
def TB{b:Builtin}{ts:cb cc}{t:cc}{args:cb bE}{f:bE->Prop}(h:Ag P b ts args f):
  ∃v,(∀cs w,(builtin b ts t cs args).run P w=.ok (.value v) w)/\f v:=by
 unfold Ag at h;split at h
 ·rename_i t0 d;obtain⟨args⟩:=args;unfold Gy at h;split at h
  ·split at h;·rename_i e;obtain⟨_,e⟩:=Ak e;exact⟨_,by intro cs w;simp_all[builtin,Builtin.len_,hY e,goInt],h⟩
   ·exact h.elim
  ·split at h;·rename_i e;exact⟨_,by intro cs w;simp_all[builtin,Builtin.len_,hY (Aj e),goInt],h⟩
   ·exact h.elim
  ·split at h
   ·rename_i c e;split at h;·rename_i n m a;obtain⟨_,a,_⟩:=wA a;exact⟨_,by intro cs w;simp_all[builtin,Builtin.len_,hY e,hY a,goInt],h⟩
    ·exact h.elim
   ·exact h.elim
  ·split at h;·rename_i e;obtain⟨_,e,_⟩:=wA e;exact⟨_,by intro cs w;simp_all[builtin,Builtin.len_,hY e,goInt],h⟩
   ·exact h.elim
  ·exact⟨_,by intro cs w;simp_all[builtin,Builtin.min_,Builtin.min2,min1],h⟩
  ·exact⟨_,by intro cs w;simp_all[builtin,Builtin.max_,Builtin.max2,eE],h⟩
  ·exact h.elim
 ·exact h.elim
def GI:∀(l:bA Field) (r:bA (Nat×Nat)),(l.mapM λf=>(ix P f.type).map λn=>(f.offset,n))=some r->
  (l.mapM λf=>(do pure (f.offset,<- sizeOf f.type):Sem (Nat×Nat))).run P w=.ok r w
 |[],r,h=>by simp at h;subst h;simp
 |f::l,r,h=>by
  rw[Gj]at h;cases a:ix P f.type with
  |none=>simp[a]at h
  |some n=>
   cases hl:l.mapM λf=>(ix P f.type).map λn=>(f.offset,n)with
   |none=>simp[a,hl]at h
   |some r'=>
    simp[a,hl]at h;subst h;have b:=GI l r' hl;simp only[Sem.run_bind,Sem.run_pure,Gj]at b ⊢;simp only[run_sizeOf a,Result.andThen_ok,b]
def TC{t:cc}{ps:cb (Nat×bE)}{f:bE->Prop}(h:tP P t ps f):∃v,(∀w,(Instr.build t ps).run P w=.ok v w)/\f v:=by
 unfold tP at h;split at h
 ·rename_i cs e;refine⟨_,λw=>?_,h⟩;unfold Gz at e;split at e
  ·rename_i z fs a hu;split at e
   ·rename_i l hl;have hm:=GI (w:=w) _ _ hl;simp only[Instr.build,Sem.run_bind,wo a,Result.andThen_ok,hY hu,Array.mapM_eq_mapM_toList,Sem.run_map,hm];simp[e]
   ·cases e
  ·rename_i z n el a hu;split at e
   ·rename_i m hm;simp[Instr.build,wo a,hY hu,run_sizeOf hm,e]
   ·cases e
  ·cases e
 ·exact h.elim
def tR{τ:cc->K1}{ρ:cc->Kd}{o:Oper}{ev:Operand->bE}{f:bE->Prop}(a:∀s d x,o.op=.convert s d x->(P.underlying s).isSome=true)(h:vQ P τ ρ o ev w f):
  ∃v,(∀w',(jz o.op=true->Grow w w')->(execOp ev o).run P w'=.ok (.value v) w')/\f v:=by
 unfold vQ at h;split at h;·rename_i x ho;exact⟨_,λw' _=>by simp[execOp,ho],h⟩
 ·rename_i x ho;exact⟨_,λw' _=>by simp[execOp,ho],h⟩
 ·rename_i c x y ho;obtain⟨v,h1,h2⟩:=Tj (P:=P) h;exact⟨v,λw' _=>by simpa[execOp,ho]using h1 w',h2⟩
 ·rename_i x ho;obtain⟨v,h1,h2⟩:=To (P:=P) ho h;exact⟨v,λw' _=>h1 w',h2⟩
 ·rename_i s x i ho;obtain⟨v,h1,h2⟩:=Ts h;exact⟨v,λw' _=>by simp[execOp,ho,h1],h2⟩
 ·rename_i t x ho;obtain⟨v,h1,h2⟩:=Tt h;exact⟨v,λw' g=>by simp[execOp,ho,h1 w' (g (by rw[ho];rfl))],h2⟩
 ·rename_i op t x y q ho;obtain⟨j,v,h1,h2⟩:=Tm h;exact⟨v,λw' _=>by simp[execOp,ho,j,h1],h2⟩
 ·rename_i op t x ho;obtain⟨v,h1,h2⟩:=Tn (P:=P) h;exact⟨v,λw' _=>by simp[execOp,ho,h1],h2⟩
 ·rename_i s d x ho;obtain⟨v,h1,h2⟩:=Tu (a s d x ho) h;exact⟨v,λw' g=>by simp[execOp,ho,h1 w' (g (by rw[ho];rfl))],h2⟩
 ·rename_i t x i ho;obtain⟨v,h1,h2⟩:=Tv h;exact⟨v,λw' _=>by simp[execOp,ho,h1],h2⟩
 ·rename_i t x i ho;obtain⟨v,h1,h2⟩:=Tw h;exact⟨v,λw' _=>by simp[execOp,ho,h1],h2⟩
 ·rename_i t x i ho;obtain⟨v,h1,h2⟩:=Ty h;exact⟨v,λw' _=>by simp[execOp,ho,h1],h2⟩
 ·rename_i t i ho;obtain⟨v,h1,h2⟩:=Tz (P:=P) h;exact⟨v,λw' _=>by simp[execOp,ho,h1],h2⟩
 ·rename_i t x n l p ho;obtain⟨v,h1,h2⟩:=TA h;exact⟨v,λw' _=>by simp[execOp,ho,h1],h2⟩
 ·rename_i t ps ho;obtain⟨v,h1,h2⟩:=TC h;exact⟨v,λw' _=>by simp[execOp,ho,h1],h2⟩
 ·rename_i t x ho;split at h
  ·rename_i e;refine⟨_,λw' _=>?_,h⟩;unfold GA at e;split at e;·cases e
   ·rename_i d hn hu;simp only[execOp,ho,Instr.makeInterface,Sem.run_bind,hY hu,Result.andThen_ok];cases d<;>first|rfl|exact(hn _ rfl).elim
   ·cases e
  ·exact h.elim
 ·rename_i t m k ok ho;obtain⟨v,h1,h2⟩:=Kd.eV h;exact⟨v,λw' g=>by simp[execOp,ho,h1 w' (g (by rw[ho];rfl))],h2⟩
 ·rename_i fn fi ca ho;exact⟨_,λw' _=>by simp[execOp,ho,Instr.makeFunc],h⟩
 ·rename_i b args ts ho;obtain⟨v,h1,h2⟩:=TB (t:=o.type) h;exact⟨v,λw' _=>by simp[execOp,ho,resolve,invoke,h1],h2⟩
 ·exact h.elim
end
end Go.Vc
namespace Go.Vc
open Go
def eR(w:bI)(a:Addr):Prop:=(∃v,w.cell? a=some v)/\w.frozen? a=false
def rO:bA bE->Addr->Nat->bI->(bf8)->Prop
 |[],_,_,w,f=>f w
 |v::l,a,i,w,f=>eR w (a.add i)/\rO l a (i+1) (w.setCell (a.add i) v) f
def rP(w:bI)(a:Addr)(i:Nat):bA bE->bI
 |[]=>w
 |v::l=>rP (w.setCell (a.add i) v) a (i+1) l
def tS(n:Nat)(k:IntKind)(v:bE)(a:Addr)(w:bI)(f:bf8):Prop:=
 ∃b:bS,v=.agg (b.map (Value.int k)).toArray/\b.length=n/\(∀i,i<n->eR w (a.add i))/\f (rP w a 0 (b.map (Value.int k)))
def St(a:Addr)(v:bE)(f:bf8)(w:bI):Prop:=eR w a/\f (w.setCell a v)
def kN(vs:bA bE)(a:Addr)(f:bf8)(w:bI):Prop:=rO vs a 0 w f
def rQ(P:cN)(k:K1)(t:cc)(x v:bE)(w:bI)(f:bf8):Prop:=
 match x with
 |.pointer (some a)=>match k with
  |.one _=>match ix P t with
   |some 1=>match v.oneCell' with
    |true=>St a v f w
    |false=>False
   |_=>False
  |.agg _=>match v with
   |.agg cs=>match ix P t with
    |some n=>bif n==cs.size&&cs.toList.all (·.oneCell')then kN cs.toList a f w else False
    |none=>False
   |_=>False
  |.arr n k=>match ix P t with
   |some m=>bif m==n then tS n k v a w f else False
   |none=>False
 |_=>False
def Al(o:Obj)(f:Addr->bf8)(w:bI):Prop:=f ⟨w.heap.size,0,none⟩ (w.alloc o)
def mL(f:Nat->bf8)(w:bI):Prop:=f w.heap.size (w.alloc (.map #[] 0))
def GJ(P:cN)(t:cc)(n:Nat)(ps:bA (Nat×bE)):bV (cc×cb bE):=
 match P.underlying t with
 |some (.slice e)=>match ix P e,pb P e with
  |some m,some z=>match decide (n*m<=2^24)&&(decide (0<n*m)||Nat.beq n 0),Instr.fill (λi=>some (i*m,m)) (((List.replicate n z.cells.toList).flatten).toArray) ps with
   |true,some cs=>bif m==z.cells.size then some (e,cs)else none
   |_,_=>none
  |_,_=>none
 |_=>none
def GK(P:cN)(t:cc)(n:Nat)(ps:cb (Nat×bE))(f:bf9)(w:bI):Prop:=
 match GJ P t n ps.toList with
 |some (e,cs)=>Al (.cells cs e) (λq=>f (.slice (some q) n n)) w
 |none=>False
def TD(P:cN)(g:bg5)(args:cb bE)(k:Kd)(w:bI)(f:bf9):Prop:=
 Calls P g args w λe w'=>k.ex λv=>e=.returned v/\f v w'
def TE(P:cN)(g:bg5)(args:cb bE)(k:Kd)(w:bI)(f:bf9)(p:bA PanicEntry->bf8):Prop:=
 Calls P g args w λe w'=>(k.ex λv=>e=.returned v/\f v w')\/∃a,e=.panicked a/\p a w'
def Ao(P:cN)(cx:bg5->Bool)(g:bE)(args:cb bE)(k:Kd)(w:bI)(f:bf9)(p:bA PanicEntry->bf8):Prop:=
 match g with
 |.func (.func g) fi ca=>match P.funcs[g]? with
  |some fn=>match fn.body.isSome&& !(fn.name== "runtime.NumGoroutine")with
   |true=>bif cx g then TE P g (fi++args++ca) k w f p else TD P g (fi++args++ca) k w f
   |false=>False
  |none=>False
 |_=>False
def kO(P:cN)(g:bg5):Bool:=match P.funcs[g]? with
 |some fn=>fn.body.isSome&& !(fn.name== "runtime.NumGoroutine")
 |none=>false
def e1(P:cN)(g:bE)(args:cb bE)(w:bI)(R:Ending->bf8):Prop:=
 ∃(h:bg5) (ca:cb bE),g=.func (.func h) #[] ca/\kO P h=true/\Calls P h (args++ca) w R
def GL(P:cN)(g:bE)(args:cb bE)(k:Kd)(w:bI)(f:bf9):Prop:=
 e1 P g args w λe w'=>k.ex λv=>e=.returned v/\f v w'
def dU(P:cN)(s:Sem bE)(k:Kd)(w:bI)(f:bf9):Prop:=k.ex λv=>∃w',s.run P w=.ok v w'/\f v w'
def TF(P:cN)(it:bE)(str:Bool)(t:cc)(w:bI)(f:bf9):Prop:=
 (∃w',(Instr.next it str t).run P w=.ok (.tuple #[.bool false]) w'/\f (.tuple #[.bool false]) w')\/
 (match str with
  |true=>∃k c:Int,∃w',(Instr.next it true t).run P w=.ok (.tuple #[.bool true,.int .i64 k,.int .i32 c]) w'/\f (.tuple #[.bool true,.int .i64 k,.int .i32 c]) w'
  |false=>∃k v:bE,∃w',(Instr.next it false t).run P w=.ok (.tuple #[.bool true,k,v]) w'/\f (.tuple #[.bool true,k,v]) w')
def oy(P:cN)(s:Sem Unit)(w:bI)(f:bf8):Prop:=∃w',s.run P w=.ok () w'/\f w'
structure dQ where
 quiet:Nat->Bool:=λ_=>false
 dyn:Nat->Bool:=λ_=>false
 Ap:Nat->bA K1:=λ_=>[.one .raw,.one .raw]
 calm:Nat->Bool:=λ_=>false
 sig:Nat->bV (bA (bA Nat)×bA Nat):=λ_=>none
 fork:Nat->Bool:=λ_=>false
 head:Nat->Nat:=λ_=>0
 loop:Nat->bA (Nat×C1):=λ_=>[]
 goto:Nat->bV (bA (Nat×C1)):=λ_=>none
 brk:bV Nat:=none
 join:Nat->bV (bA (Nat×C1)):=λ_=>none
def tT(A:dQ)(o:Oper):Bool:=match o.dst with|some d=>A.dyn d|none=>false
def TG:Op->Bool
 |.move _ | .assign _ | .pick .. | .nilCheck _ | .fieldAddr .. | .load .. | .unOp .. | .indexAddr .. | .field .. | .extract .. | .slice .. | .makeFunc .. | .build .. | .makeInterface .. | .lookup .. =>true
 |_=>false
def vE(P:cN)(τ:cc->K1)(ρ:cc->Kd)(cx:bg5->Bool)(A:dQ)(o:Oper)(ev:Operand->bE)(w:bI)(f:bf9)(p:bA PanicEntry->bf8):Prop:=
 match o.op with
 |.store t x v=>rQ P (τ t) t (ev x) (ev v) w (f undef)
 |.box t x=>Al (.cells (ev x).cells t) (λq=>f (.pointer (some q))) w
 |.alloc t=>match pb P t with
  |some z=>Al (.cells z.cells t) (λq=>f (.pointer (some q))) w
  |none=>False
 |.call {callee:=.value g,args,.. } =>bif tT A o then GL P (ev g) (args.map ev) (ρ o.type) w f else Ao P cx (ev g) (args.map ev) (ρ o.type) w f p
 |.call {callee:=.builtin .append,args,argTypes} =>dU P (Builtin.append_ argTypes o.type (args.map ev)) (ρ o.type) w f
 |.call {callee:=.builtin .copy,args,argTypes} =>dU P (Builtin.copy_ argTypes o.type (args.map ev)) (ρ o.type) w f
 |.call {callee:=.builtin .delete,args,argTypes} =>dU P (Builtin.delete_ argTypes o.type (args.map ev)) (ρ o.type) w f
 |.call {callee:=.builtin .clear,args,argTypes} =>dU P (Builtin.clear_ argTypes o.type (args.map ev)) (ρ o.type) w f
 |.call {callee:=.builtin .len,args,argTypes} =>dU P (Builtin.len_ argTypes o.type (args.map ev)) (ρ o.type) w f
 |.call {callee:=.builtin .cap,args,argTypes} =>dU P (Builtin.cap_ argTypes o.type (args.map ev)) (ρ o.type) w f
 |.buildSlice t n ps=>GK P t n (ps.map λ(i,x)=>(i,ev x)) f w
 |.makeSlice t l c=>dU P (Instr.makeSlice t (ev l) (ev c)) (ρ o.type) w f
 |.makeMap _ none=>mL (λq=>f (.map (some q))) w
 |.mapUpdate t m k x=>oy P (Instr.mapUpdate t (ev m) (ev k) (ev x)) w (f undef)
 |.insert t m k x=>oy P (Instr.mapUpdate t (ev m) (ev k) (ev x)) w (f undef)
 |.mapEntry t m k=>dU P (Instr.mapEntry t (ev m) (ev k)) (ρ o.type) w f
 |.entryStore t m s x=>oy P (Instr.entryStore t (ev m) (ev s) (ev x)) w (f undef)
 |.range t x=>dU P (Instr.range t (ev x)) (.k (.one .ptr)) w f
 |.next it s=>TF P (ev it) s o.type w f
 |.entry it=>match o.dst with
  |some d=>wm (A.Ap d) #[] λvs=>∃w',(Instr.entry (ev it)).run P w=.ok (.tuple vs) w'/\f (.tuple vs) w'
  |none=>False
 |.convert s d x=>dU P (convert s d (ev x)) (ρ o.type) w f
 |.index t x i=>dU P (Instr.index t (ev x) (ev i)) (ρ o.type) w f
 |.binOp op t x y _=>dU P (do eqGuard op t x y (ev x) (ev y);binOp op t (ev x) (ev y)) (ρ o.type) w f
 |.typeAssert x t u ok=>dU P (Instr.typeAssert (ev x) t u ok) (ρ o.type) w f
 |.panic x=>match ev x with
  |.iface t v=>p [{v:=.iface t v,recovered:=false}] w
  |_=>False
 |_=>False
def GM(A:dQ)(o:Oper):Bool:=TG o.op||(match o.dst with|some d=>A.quiet d|none=>false)
def ng(P:cN)(τ:cc->K1)(ρ:cc->Kd)(cx:bg5->Bool)(A:dQ)(o:Oper)(T:Tr)(w:bI)(next:Tr->bf8)(Q:Exit->Tr->bf8):Prop:=
 bif GM A o then vQ P τ ρ o T.ev w (λv=>next (T.put o.dst v) w)
 else vE P τ ρ cx A o T.ev w (λv w'=>next (T.put o.dst v) w') (λa w'=>Q (.panic a) T w')
def km(ops:cb Oper)(o:Oper)(T:Tr)(yes no:Tr->Prop):Prop:=
 match o.guard with
 |none=>yes T
 |some (j,want)=>match(ops[j]?).bind (·.dst)with
  |none=>False
  |some d=>match T.get d with
   |.bool b=>bif b then(bif want then yes (T.put (some d) (.bool true))else no (T.put (some d) (.bool true)))
     else(bif want then no (T.put (some d) (.bool false))else yes (T.put (some d) (.bool false)))
   |.tuple _=>no T
   |_=>False
def k4(P:cN)(τ:cc->K1)(ρ:cc->Kd)(cx:bg5->Bool)(A:dQ)(ops:cb Oper)(Q:Exit->Tr->bf8):bA Oper->Tr->bf8
 |[],T,w=>Q .normal T w
 |o::rest,T,w=>km ops o T (λT=>ng P τ ρ cx A o T w (k4 P τ ρ cx A ops Q rest) Q) (λT=>k4 P τ ρ cx A ops Q rest (T.put o.dst undef) w)
def tU(P:cN)(τ:cc->K1)(ρ:cc->Kd)(ops:cb Oper)(w:bI)(Q:Tr->Prop):bA Oper->Tr->Prop
 |[],T=>Q T
 |o::rest,T=>km ops o T (λT=>vQ P τ ρ o T.ev w (λv=>tU P τ ρ ops w Q rest (T.put o.dst v))) (λT=>tU P τ ρ ops w Q rest (T.put o.dst undef))
def TH(P:cN)(g:bg5)(args:cb bE)(k:Kd)(w:bI)(f:bE->Prop):Prop:=
 k.ex λv=>(∀a,Grow w a->Calls P g args a λe w2=>e=.returned v/\Grow a w2)/\f v
def GN(P:cN)(g:bE)(args:cb bE)(k:Kd)(w:bI)(f:bE->Prop):Prop:=
 match g with
 |.func (.func g) fi ca=>match kO P g with
  |true=>TH P g (fi++args++ca) k w f
  |false=>False
 |_=>False
def Aq(P:cN)(τ:cc->K1)(ρ:cc->Kd)(o:Oper)(ev:Operand->bE)(w:bI)(f:bE->Prop):Prop:=
 match o.op with
 |.call {callee:=.value g,args,.. } =>GN P (ev g) (args.map ev) (ρ o.type) w f
 |_=>vQ P τ ρ o ev w f
def oz(P:cN)(τ:cc->K1)(ρ:cc->Kd)(ops:cb Oper)(w:bI)(Q:Tr->Prop):bA Oper->Tr->Prop
 |[],T=>Q T
 |o::rest,T=>km ops o T (λT=>Aq P τ ρ o T.ev w (λv=>oz P τ ρ ops w Q rest (T.put o.dst v))) (λT=>oz P τ ρ ops w Q rest (T.put o.dst undef))
def GO(ops:cb Oper)(j:Nat)(sub:Nat->Nat):Nat:=match ops[j]? with
 |none=>0
 |some o=>o.after.toList.foldl (λs e=>bif Region.binds .any e then s ||| 2^e.on ||| sub e.on else s) 0
def mM(ops:cb Oper):Nat->Nat->Nat
 |0,_=>0
 |f+1,j=>GO ops j (mM ops f)
def p8(P:cN)(τ:cc->K1)(ρ:cc->Kd)(ops:cb Oper)(T:Tr)(w:bI)(next:Prop):bA Nat->Prop
 |[]=>next
 |j::l=>match ops[j]? with
  |none=>False
  |some o=>km ops o T (λT=>vQ P τ ρ o T.ev w λv=>v=(match o.dst with|some d=>T.get d|none=>v)/\p8 P τ ρ ops T w next l) (λT=>p8 P τ ρ ops T w next l)
def p9(Q:Exit->Tr->bf8):Exit->Tr->bf8
 |.panic a,_,w=>∀T:Tr,Q (.panic a) T w
 |_,_,_=>False
def rR:bA (bA Nat)->bA Nat->bA Nat
 |[],_=>[]
 |[]::C,s=>rR C s
 |(a::_)::C,s=>bif s.contains a then rR C s else a::rR C (a::s)
def kn(h:Nat):bA (bA Nat)->bA (bA Nat)
 |[]=>[]
 |[]::C=>kn h C
 |(a::r)::C=>bif Nat.beq a h then r::kn h C else kn h C
def qe(f:Nat->Prop):bA Nat->Prop
 |[]=>True
 |[i]=>f i
 |i::j::l=>f i/\qe f (j::l)
def gx(P:cN)(τ:cc->K1)(ρ:cc->Kd)(cx:bg5->Bool)(A:dQ)(ops:cb Oper)(cp:bA Nat)(Q:Exit->Tr->bf8):Nat->bA (bA Nat)->bA Nat->Tr->bf8
 |0,_,_,T,w=>Q .normal T w
 |n+1,C,done,T,w=>qe (λi=>match ops[i]? with
  |none=>False
  |some o=>bif cp.contains i
    then km ops o T (λT=>ng P τ ρ cx A o T w (λT' w'=>p8 P τ ρ ops T' w' (gx P τ ρ cx A ops cp Q n (kn i C) done T' w') (done.filter λj=> !(mM ops ops.size i).testBit j)) (p9 Q))
     (λT=>gx P τ ρ cx A ops cp Q n (kn i C) done (T.put o.dst undef) w)
    else km ops o T (λT=>vQ P τ ρ o T.ev w λv=>gx P τ ρ cx A ops cp Q n (kn i C) (bif jz o.op then i::done else done) (T.put o.dst v) w)
     (λT=>gx P τ ρ cx A ops cp Q n (kn i C) done (T.put o.dst undef) w)) (rR C [])
def Dr(f:bf8)(w:bI):Prop:=f w.drew
def Ar(f:bf8)(w:bI):Prop:=∀w',Grow w w'->f w'
def tV(f:Nat->Prop):bA Nat->Prop
 |[]=>True
 |i::l=>f i/\tV f l
def gS(P:cN)(τ:cc->K1)(ρ:cc->Kd)(cx:bg5->Bool)(A:dQ)(ops:cb Oper)(Q:Exit->Tr->bf8):Nat->cb Bool->Tr->bf8
 |0,listed,T,w=>match Region.ready .any ops listed with
  |[]=>Q .normal T w
  |_=>False
 |fuel+1,listed,T,w=>match Region.ready .any ops listed with
  |[]=>Q .normal T w
  |i::l=>tV (λi=>match ops[i]? with
   |none=>False
   |some o=>km ops o T (λT=>ng P τ ρ cx A o T w (gS P τ ρ cx A ops Q fuel (listed.setIfInBounds i true)) Q) (λT=>gS P τ ρ cx A ops Q fuel (listed.setIfInBounds i true) (T.put o.dst undef) w)) (i::l)
def tW(P:cN)(τ:cc->K1)(ρ:cc->Kd)(cx:bg5->Bool)(A:dQ)(id:Nat)(ops:cb Oper)(draw:Bool)(Q:Exit->Tr->bf8)(T:Tr)(w:bI):Prop:=
 match draw with
 |false=>k4 P τ ρ cx A ops Q ops.toList T w
 |true=>match A.sig id with
  |some (C,cp)=>Dr (λw'=>gx P τ ρ cx A ops cp Q ops.size C [] T w') w
  |none=>bif A.fork id then Dr (λw'=>gS P τ ρ cx A ops Q ops.size (Array.replicate ops.size false) T w') w
  else bif A.calm id then oz P τ ρ ops w (λT'=>Ar (λw'=>Q .normal T' w') w) ops.toList T
  else Dr (λw'=>tU P τ ρ ops w' (λT'=>k4 P τ ρ cx A ops Q (ops.toList.drop (A.head id)) T' w') (ops.toList.take (A.head id)) T) w
def eF(l:bA Oper):bA Nat:=l.filterMap (·.dst)
def wr:Code->bA Nat
 |.region _ ops _=>eF ops.toList
 |.seq x y=>wr x++wr y
 |.cond _ x y=>wr x++wr y
 |.block _ c=>wr c
 |.loop c=>wr c
 |.scope c=>wr c
 |.rangeFunc _ ps x y=>ps.toList++wr x++wr y
 |_=>[]
def l9:Code->bV Nat
 |.region id _ _=>some id
 |.seq x y=>(l9 x).or (l9 y)
 |.cond _ x y=>(l9 x).or (l9 y)
 |.block _ c=>l9 c
 |.loop c=>l9 c
 |.scope c=>l9 c
 |_=>none
def hO:bA (Nat×C1)->Type
 |[]=>bf8
 |(_,c)::l=>c.ty->hO l
def ie:bA (Nat×C1)->Type
 |[]=>bI->Nat
 |(_,c)::l=>c.ty->ie l
def nh:(l:bA (Nat×C1))->hO l->Tr->bf8
 |[],a,_,w=>a w
 |(s,c)::l,a,T,w=>match c.un (T.get s)with
  |some x=>nh l (a x) T w
  |none=>False
def rS:(l:bA (Nat×C1))->hO l->ie l->Nat->Tr->bf8
 |[],a,b,m,_,w=>a w/\b w<m
 |(s,c)::l,a,b,m,T,w=>match c.un (T.get s)with
  |some x=>rS l (a x) (b x) m T w
  |none=>False
def ni:(l:bA (Nat×C1))->hO l->ie l->Tr->(Tr->(bf8)->(bI->Nat)->Prop)->Prop
 |[],a,b,T,K=>K T a b
 |(s,c)::l,a,b,T,K=>∀x:c.ty,ni l (a x) (b x) (T.put (some s) (c.mk x)) K
def mN(W:bA Nat)(l:bA (Nat×C1)):bA Nat:=W.filter λs=> !(l.map (·.1)).contains s
noncomputable def mO(u:Nat->bE):bA Nat->Tr->Tr
 |[],T=>T
 |s::l,T=>mO u l (T.put (some s) (u s))
def wB(l:bA (Nat×C1))(W:bA Nat)(body:(Tr->bf8)->Tr->bf8)(T:Tr)(w:bI):Prop:=
 ∃(a:hO l) (d:ie l),nh l a T w/\∀u:Nat->bE,ni l a d (mO u (mN W l) T) λT' b c=>∀w',b w'->body (rS l a d (c w')) T' w'
def wC:(l:bA (Nat×C1))->ie l
 |[]=> λ_=>0
 |(_,_)::l=> λ_=>wC l
def TI(l:bA (Nat×C1))(W:bA Nat)(first:(Tr->bf8)->Tr->bf8)(rest:Tr->bf8)(T:Tr)(w:bI):Prop:=
 ∃J:hO l,first (nh l J) T w/\∀u:Nat->bE,ni l J (wC l) (mO u (mN W l) T) λT' a _=>∀w',a w'->rest T' w'
def tX(A:dQ)(y:Code):bV (bA (Nat×C1)):=match l9 y with
 |some r=>A.join r
 |none=>none
def mP(next:Tr->bf8)(Q:Exit->Tr->bf8):Exit->Tr->bf8
 |.normal,T,w=>next T w
 |e,T,w=>Q e T w
def TJ(id:Nat)(Q:Exit->Tr->bf8):Exit->Tr->bf8
 |.exit a,T,w=>bif Nat.beq a id then Q .normal T w else Q (.exit a) T w
 |e,T,w=>Q e T w
def As(Q:Exit->Tr->bf8):Exit->Tr->bf8
 |.goto _,_,_=>False
 |e,T,w=>Q e T w
def GP(l:Nat)(J:Tr->bf8)(Q:Exit->Tr->bf8):Exit->Tr->bf8
 |.goto l',T,w=>bif Nat.beq l' l then J T w else False
 |e,T,w=>Q e T w
def wD:Code->bV Nat
 |.label l=>some l
 |.seq x y=>(wD x).or (wD y)
 |_=>none
def GQ(l:bA (Nat×C1))(W:bA Nat)(first pass:(Tr->bf8)->Tr->bf8)(T:Tr)(w:bI):Prop:=
 ∃(a:hO l) (d:ie l),first (nh l a) T w/\∀u:Nat->bE,ni l a d (mO u (mN W l) T) λT' b c=>∀w',b w'->pass (rS l a d (c w')) T' w'
def vc(P:cN)(τ:cc->K1)(ρ:cc->Kd)(cx:bg5->Bool)(A:dQ):Nat->Code->(Exit->Tr->bf8)->Tr->bf8
 |0,_,_,_,_=>False
 |n+1,c,Q,T,w=>match c with
  |.skip=>Q .normal T w
  |.label _=>Q .normal T w
  |.exit id=>Q (.exit id) T w
  |.goto l=>Q (.goto l) T w
  |.ret=>Q .ret T w
  |.region id ops draw=>tW P τ ρ cx A id ops draw Q T w
  |.seq x y=>match tX A y with
   |none=>vc P τ ρ cx A n x (mP (vc P τ ρ cx A n y Q) Q) T w
   |some ks=>TI ks (wr x) (λJ=>vc P τ ρ cx A n x (mP J Q)) (vc P τ ρ cx A n y Q) T w
  |.cond c x y=>match T.ev c with
   |.bool t=>bif t then vc P τ ρ cx A n x Q T w else vc P τ ρ cx A n y Q T w
   |_=>False
  |.block id c=>vc P τ ρ cx A n c (TJ id Q) T w
  |.scope c=>match wD c with
   |none=>vc P τ ρ cx A n c (As Q) T w
   |some l=>match A.goto l with
    |none=>vc P τ ρ cx A n c (As Q) T w
    |some ks=>match findLabel c l with
     |some rest=>GQ ks (wr c) (λJ=>vc P τ ρ cx A n c (GP l J Q)) (λJ=>vc P τ ρ cx A n rest (GP l J Q)) T w
     |none=>False
  |.loop c=>wB (A.loop ((l9 c).getD 0)) (wr c) (λnext=>vc P τ ρ cx A n c (mP next Q)) T w
  |_=>False
section
variable{P:cN}
def TK{w:bI}{a b:Addr}{v:bE}(h:eR w a):eR (w.setCell b v) a:=by
 obtain⟨⟨x,hx⟩,hf⟩:=h;constructor
 ·unfold World.cell? at hx ⊢;unfold World.setCell;simp only[FP];cases d:w.heap[a.block]? with
  |none=>simp[d]at hx
  |some o=>
   simp only[d]at hx;by_cases e:b.block=a.block
   ·simp only[e,g3,gg];cases o with
    |cells c t fr=>
     simp only at hx ⊢;split at hx;·cases hx
     ·rename_i g;simp only[g,gR,l4];have f:a.off<c.size:=by
       rcases hN a.off c.size with h|h;·exact h
       ·simp[vV h]at hx
      split;·exact⟨x,hx⟩
      ·exact⟨_,oh (by simpa using f)⟩
    |_=>simp at hx
   ·simp only[e,gR];cases o with
    |cells c t fr=>exact⟨x,hx⟩
    |_=>simp at hx
 ·unfold World.frozen? at hf ⊢;unfold World.setCell;simp only[FP];cases d:w.heap[a.block]? with
  |none=>simp
  |some o=>
   simp only[d]at hf;by_cases e:b.block=a.block
   ·simp only[e,g3,gg];cases o<;>simp_all
   ·simp only[e,gR];cases o<;>simp_all
def Au{w:bI}{a:Addr}{v:bE}(b:v.oneCell'=true)(h:eR w a):(store a v).run P w=.ok () (w.setCell a v):=by
 obtain⟨⟨x,hx⟩,hf⟩:=h;rw[run_store P w a v .plain b];simp[hx,hf]
def GR:∀(l:bA bE) (a:Addr) (i:Nat) (w:bI) (f:bf8),l.all (·.oneCell')=true->rO l a i w f->
  ∃w',(storeCells a l i).run P w=.ok () w'/\f w'
 |[],_,_,w,_,_,h=>⟨w,rfl,h⟩
 |v::l,a,i,w,f,hl,⟨h1,h2⟩=>by
  simp only[y8,dy]at hl;obtain⟨w',b,c⟩:=GR l a (i+1) _ f hl.2 h2;exact⟨w',by simp[storeCells,Au hl.1 h1,b],c⟩
def GS:∀(l:bA bE) (a:Addr) (i:Nat) (w:bI),l.all (·.oneCell')=true->(∀j,i<=j->j<i+l.length->eR w (a.add j))->
  (storeCells a l i).run P w=.ok () (rP w a i l)
 |[],_,_,_,_,_=>rfl
 |v::l,a,i,w,hl,h=>by
  simp only[y8,dy]at hl;have h1:=h i (ek _) (by simp);have h2:=GS l a (i+1) (w.setCell (a.add i) v) hl.2 (λj b c=>TK (h j bu (by simp;omega)));simp[storeCells,Au hl.1 h1,h2,rP]
def TL{k:K1}{t:cc}{x v:bE}{w:bI}{f:bf8}(h:rQ P k t x v w f):
  ∃w',(Instr.storeAt t x v).run P w=.ok () w'/\f w':=by
 unfold rQ at h;split at h
 ·rename_i a;split at h
  ·split at h
   ·rename_i e;split at h
    ·rename_i c;obtain⟨h1,h2⟩:=h;have d:v.cells= #[v]:=by cases v<;>first|rfl|simp[Value.oneCell']at c
     exact⟨_,by simp[Instr.storeAt,Instr.sureAddr,storeVar,d,run_sizeOf e,storeCells,Addr.add,Au c h1],h2⟩
    ·exact h.elim
   ·exact h.elim
  ·split at h
   ·rename_i cs;split at h
    ·rename_i n e;cases hb:(n==cs.size&&cs.toList.all (·.oneCell'))with
     |false=>rw[hb,hh]at h;exact h.elim
     |true=>
      rw[hb,hH]at h;simp only[dy,tH]at hb;obtain⟨w',h1,h2⟩:=GR (P:=P) _ _ _ _ _ hb.2 h;refine⟨w',?_,h2⟩;have:¬ (Value.agg cs).cells.size≠n:=by simp[Value.cells,hb.1]
      simp only[Instr.storeAt,Instr.sureAddr,storeVar,Sem.run_bind,Sem.run_pure,Result.andThen_ok,run_sizeOf e];simp[Value.cells,hb.1,h1]
    ·exact h.elim
   ·exact h.elim
  ·split at h
   ·rename_i n k _ m e;cases hb:(m==n)with
    |false=>rw[hb,hh]at h;exact h.elim
    |true=>
     rw[hb,hH]at h;simp only[tH]at hb;subst hb;obtain⟨i,rfl,hl,b,hf⟩:=h;have:=GS (P:=P) (i.map (Value.int k)) a 0 w (by simp[Value.oneCell']) (λj _ g=>b j (by simp at g;omega));refine⟨_,?_,hf⟩;simp[Instr.storeAt,Instr.sureAddr,storeVar,Value.cells,run_sizeOf e,hl,this]
   ·exact h.elim
 ·exact h.elim
def TM{cx:bg5->Bool}{o:Oper}{a:Act}{w:bI}{g:Operand}{args:cb Operand}{ts:cb cc}{k:Kd}{f:bf9}{p:bA PanicEntry->bf8}{next:Act->bf8}{Q:Exit->Act->bf8}(ho:o.op=.call {callee:=.value g,args,argTypes:=ts})(h:Ao P cx (a.eval g) (args.map a.eval) k w f p)(hf:∀v w',f v w'->next (a.put o.dst v) w')(hp:∀d w',p d w'->Q (.panic d) a w'):o.wp P a w next Q:=by
 unfold Ao at h;split at h
 ·rename_i i fi ca q;split at h
  ·rename_i fn n;split at h
   ·rename_i hb;simp only[dy,ib,vX]at hb;obtain⟨l,m⟩:=hb;have hr:(execOp a.eval o).run P w=.ok (.enter i (fi++args.map a.eval++ca)) w:=by
     have c:¬ fn.body=none:=by intro hx;simp[hx]at l
     simp[execOp,ho,resolve,q,Deferred.ofValue,invoke,callFunc,n,m,c]
    unfold Oper.wp;rw[hr];show Calls P i (fi++args.map a.eval++ca) w _;cases b:cx i with
    |false=>
     rw[b,hh]at h;refine Calls.mono h λe w' he=>?_;obtain⟨v,rfl,j⟩:=Kd.eV he;exact hf _ _ j
    |true=>
     rw[b,hH]at h;refine Calls.mono h λe w' he=>?_;rcases he with he|⟨d,rfl,he⟩
     ·obtain⟨v,rfl,j⟩:=Kd.eV he;exact hf _ _ j
     ·exact hp _ _ he
   ·exact h.elim
  ·exact h.elim
 ·exact h.elim
def TN{o:Oper}{a:Act}{w:bI}{g:Operand}{args:cb Operand}{ts:cb cc}{k:Kd}{f:bf9}{next:Act->bf8}{Q:Exit->Act->bf8}(ho:o.op=.call {callee:=.value g,args,argTypes:=ts})(h:GL P (a.eval g) (args.map a.eval) k w f)(hf:∀v w',f v w'->next (a.put o.dst v) w'):o.wp P a w next Q:=by
 obtain⟨c,ca,l,hb,h⟩:=h;unfold kO at hb;split at hb
 ·rename_i fn j;simp only[dy,ib,vX]at hb;obtain⟨d,i⟩:=hb;have hr:(execOp a.eval o).run P w=.ok (.enter c (args.map a.eval++ca)) w:=by
   have b:¬ fn.body=none:=by intro hx;simp[hx]at d
   simp[execOp,ho,resolve,l,Deferred.ofValue,invoke,callFunc,j,i,b]
  unfold Oper.wp;rw[hr];show Calls P c (args.map a.eval++ca) w _;refine Calls.mono h λe w' he=>?_;obtain⟨v,rfl,m⟩:=Kd.eV he;exact hf _ _ m
 ·cases hb
def GU{s:Sem bE}{k:Kd}{w:bI}{f:bf9}(h:dU P s k w f):∃v w',s.run P w=.ok v w'/\f v w':=by
 obtain⟨v,w',h⟩:=Kd.eV h;exact⟨v,w',h⟩
def nj(z:bA bE)(n j:Nat)(h:j<n*z.length):((List.replicate n z).flatten)[j]?=z[j%z.length]? :=by
 induction n generalizing j with
 |zero=>simp at h
 |succ n c=>
  rw[oo,tw];by_cases b:j<z.length;·rw[eM b,mJ b]
  ·have a:z.length<=j:=S8 b;rw[fM a,c (j-z.length) (by rw[y9]at h;omega)];rw[<- Nat.mod_eq_sub_mod a]
def TO(z:cb bE)(n m:Nat)(hm:m=z.size)(d:0<n*m):(Array.range (n*m)).map (λi=>z[i%z.size]!)=((List.replicate n z.toList).flatten).toArray:=by
 subst hm;have c:0<z.size:=by
  rcases k2 z.size with h|h;·simp[h]at d
  ·exact h
 apply Array.ext_getElem?;intro j;by_cases a:j<n*z.size
 ·have:=nj z.toList n j (by simpa using a);simp only[List.getElem?_toArray,this];have b:j%z.size<z.size:=kM _ c;simp[a,b]
 ·have h1:((List.replicate n z.toList).flatten).length<=j:=by simp;omega
  simp only[List.getElem?_toArray,gQ h1];simp;omega
def TP{τ:cc->K1}{ρ:cc->Kd}{cx:bg5->Bool}{A:dQ}{o:Oper}{a:Act}{w:bI}{f:bf9}{p:bA PanicEntry->bf8}{next:Act->bf8}{Q:Exit->Act->bf8}(h:vE P τ ρ cx A o a.eval w f p)(hf:∀v w',f v w'->next (a.put o.dst v) w')(hp:∀C w',p C w'->Q (.panic C) a w'):
  o.wp P a w next Q:=by
 have val:∀ {s:Sem bE} {k:Kd},dU P s k w f->execOp a.eval o=(do pure (.value (<- s)))->o.wp P a w next Q:=by
  intro s k h e;obtain⟨v,w',h1,h2⟩:=GU h;unfold Oper.wp;rw[e];simp only[Sem.run_bind,h1,Result.andThen_ok,Sem.run_pure,Oper.upon_value];exact hf _ _ h2
 have i:∀ {b:Builtin} {args:cb Operand} {ts:cb cc} {k:Kd} {s:Sem bE},dU P s k w f->o.op=.call {callee:=.builtin b,args,argTypes:=ts} ->
   (∀cs,builtin b ts o.type cs (args.map a.eval)=(do pure (.value (<- s))))->o.wp P a w next Q:=by
  intro b args ts k s h ho e;obtain⟨v,w',h1,h2⟩:=GU h;unfold Oper.wp;have:(execOp a.eval o).run P w=.ok (.value v) w':=by
   simp[execOp,ho,resolve,invoke,e,h1]
  rw[this];exact hf _ _ h2
 have l:∀ {s:Sem Unit},oy P s w (f undef)->execOp a.eval o=(do s;pure .skip)->o.wp P a w next Q:=by
  intro s h e;obtain⟨w',h1,h2⟩:=h;unfold Oper.wp;rw[e];simp only[Sem.run_bind,h1,Result.andThen_ok,Sem.run_pure,Oper.upon_skip];exact hf _ _ h2
 unfold vE at h;split at h
 ·rename_i t x v ho;obtain⟨w',h1,h2⟩:=TL h;refine l (s:=Instr.storeAt t (a.eval x) (a.eval v)) ⟨w',h1,h2⟩ (by simp[execOp,ho])
 ·rename_i t x ho;unfold Oper.wp;have:(execOp a.eval o).run P w=.ok (.value (.pointer (some ⟨w.heap.size,0,none⟩))) (w.alloc (.cells (a.eval x).cells t)):=by
   simp[execOp,ho,Instr.box,newVar,newRow]
  rw[this];exact hf _ _ h
 ·rename_i t ho;split at h
  ·rename_i z B;unfold Oper.wp;have:(execOp a.eval o).run P w=.ok (.value (.pointer (some ⟨w.heap.size,0,none⟩))) (w.alloc (.cells z.cells t)):=by
    simp[execOp,ho,Instr.alloc,newVar,newRow,wo B]
   rw[this];exact hf _ _ h
  ·exact h.elim
 ·rename_i g args ts ho;cases q:tT A o with
  |true=>rw[q,hH]at h;exact TN ho h hf
  |false=>rw[q,hh]at h;exact TM ho h hf hp
 ·rename_i args ts ho;exact i h ho (λcs=>by simp[builtin])
 ·rename_i args ts ho;exact i h ho (λcs=>by simp[builtin])
 ·rename_i args ts ho;exact i h ho (λcs=>by simp[builtin])
 ·rename_i args ts ho;exact i h ho (λcs=>by simp[builtin])
 ·rename_i args ts ho;exact i h ho (λcs=>by simp[builtin])
 ·rename_i args ts ho;exact i h ho (λcs=>by simp[builtin])
 ·rename_i t n ps ho;unfold GK at h;split at h
  ·rename_i e cs d;unfold GJ at d;split at d
   ·rename_i e' hu;split at d
    ·rename_i m z hm B;split at d
     ·rename_i D q j;cases hb:(m==z.cells.size)with
      |false=>rw[hb,hh]at d;cases d
      |true=>
       rw[hb,hH]at d;injection d with d;injection d with h1 h2;subst h1;subst h2
       simp only[tH]at hb;simp only[dy,jI,gw]at q;unfold Oper.wp;have hr:(execOp a.eval o).run P w=.ok (.value (.slice (some ⟨w.heap.size,0,none⟩) n n)) (w.alloc (.cells D e')):=by
        have hle:¬ n*m>2^24:=by omega
        simp only[execOp,ho,Instr.buildSlice,Sem.run_bind,hY hu,Result.andThen_ok,run_sizeOf hm,bJ hle,Sem.run_pure];rcases q.2 with y|r
        ·have u:=TO z.cells n m hb y;simp only[bJ (Nat.ne_of_gt y),Sem.run_bind,wo B,Result.andThen_ok,Sem.run_pure,u,j];simp[newRow]
        ·have r:n=0:=m9 r;subst r;have E:Array.range 0= #[]:=rfl;simp only[FV,y2,Array.toList_map]at j;simp[newRow,E,j]
       rw[hr];exact hf _ _ h
     ·cases d
    ·cases d
   ·cases d
  ·exact h.elim
 ·rename_i ho;exact val h (by simp[execOp,ho])
 ·rename_i ho;unfold Oper.wp;have hr:(execOp a.eval o).run P w=.ok (.value (.map (some w.heap.size))) (w.alloc (.map #[] 0)):=by simp[execOp,ho,Instr.makeMap]
  rw[hr];exact hf _ _ h
 ·rename_i ho;exact l h (by simp[execOp,ho])
 ·rename_i ho;exact l h (by simp[execOp,ho])
 ·rename_i ho;exact val h (by simp[execOp,ho])
 ·rename_i ho;exact l h (by simp[execOp,ho])
 ·rename_i ho;exact val h (by simp[execOp,ho])
 ·rename_i it s ho;have hx:∃v w',(Instr.next (a.eval it) s o.type).run P w=.ok v w'/\f v w':=by
   rcases h with⟨w',h1,h2⟩|h;·exact⟨_,w',h1,h2⟩
   ·cases s with
    |true=>obtain⟨k,c,w',h1,h2⟩:=h;exact⟨_,w',h1,h2⟩
    |false=>obtain⟨k,v,w',h1,h2⟩:=h;exact⟨_,w',h1,h2⟩
  obtain⟨v,w',h1,h2⟩:=hx;unfold Oper.wp;have hr:(execOp a.eval o).run P w=.ok (.value v) w':=by simp[execOp,ho,h1]
  rw[hr];exact hf _ _ h2
 ·rename_i it ho;split at h
  ·obtain⟨vs,w',h1,h2⟩:=zv _ _ _ h;unfold Oper.wp;have hr:(execOp a.eval o).run P w=.ok (.value (.tuple vs)) w':=by simp[execOp,ho,h1]
   rw[hr];exact hf _ _ h2
  ·exact h.elim
 ·rename_i ho;exact val h (by simp[execOp,ho])
 ·rename_i ho;exact val h (by simp[execOp,ho])
 ·rename_i ho;exact val h (by simp[execOp,ho])
 ·rename_i ho;exact val h (by simp[execOp,ho])
 ·rename_i x ho;split at h
  ·rename_i t v hx;unfold Oper.wp;have:(execOp a.eval o).run P w=.halt (.panic (.iface t v)) w:=by simp[execOp,ho,hx,Instr.panic]
   rw[this];exact hp _ _ h
  ·exact h.elim
 ·exact h.elim
end
end Go.Vc
namespace Go.Vc
open Go
section
variable{P:cN}{τ:cc->K1}{ρ:cc->Kd}{cx:bg5->Bool}{A:dQ}
structure Rel(N:Nat)(T:Tr)(a:Act):Prop where
 defers:a.defers= []
 size:a.tmps.size=N
 get:∀t,a.tmps.getD t undef=T.get t
def Rel.ev{N:Nat}{T:Tr}{a:Act}(h:Rel N T a):a.eval=T.ev:=by
 funext x;cases x with
 |tmp t=>exact h.get t
 |const v=>rfl
 |global g=>rfl
 |func f=>rfl
def Rel.at{N:Nat}{T:Tr}{a:Act}(h:Rel N T a){d:Nat}(c:d<N):a.tmps[d]?=some (T.get d):=by
 have b:d<a.tmps.size:=by rw[h.size];exact c
 rw[oh b,<- h.get d];simp[Array.getD,b]
def Rel.put{N:Nat}{T:Tr}{a:Act}(h:Rel N T a)(g:N<=8000){d:bV Nat}(c:∀t,d=some t->t<N)(v:bE):Rel N (T.put d v) (a.put d v):=by
 cases d with
 |none=>exact h
 |some d=>
  have b:=c d rfl;refine⟨h.defers,by simp[Act.put,h.size],λt=>?_⟩;rw[Tr.dK T d t v bu,<- h.get t];have f:d<a.tmps.size:=by rw[h.size];exact b
  simp only[Act.put,iU,oe];by_cases e:d=t;·subst e;simp[f]
  ·rw[bJ e,bJ (λe'=>e e'.symm)]
def Rel.same{N:Nat}{T T':Tr}{a:Act}(h:Rel N T a)(b:∀t,T'.get t=T.get t):Rel N T' a:=⟨h.defers,h.size,λt=>(h.get t).trans (b t).symm⟩
def Fr(W:bA Nat)(T T':Tr):Prop:=∀t,t∉W->T'.get t=T.get t
def Fr.refl(W:bA Nat)(T:Tr):Fr W T T:=λ_ _=>rfl
def Fr.trans{W:bA Nat}{a b c:Tr}(h:Fr W a b)(h':Fr W b c):Fr W a c:=λt d=>(h' t d).trans (h t d)
def Fr.mono{W c:bA Nat}{a b:Tr}(h:Fr W a b)(d:∀t,t∈W->t∈c):Fr c a b:=λt e=>h t (λh'=>e (d t h'))
def Fr.put(W:bA Nat)(T:Tr)(d:bV Nat)(v:bE)(h:∀t,d=some t->t∈W/\t<8000):Fr W T (T.put d v):=by
 cases d with
 |none=>exact .refl _ _
 |some d=>
  intro t a;rw[Tr.dK T d t v (h d rfl).2,bJ (λe=>a (by rw[e];exact(h d rfl).1))]
def g4(P:cN)(N:Nat)(l:bA Oper):Bool:=l.all λo=>(match o.op with
 |.convert s _ _=>(P.underlying s).isSome
 |_=>true)&&(match o.dst with|some d=>Nat.blt d N|none=>true)
def pf(l:bA (Nat×C1)):Prop:=∀x∈l,x.1<8000
def okW(c:Code):Bool:=(wr c).all λt=>Nat.blt t 8000
def tY{c:Code}(h:okW c=true):∀t∈wr c,t<8000:=λt a=>by simpa using fQ.1 h t a
def nk(l:bA (Nat×C1)):Bool:=l.all λx=>Nat.blt x.1 8000
def wE{l:bA (Nat×C1)}(h:nk l=true):pf l:=λx hx=>by simpa using fQ.1 h x hx
def adc{N:Nat}{l:bA Oper}(h:g4 P N l=true){o:Oper}(ho:o∈l):∀s d x,o.op=.convert s d x->(P.underlying s).isSome=true:=by
 intro s d x e;have:=fQ.1 h o ho;simp only[dy,e]at this;exact this.1
def ma{N:Nat}{l:bA Oper}(h:g4 P N l=true){o:Oper}(ho:o∈l):∀t,o.dst=some t->t<N:=by
 intro t e;have:=fQ.1 h o ho;simp only[dy,e]at this;simpa using this.2
def wF{N:Nat}{o:Oper}{l:bA Oper}(h:g4 P N (o::l)=true):g4 P N l=true:=by
 unfold g4 at h ⊢;rw[y8,dy]at h;exact h.2
def TQ(want:Bool):bE->Bool
 |.bool b=>b==want
 |_=>false
def TR{ops:cb Oper}{o:Oper}{a:Act}{j d:Nat}{want:Bool}{v:bE}(e:o.guard=some (j,want))(c:(ops[j]?).bind (·.dst)=some d)(hb:a.tmps[d]?=some v):
  Region.wanted o (yielded ops a.tmps)=TQ want v:=by
 unfold Region.wanted yielded;simp only[e,c,Ga,hb];cases v
 case bool b=>cases b<;>cases want<;>rfl
 all_goals rfl
def ph{N:Nat}{ops:cb Oper}{o:Oper}{T:Tr}{a:Act}{yes no:Tr->Prop}{B:Prop}(p:N<=8000)(l:g4 P N ops.toList=true)(hr:Rel N T a)(h:km ops o T yes no)(m:∀T',(∀t,T'.get t=T.get t)->yes T'->Region.wanted o (yielded ops a.tmps)=true->B)(hn:∀T',(∀t,T'.get t=T.get t)->no T'->Region.wanted o (yielded ops a.tmps)=false->B):B:=by
 unfold km at h;split at h
 ·rename_i i;exact m T (λ_=>rfl) h (by simp[Region.wanted,i])
 ·rename_i j want i;split at h;·exact h.elim
  ·rename_i d g;have f:d<N:=by
    cases k:ops[j]? with
    |none=>simp[k]at g
    |some oj=>
     have hm:oj∈ops.toList:=by rw[o2];exact mD k
     exact ma l hm d (by simpa[k]using g)
   have n:=hr.at f;have hw:=TR i g n;split at h
   ·rename_i b hb;rw[hb]at hw;have c:∀t,(T.put (some d) (.bool b)).get t=T.get t:=by
     intro t;rw[Tr.dK T d t _ (lI f p)];split;·rename_i e;subst e;exact hb.symm
     ·rfl
    cases b with
    |true=>
     rw[hH]at h;cases want with
     |true=>exact m _ c h hw
     |false=>exact hn _ c h hw
    |false=>
     rw[hh]at h;cases want with
     |true=>exact hn _ c h hw
     |false=>exact m _ c h hw
   ·rename_i vs hb;rw[hb]at hw;exact hn T (λ_=>rfl) h hw
   ·exact h.elim
def wG{N:Nat}{o:Oper}{T:Tr}{a:Act}{w:bI}{next:Tr->bf8}{next':Act->bf8}{Q:Exit->Tr->bf8}{Q':Exit->Act->bf8}(hr:Rel N T a)(e:∀s d x,o.op=.convert s d x->(P.underlying s).isSome=true)(h:ng P τ ρ cx A o T w next Q)(hn:∀v w',next (T.put o.dst v) w'->next' (a.put o.dst v) w')(hp:∀b w',Q (.panic b) T w'->Q' (.panic b) a w'):o.wp P a w next' Q':=by
 unfold ng at h;cases c:GM A o with
 |true=>
  rw[c,hH]at h;rw[<- hr.ev]at h;obtain⟨v,h1,h2⟩:=tR e h;unfold Oper.wp;rw[h1 w (λ_=>.refl w)];exact hn _ _ h2
 |false=>
  rw[c,hh]at h;rw[<- hr.ev]at h;exact TP h (λv w' f=>hn v w' f) hp
def nT(ops:cb Oper)(i j:Nat):Bool:=(mM ops ops.size j).testBit i
def eh(σ:bA Nat)(i:Nat):Nat:=σ.idxOf i
def wH(o:Oper)(t:Nat):Bool:=match o.dst with|some d=>Nat.beq d t|none=>false
def GV(ops:cb Oper)(σ:bA Nat)(i j:Nat):Bool:=
 (nT ops j i&&Nat.blt (eh σ j) (eh σ i))||(nT ops i j&&Nat.blt (eh σ i) (eh σ j))
def TT(ops:cb Oper)(σ:bA Nat):Bool:=
 (List.range ops.size).all λi=>match ops[i]? with
  |none=>false
  |some o=>(o.looksAt ops).all λt=>(List.range ops.size).all λj=>match ops[j]? with
   |none=>false
   |some oj=> !wH oj t||GV ops σ i j
def TU(ops:cb Oper)(C:bA (bA Nat))(σ cp:bA Nat):Bool:=
 cp.all λe=>(List.range ops.size).all λi=> !Nat.blt (eh σ e) (eh σ i)||nT ops e i||(List.range ops.size).any (λj=>nT ops j i&&Nat.ble (eh σ e) (eh σ j))||(cp.contains i&&C.any λc=>c.take (eh σ e+1)==σ.take (eh σ e)++[i])
def TV(ops:cb Oper):Bool:=
 (List.range ops.size).all λi=>(List.range ops.size).all λj=>Nat.beq i j||(match(ops[i]?).bind (·.dst),(ops[j]?).bind (·.dst)with
  |some d,some a=> !Nat.beq d a
  |_,_=>true)
def TW(ops:cb Oper):Bool:=
 (List.range ops.size).all λi=>match ops[i]? with
  |none=>false
  |some o=>o.after.toList.all λe=> !Region.binds .any e||Nat.blt e.on i
def TX(ops:cb Oper)(σ cp:bA Nat):Bool:=
 (List.range ops.size).all λi=>match ops[i]? with
  |none=>false
  |some o=>cp.contains i|| !jz o.op||((o.looksAt ops).all λt=>(List.range ops.size).all λj=>match ops[j]? with
   |none=>false
   |some oj=> !wH oj t||(nT ops j i&&Nat.blt (eh σ j) (eh σ i)))
def qk(ops:cb Oper)(C:bA (bA Nat))(σ cp:bA Nat):Bool:=
 Region.noSelect ops&&(List.range ops.size).all (λi=>σ.contains i)&&σ.all (λi=>Nat.blt i ops.size)&&(List.range σ.length).all (λk=>Nat.beq (eh σ (σ.getD k 0)) k)&&
 TT ops σ&&TU ops C σ cp&&TV ops&&TW ops&&TX ops σ cp&&ops.toList.all (λo=> !jz o.op||o.dst.isSome)&&Nat.beq σ.length ops.size
def Av(ops:cb Oper)(C:bA (bA Nat))(cp:bA Nat):Bool:= !C.isEmpty&&C.all λσ=>qk ops C σ cp
def wI{ops:cb Oper}{L:Nat->Bool}(k:∀j o,L j=true->ops[j]?=some o->∀e∈o.after,Region.binds .any e=true->L e.on=true):
  ∀(f j:Nat),(∀o,ops[j]?=some o->∀e∈o.after,Region.binds .any e=true->L e.on=true)->∀i,(mM ops f j).testBit i=true->L i=true:=by
 intro f;induction f with
 |zero=>intro j _ i h;simp[mM]at h
 |succ f q=>
  intro j p i h;unfold mM GO at h;split at h;·simp at h
  ·rename_i o ho;have key:∀(l:bA Edge) (s:Nat),(∀e∈l,e∈o.after)->(s.testBit i=true->L i=true)->
     (l.foldl (λs e=>bif Region.binds .any e then s ||| 2^e.on ||| mM ops f e.on else s) s).testBit i=true->L i=true:=by
    intro l;induction l with
    |nil=>intro s _ c h;exact c h
    |cons e l n=>
     intro s hl c h;rw[Gd]at h;refine n _ (λe' b=>hl e' (fY _ b)) ?_ h;intro hb;cases a:Region.binds .any e with
     |false=>rw[a,hh]at hb;exact c hb
     |true=>
      rw[a,hH]at hb;simp only[Nat.testBit_or,jI]at hb;have d:L e.on=true:=p o ho e (hl e (fE ..)) a;rcases hb with(hb|hb)|hb;·exact c hb
      ·rw[rG]at hb;simp only[gw]at hb;rw[<- hb];exact d
      ·exact q e.on (λo' m e' b g=>k e.on o' d m e' b g) i hb
   exact key o.after.toList 0 (λe he=>by simpa using he) (by simp) h
def hZ(ops:cb Oper)(o:Oper)(a b:Act):Prop:=∀t∈o.looksAt ops,a.tmps[t]?=b.tmps[t]?
def hZ.exec{ops:cb Oper}{o:Oper}{a b:Act}(c:∀cs b,o.op≠ .select cs b)(h:hZ ops o a b):execOp a.eval o=execOp b.eval o:=by
 refine execOp_congr o c λx hx=>?_;cases x with
 |tmp t=>
  have:t∈o.looksAt ops:=mF _ (vZ.2 ⟨.tmp t,by simpa using hx,rfl⟩);have:=h t this;simp[Act.eval,iU,this]
 |const v=>rfl
 |global g=>rfl
 |func f=>rfl
def hZ.wanted{ops:cb Oper}{o:Oper}{a b:Act}(h:hZ ops o a b):Region.wanted o (yielded ops a.tmps)=Region.wanted o (yielded ops b.tmps):=by
 unfold Region.wanted;cases e:o.guard with
 |none=>rfl
 |some g=>
  obtain⟨j,want⟩:=g;dsimp only;have:yielded ops a.tmps j=yielded ops b.tmps j:=by
   unfold yielded;cases c:(ops[j]?).bind (·.dst)with
   |none=>rfl
   |some d=>
    have hm:d∈o.looksAt ops:=by
     unfold Oper.looksAt;rw[e];exact nO _ (by simp[c])
    simp only[Ga,h d hm]
  rw[this]
def TY{o:Oper}{a b:Act}{w:bI}{K g:Act->bf8}{Q Q':Exit->Act->bf8}(he:execOp a.eval o=execOp b.eval o)(h:o.wp P b w K Q)(hk:∀v w',K (b.put o.dst v) w'->g (a.put o.dst v) w')(hp:∀c w',Q (.panic c) b w'->Q' (.panic c) a w')(ho:LetsOut Q->LetsOut Q')(f:∀d w',¬ K ({b with defers:=d::b.defers}.put o.dst undef) w'):o.wp P a w g Q':=by
 unfold Oper.wp at h ⊢;rw[he];generalize (execOp b.eval o).run P w=r at h;cases r with
 |ok n i=>
  cases n<;>first
   |exact hk _ _ h
   |exact h.elim
   |skip
  ·exact Calls.mono h λe w' he=>by
    cases e with
    |returned v=>exact hk _ _ he
    |panicked c=>exact hp _ _ he
    |outgrown=>exact ho he
  ·exact(f _ _ h).elim
  ·exact Rows.mono h λv w' he=>hk _ _ he
 |halt x i=>
  cases x<;>first
   |exact hp _ _ h
   |exact h.elim
structure k5(ops:cb Oper)(σ cp:bA Nat):Prop where
 nm:Region.noSelect ops=true
 all:∀i,i<ops.size->i∈σ
 lt:∀i∈σ,i<ops.size
 pos:∀k i,σ[k]?=some i->eh σ i=k
 reads:∀i o,ops[i]?=some o->∀t∈o.looksAt ops,∀j oj,ops[j]?=some oj->oj.dst=some t->(nT ops j i=true/\eh σ j<eh σ i)\/(nT ops i j=true/\eh σ i<eh σ j)
 dst:∀(i j:Nat) (oi oj:Oper) (d:Nat),ops[i]?=some oi->ops[j]?=some oj->oi.dst=some d->oj.dst=some d->i=j
 tZ:∀i o,ops[i]?=some o->∀e∈o.after,Region.binds .any e=true->e.on<i
 rd:∀(i:Nat) (o:Oper),ops[i]?=some o->jz o.op=true->o.dst≠none
 len:σ.length=ops.size
 TZ:∀i o,ops[i]?=some o->i∉cp->jz o.op=true->∀t∈o.looksAt ops,∀j oj,ops[j]?=some oj->oj.dst=some t->nT ops j i=true/\eh σ j<eh σ i
def jh{ops:cb Oper}{i:Nat}{o:Oper}(h:ops[i]?=some o):i<ops.size:=by
 rcases hN i ops.size with h' | h';·exact h'
 ·simp[vV h']at h
def Aw(ops:cb Oper)(C:bA (bA Nat))(σ cp:bA Nat):Prop:=∀e∈cp,∀i,i<ops.size->eh σ e<eh σ i->(∃j,j<ops.size/\nT ops j i=true/\eh σ e<=eh σ j)\/i∈cp/\∃c∈C,c.take (eh σ e+1)=σ.take (eh σ e)++[i]
def T0{ops:cb Oper}{C:bA (bA Nat)}{σ cp:bA Nat}(h:qk ops C σ cp=true):k5 ops σ cp/\Aw ops C σ cp:=by
 unfold qk at h;simp only[dy]at h;obtain⟨⟨⟨⟨⟨⟨⟨⟨⟨⟨h1,h2⟩,x⟩,y⟩,z⟩,A⟩,B⟩,D⟩,E⟩,r⟩,s⟩:=h;have l:∀i,i<ops.size->i∈σ:=λi c=>by simpa using fQ.1 h2 i (gn.2 c)
 have g:∀i∈σ,i<ops.size:=λi c=>by simpa using fQ.1 x i c
 have p:∀k i,σ[k]?=some i->eh σ i=k:=by
  intro k i hk;have g:k<σ.length:=by
   rcases hN k σ.length with h|h;·exact h
   ·simp[gQ h]at hk
  have:=fQ.1 y k (gn.2 g);simpa[List.getD,hk]using this
 have w:∀(i:Nat) (o:Oper),ops[i]?=some o->jz o.op=true->o.dst≠none:=by
  intro i o ho hr hn;have hm:o∈ops.toList:=by rw[o2];exact mD ho
  have:=fQ.1 r o hm;simp[hr,hn]at this
 refine⟨⟨h1,l,g,p,?_,?_,?_,w,m9 s,?_⟩,?_⟩
 ·intro i o ho t q j oj f n;have a:=fQ.1 z i (gn.2 (jh ho));simp only[ho]at a;have b:=fQ.1 (fQ.1 a t q) j (gn.2 (jh f));simp only[f,wH,n,GV,jI,dy,ib]at b;rcases b with b|b|b;·simp at b
  ·exact .inl ⟨b.1,by simpa using b.2⟩
  ·exact .inr ⟨b.1,by simpa using b.2⟩
 ·intro i j oi oj d c m u v;have a:=fQ.1 (fQ.1 B i (gn.2 (jh c))) j (gn.2 (jh m));simp only[c,m,Ga,u,v,jI,ib]at a;rcases a with a|a;·simpa using a
  ·simp at a
 ·intro i o ho e he hb;have a:=fQ.1 D i (gn.2 (jh ho));simp only[ho]at a;have b:=fQ.1 a e (by simpa using he);simp only[jI,ib,hb]at b;rcases b with b|b;·cases b
  ·simpa using b
 ·intro i o ho c hr t q j oj f n;have a:=fQ.1 E i (gn.2 (jh ho));simp only[ho,jI,ib]at a;rcases a with(a|a)|a;·exact absurd (by simpa using a) c
  ·rw[hr]at a;cases a
  ·have b:=fQ.1 (fQ.1 a t q) j (gn.2 (jh f));simp only[f,wH,n,jI,ib,dy]at b;rcases b with b|b;·simp at b
   ·exact⟨b.1,by simpa using b.2⟩
 ·intro e he i c hp;have a:=fQ.1 (fQ.1 A e he) i (gn.2 c);simp only[jI,ib,dy,tA,tH,kZ]at a;rcases a with((a|a)|⟨j,m,a,b⟩)|⟨a,b⟩
  ·have:Nat.blt (eh σ e) (eh σ i)=true:=by simpa using hp
   rw[this]at a;cases a
  ·exact .inl ⟨e,g e (List.idxOf_lt_length_iff.1 (Gq hp (List.idxOf_lt_length_iff.2 (l i c)))),a,ek _⟩
  ·exact .inl ⟨j,gn.1 m,a,SX b⟩
  ·exact .inr ⟨a,b⟩
structure mb(ops:cb Oper)(N:Nat)(a0:Act)(M:Nat->Prop)(val:Nat->bE)(a:Act):Prop where
 defers:a.defers= []
 size:a.tmps.size=N
 put:∀j o t,ops[j]?=some o->o.dst=some t->M j->a.tmps[t]?=some (val j)
 dZ:∀t,(∀j o,ops[j]?=some o->o.dst=some t->¬ M j)->a.tmps[t]?=a0.tmps[t]?
def mb.add{ops:cb Oper}{σ cp:bA Nat}(r:k5 ops σ cp){N:Nat}(p:g4 P N ops.toList=true){a0 a:Act}{M:Nat->Prop}{val:Nat->bE}(h:mb ops N a0 M val a){i:Nat}{o:Oper}(ho:ops[i]?=some o)(s:¬ M i)(v:bE):
  mb ops N a0 (λj=>M j\/j=i) (λj=>if j=i then v else val j) (a.put o.dst v):=by
 have l:o∈ops.toList:=by rw[o2];exact mD ho
 have k:=ma p l;refine⟨?_,?_,?_,?_⟩;·cases o.dst<;>exact h.defers
 ·cases o.dst<;>simp[Act.put,h.size]
 ·intro j oj t b c g;by_cases e:j=i
  ·subst e;rw[ho]at b;injection b with b;subst b
   rw[bK rfl];have n:t<a.tmps.size:=by rw[h.size];exact k t c
   simp[Act.put,c,n]
  ·rw[bJ e];have m:M j:=g.resolve_right e;rw[<- h.put j oj t b c m];cases f:o.dst with
   |none=>rfl
   |some d=>
    have:d≠t:=λe'=>e (r.dst j i oj o t b ho c (by rw[f,e']));simp[Act.put,this]
 ·intro t q;rw[<- h.dZ t (λj oj b c g=>q j oj b c (.inl g))];cases f:o.dst with
  |none=>rfl
  |some d=>
   have:d≠t:=λe'=>q i o ho (by rw[f,e']) (.inr rfl);simp[Act.put,this]
def k6(P:cN)(ops:cb Oper)(σ:bA Nat)(a0:Act)(val:Nat->bE)(w:bI)(i:Nat):Prop:=
 ∀o,ops[i]?=some o->∀b:Act,(∀t∈o.looksAt ops,(∀j oj,ops[j]?=some oj->oj.dst=some t->eh σ j<eh σ i->b.tmps[t]?=some (val j))/\
   ((∀j oj,ops[j]?=some oj->oj.dst=some t->¬ eh σ j<eh σ i)->b.tmps[t]?=a0.tmps[t]?))->
  (Region.wanted o (yielded ops b.tmps)=true/\∀w',(jz o.op=true->w'=w)->(execOp b.eval o).run P w'=.ok (.value (val i)) w')\/
  (Region.wanted o (yielded ops b.tmps)=false/\val i=undef)
def GW{σ p rest:bA Nat}{i:Nat}(h:σ=p++i::rest):σ[p.length]?=some i:=by
 subst h;simp
def k5.lt_iff{ops:cb Oper}{σ cp:bA Nat}(c:k5 ops σ cp){p rest:bA Nat}{i:Nat}(h:σ=p++i::rest)(j:Nat)(g:j<ops.size):eh σ j<eh σ i↔j∈p:=by
 have f:eh σ i=p.length:=c.pos _ _ (GW h);rw[f];constructor
 ·intro d;obtain⟨k,hk,b⟩:=FX (c.all j g);have a:σ[k]?=some j:=by rw[dO hk,b]
  rw[c.pos k j a]at d;subst h;rw[eM d]at a;exact eI a
 ·intro e;obtain⟨k,hk,b⟩:=FX e;have a:σ[k]?=some j:=by subst h;rw[eM hk,dO hk,b]
  rw[c.pos k j a];exact hk
def GX{ops:cb Oper}{σ cp:bA Nat}(f:k5 ops σ cp){N:Nat}{a0 aT b:Act}{p rest:bA Nat}{val:Nat->bE}{i:Nat}{o:Oper}(k:ops[i]?=some o)(g:σ=p++i::rest)(e:mb ops N a0 (· ∈p) val aT)(hb:∀t∈o.looksAt ops,(∀j oj,ops[j]?=some oj->oj.dst=some t->eh σ j<eh σ i->b.tmps[t]?=some (val j))/\
   ((∀j oj,ops[j]?=some oj->oj.dst=some t->¬ eh σ j<eh σ i)->b.tmps[t]?=a0.tmps[t]?)):hZ ops o b aT:=by
 intro t h;obtain⟨h1,h2⟩:=hb t h;by_cases hw:∃j oj,ops[j]?=some oj/\oj.dst=some t/\eh σ j<eh σ i
 ·obtain⟨j,oj,a,d,c⟩:=hw;rw[h1 j oj a d c,e.put j oj t a d ((f.lt_iff g j (jh a)).1 c)]
 ·rw[h2 (λj oj a d c=>hw ⟨j,oj,a,d,c⟩),e.dZ t (λj oj a d hm=>hw ⟨j,oj,a,d,(f.lt_iff g j (jh a)).2 hm⟩)]
structure h0(P:cN)(ops:cb Oper)(σ cp:bA Nat)(N:Nat)(a0:Act)(p:bA Nat)(L:Nat->Bool)(val:Nat->bE)(a aT:Act)(T:Tr)(w:bI)(done:bA Nat):Prop where
 sub:∀j,L j=true->j∈p
 nn:∀e∈cp,e∈p->L e=true
 closed:∀j o,L j=true->ops[j]?=some o->∀e∈o.after,Region.binds .any e=true->L e.on=true
 at_:mb ops N a0 (λj=>L j=true) val a
 all:mb ops N a0 (· ∈p) val aT
 rel:Rel N T aT
 iG:∀i∈p,L i=false->k6 P ops σ a0 val w i
 ko:∀i∈p,i∉cp->(∀o,ops[i]?=some o->jz o.op=true->i∈done\/∀w',k6 P ops σ a0 val w' i)
def k6.ext{ops:cb Oper}{σ cp:bA Nat}(f:k5 ops σ cp){a0:Act}{val a:Nat->bE}{w:bI}{p rest:bA Nat}{k:Nat}(m:σ=p++k::rest){i:Nat}(c:i∈p)(l:∀j∈p,a j=val j)(h:k6 P ops σ a0 val w i):k6 P ops σ a0 a w i:=by
 intro o ho b hb;have e:eh σ i<eh σ k:=(f.lt_iff m i (jh ho)).2 c;have:=h o ho b (λt g=>⟨λj oj d n hp=>by
  rw[<- l j ((f.lt_iff m j (jh d)).1 (Gq hp e))];exact(hb t g).1 j oj d n hp,(hb t g).2⟩)
 rw[l i c];exact this
def GY{ops:cb Oper}{σ cp:bA Nat}(h:k5 ops σ cp){N:Nat}{a0 aT:Act}{p rest:bA Nat}{val:Nat->bE}{w:bI}{i:Nat}{o:Oper}(ho:ops[i]?=some o)(q:σ=p++i::rest)(d:mb ops N a0 (· ∈p) val aT){v:bE}(n:(Region.wanted o (yielded ops aT.tmps)=true/\∀w',(jz o.op=true->w'=w)->(execOp aT.eval o).run P w'=.ok (.value v) w')\/(Region.wanted o (yielded ops aT.tmps)=false/\v=undef)):
  k6 P ops σ a0 (λj=>if j=i then v else val j) w i:=by
 intro o' a b hb;rw[ho]at a;injection a with a;subst a
 have c:hZ ops o b aT:=GX h ho q d (λt k=>⟨λj oj m l hp=>by
  have h1:=(hb t k).1 j oj m l hp;have f:j≠i:=λe=>tE _ (e▸hp);simpa only[bJ f]using h1,(hb t k).2⟩)
 have g:∀cs b,o.op≠ .select cs b:=λcs b=>Region.noSelect_spec h.nm i o cs b ho;rw[c.wanted,c.exec g];simpa only[g3]using n
def h0.read{ops:cb Oper}{σ cp:bA Nat}(f:k5 ops σ cp){N:Nat}(F:N<=8000)(r:g4 P N ops.toList=true){a0:Act}{p rest:bA Nat}{L:Nat->Bool}{val:Nat->bE}{a aT:Act}{T:Tr}{w:bI}{done:bA Nat}{i:Nat}{o:Oper}(ho:ops[i]?=some o)(q:σ=p++i::rest)(B:i∉cp)(h:h0 P ops σ cp N a0 p L val a aT T w done){v:bE}{T':Tr}(y:∀t,T'.get t=T.get t)(H:(Region.wanted o (yielded ops aT.tmps)=true/\∀w',(jz o.op=true->w'=w)->(execOp aT.eval o).run P w'=.ok (.value v) w')\/(Region.wanted o (yielded ops aT.tmps)=false/\v=undef)){done':bA Nat}(z:∀j∈done,j∈done')(A:jz o.op=true->i∈done'\/(Region.wanted o (yielded ops aT.tmps)=false/\v=undef)):
  h0 P ops σ cp N a0 (p++[i]) L (λj=>if j=i then v else val j) a (aT.put o.dst v) (T'.put o.dst v) w done':=by
 have m:i∉p:=λhm=>by
  have:=(f.lt_iff q i (jh ho)).2 hm;exact tE _ this
 have s:o∈ops.toList:=by rw[o2];exact mD ho
 have E:L i=false:=by
  cases u:L i with
  |false=>rfl
  |true=>exact(m (h.sub i u)).elim
 have n:∀j∈p,(if j=i then v else val j)=val j:=λj c=>by
  have:j≠i:=λe=>m (e▸c);rw[bJ this]
 refine⟨λj c=>mF _ (h.sub j c),?_,h.closed,?_,?_,(h.rel.same y).put F (ma r s) v,?_,?_⟩
 ·intro e he b;rcases gH.1 b with b|b;·exact h.nn e he b
  ·simp only[ia]at b;subst b;exact(B he).elim
 ·refine⟨h.at_.defers,h.at_.size,λj oj t c l g=>?_,h.at_.dZ⟩;have C:j≠i:=λe=>by subst e;rw[E]at g;cases g
  rw[bJ C];exact h.at_.put j oj t c l g
 ·have:=mb.add f r h.all ho m v;refine⟨this.defers,this.size,λj oj t c l hm=>this.put j oj t c l ?_,λt G=>this.dZ t (λj oj c l hm=>G j oj c l ?_)⟩
  ·rcases gH.1 hm with hm|hm;·exact .inl hm
   ·exact .inr (by simpa using hm)
  ·rcases hm with hm|hm;·exact mF _ hm
   ·exact nO _ (by simp[hm])
 ·intro k hk x;rcases gH.1 hk with hk|hk;·exact k6.ext f q hk n (h.iG k hk x)
  ·simp only[ia]at hk;subst hk;exact GY f ho q h.all H
 ·intro k hk D o' d hr;rcases gH.1 hk with hk|hk
  ·rcases h.ko k hk D o' d hr with h1|h1;·exact .inl (z _ h1)
   ·exact .inr (λw'=>k6.ext f q hk n (h1 w'))
  ·simp only[ia]at hk;subst hk;rw[ho]at d;injection d with d;subst d
   rcases A hr with h1|h1;·exact .inl h1
   ·exact .inr (λw'=>GY f ho q h.all (.inr h1))
def wK{i:Nat}{r:bA Nat}:∀ {C:bA (bA Nat)},r∈kn i C↔i::r∈C
 |[]=>by simp[kn]
 |[]::C=>by rw[kn,wK (C:=C)];simp
 |(a::x)::C=>by
  rw[kn];cases h:Nat.beq a i with
  |true=>rw[hH,ew,wK (C:=C),ew,m9 h];simp
  |false=>
   have b:i≠a:=λe=>by rw[e,Nat.beq_refl]at h;cases h
   rw[hh,wK (C:=C),ew];simp[b]
def wL{i:Nat}{r:bA Nat}:∀ {C:bA (bA Nat)} {s:bA Nat},i::r∈C->i∈s\/i∈rR C s
 |[],_,h=>by cases h
 |[]::C,s,h=>by
  rcases ew.1 h with h|h;·cases h
  ·exact wL (C:=C) h
 |(a::x)::C,s,h=>by
  rw[rR];cases b:s.contains a with
  |true=>
   rw[hH];rcases ew.1 h with h|h;·cases h;exact .inl (by simpa using b)
   ·exact wL h
  |false=>
   rw[hh];rcases ew.1 h with h|h;·cases h;exact .inr (fE ..)
   ·rcases wL (s:=a::s) h with h|h
    ·rcases ew.1 h with h|h;·subst h;exact .inr (fE ..)
     ·exact .inl h
    ·exact .inr (fY _ h)
def GZ{f:Nat->Prop}{i:Nat}:∀ {l:bA Nat},qe f l->i∈l->f i
 |[],_,h=>by cases h
 |[a],h,c=>by rw[ia.1 c];exact h
 |a::b::l,h,c=>by
  rcases ew.1 c with e|c;·rw[e];exact h.1
  ·exact GZ (l:=b::l) h.2 c
def G0{ops:cb Oper}{cp:bA Nat}{Q:Exit->Tr->bf8}{n i:Nat}{o:Oper}{r:bA Nat}{C:bA (bA Nat)}{done:bA Nat}{T:Tr}{w:bI}(h:gx P τ ρ cx A ops cp Q (n+1) C done T w)(a:i::r∈C)(ho:ops[i]?=some o):
  bif cp.contains i
    then km ops o T (λT=>ng P τ ρ cx A o T w (λT' w'=>p8 P τ ρ ops T' w' (gx P τ ρ cx A ops cp Q n (kn i C) done T' w') (done.filter λj=> !(mM ops ops.size i).testBit j)) (p9 Q))
     (λT=>gx P τ ρ cx A ops cp Q n (kn i C) done (T.put o.dst undef) w)
    else km ops o T (λT=>vQ P τ ρ o T.ev w λv=>gx P τ ρ cx A ops cp Q n (kn i C) (bif jz o.op then i::done else done) (T.put o.dst v) w)
     (λT=>gx P τ ρ cx A ops cp Q n (kn i C) done (T.put o.dst undef) w):=by
 unfold gx at h;have:=GZ h ((wL (s:=[]) a).resolve_left (by simp));simp only[ho]at this;exact this
def mc(a:bA (bA Nat))(p:bA Nat)(C:bA (bA Nat)):Prop:=∀r,p++r∈a↔r∈C
def mc.step{a C:bA (bA Nat)}{p:bA Nat}(h:mc a p C)(i:Nat):mc a (p++[i]) (kn i C):=λr=>by
 rw[wK,<- h,dj];rfl
def h0.reads{ops:cb Oper}{q:bA (bA Nat)}{σ cp:bA Nat}(m:k5 ops σ cp)(n:σ∈q){N:Nat}(l:N<=8000)(b:g4 P N ops.toList=true){a0:Act}{L:Nat->Bool}{a:Act}{Q:Exit->Tr->bf8}{w:bI}{B:Prop}:
  ∀(rest p:bA Nat) (C:bA (bA Nat)) (val:Nat->bE) (aT:Act) (T:Tr) (done:bA Nat),σ=p++rest->mc q p C->h0 P ops σ cp N a0 p L val a aT T w done->gx P τ ρ cx A ops cp Q rest.length C done T w->
   (∀(d p':bA Nat) (u:bA (bA Nat)) (t:Nat->bE) (x:Act) (T':Tr) (done':bA Nat),σ=p'++d->mc q p' u->(∀i∈d.head?,i∈cp)->h0 P ops σ cp N a0 p' L t a x T' w done'->gx P τ ρ cx A ops cp Q d.length u done' T' w->B)->B
 |[],p,C,val,aT,T,done,c,k,h,e,hB=>hB [] p C val aT T done c k (by simp) h e
 |i::rest,p,C,val,aT,T,done,c,k,h,e,hB=>by
  by_cases g:i∈cp;·exact hB (i::rest) p C val aT T done c k (by simpa using g) h e
  ·have F:i<ops.size:=m.lt i (by rw[c];simp);have ho:ops[i]?=some ops[i]:=oh F;generalize ops[i]=o at ho;have s:o∈ops.toList:=by rw[o2];exact mD ho
   have e:=G0 e ((k _).1 (c▸n)) ho;have E:cp.contains i=false:=by simpa using g
   rw[E,hh]at e;refine ph (B:=B) l b h.rel e ?_ ?_
   ·intro D f z hw;rw[<- (h.rel.same f).ev]at z;obtain⟨v,h1,h2⟩:=tR (adc b s) z;have:=h.read m l b ho c g f (v:=v) (.inl ⟨hw,λw' y=>h1 w' (λhr=>by rw[y hr];exact .refl w)⟩)
     (done':=bif jz o.op then i::done else done) (λj r=>by cases jz o.op<;>simp[r]) (λhr=>.inl (by rw[hr];simp))
    exact h0.reads m n l b rest (p++[i]) _ _ _ _ _ (by rw[c];simp) (k.step i) this h2 hB
   ·intro D f hn hw;have:=h.read m l b ho c g f (v:=undef) (.inr ⟨hw,rfl⟩) (done':=done) (λj r=>r) (λ_=>.inr ⟨hw,rfl⟩);exact h0.reads m n l b rest (p++[i]) _ _ _ _ _ (by rw[c];simp) (k.step i) this hn hB
def k6.oA{ops:cb Oper}{p r r':bA Nat}{a0:Act}{val:Nat->bE}{w:bI}{i:Nat}(d:i∈p)(h:k6 P ops (p++r) a0 val w i):k6 P ops (p++r') a0 val w i:=by
 have a:∀j:Nat,eh (p++r) j<eh (p++r) i↔eh (p++r') j<eh (p++r') i:=by
  intro j;unfold eh;have:=List.idxOf_lt_length_of_mem d;rw[F5,F5,F5,F5,bK d,bK d];split;·exact l6
  ·omega
 intro o ho b hb;exact h o ho b λt f=>⟨λj oj e c hp=>(hb t f).1 j oj e c ((a j).1 hp),λhn=>(hb t f).2 λj oj e c hp=>hn j oj e c ((a j).2 hp)⟩
def h0.oA{ops:cb Oper}{p r r' cp:bA Nat}{N:Nat}{a0:Act}{L:Nat->Bool}{val:Nat->bE}{a aT:Act}{T:Tr}{w:bI}{done:bA Nat}(h:h0 P ops (p++r) cp N a0 p L val a aT T w done):h0 P ops (p++r') cp N a0 p L val a aT T w done:=
 ⟨h.sub,h.nn,h.closed,h.at_,h.all,h.rel,λi b hl=>(h.iG i b hl).oA b,λi b he o ho hr=>(h.ko i b he o ho hr).imp id λh w'=>(h w').oA b⟩
def h0.looks{ops:cb Oper}{σ cp:bA Nat}(l:k5 ops σ cp){N:Nat}{a0:Act}{p:bA Nat}{L:Nat->Bool}{val:Nat->bE}{a aT:Act}{T:Tr}{w:bI}{done:bA Nat}(h:h0 P ops σ cp N a0 p L val a aT T w done){i:Nat}{o:Oper}(ho:ops[i]?=some o)(q:L i=false)(g:∀e∈o.after,Region.binds .any e=true->L e.on=true):
  ∀t∈o.looksAt ops,(∀j oj,ops[j]?=some oj->oj.dst=some t->eh σ j<eh σ i->a.tmps[t]?=some (val j))/\
   ((∀j oj,ops[j]?=some oj->oj.dst=some t->¬ eh σ j<eh σ i)->a.tmps[t]?=a0.tmps[t]?):=by
 intro t m;have f:∀j,nT ops j i=true->L j=true:=λj c=>
  wI (L:=L) h.closed ops.size i (λo' b=>by rw[ho]at b;injection b with b;subst b;exact g) j c
 constructor
 ·intro j oj c d hp;rcases l.reads i o ho t m j oj c d with⟨h1,_⟩|⟨_,h2⟩
  ·exact h.at_.put j oj t c d (f j h1)
  ·exact absurd hp (Nat.lt_asymm h2)
 ·intro k;refine h.at_.dZ t (λj oj c d n=>?_);rcases l.reads i o ho t m j oj c d with⟨_,h2⟩|⟨h1,_⟩
  ·exact k j oj c d h2
  ·have:=wI (L:=L) h.closed ops.size j (λo' b e he hb=>h.closed j o' n b e he hb) i h1;rw[q]at this;cases this
def Ax{ops:cb Oper}{N:Nat}(n:N<=8000)(f:g4 P N ops.toList=true){T:Tr}{aT:Act}{w:bI}{next:Prop}(hr:Rel N T aT):∀(l:bA Nat),p8 P τ ρ ops T w next l->
  next/\∀j∈l,∀o,ops[j]?=some o->(Region.wanted o (yielded ops aT.tmps)=true/\∃v,(∀w',(jz o.op=true->Grow w w')->(execOp aT.eval o).run P w'=.ok (.value v) w')/\∀d,o.dst=some d->v=T.get d)\/Region.wanted o (yielded ops aT.tmps)=false
 |[],h=>⟨h,λ_ h=>by cases h⟩
 |j::l,h=>by
  unfold p8 at h;split at h;·exact h.elim
  ·rename_i o ho;have p:o∈ops.toList:=by rw[o2];exact mD ho
   refine ph (B:=next/\∀k∈j::l,∀o,ops[k]?=some o->(Region.wanted o (yielded ops aT.tmps)=true/\∃v,(∀w',(jz o.op=true->Grow w w')->(execOp aT.eval o).run P w'=.ok (.value v) w')/\∀d,o.dst=some d->v=T.get d)\/Region.wanted o (yielded ops aT.tmps)=false) n f hr h ?_ ?_
   ·intro t b s hw;rw[<- (hr.same b).ev]at s;obtain⟨v,h1,h2,u⟩:=tR (adc f p) s;obtain⟨hn,c⟩:=Ax n f (hr.same b) l u;refine⟨hn,λk hk o' a=>?_⟩;rcases ew.1 hk with hk|hk
    ·subst hk;rw[ho]at a;injection a with a;subst a
     refine .inl ⟨hw,v,h1,λd g=>?_⟩;rw[g]at h2;exact h2.trans (b d)
    ·rcases c k hk o' a with⟨e,q,i,m⟩|e;·exact .inl ⟨e,q,i,λd g=>(m d g).trans (b d)⟩
     ·exact .inr e
   ·intro t b hn hw;obtain⟨r,c⟩:=Ax n f (hr.same b) l hn;refine⟨r,λk hk o' a=>?_⟩;rcases ew.1 hk with hk|hk
    ·subst hk;rw[ho]at a;injection a with a;subst a
     exact .inr hw
    ·rcases c k hk o' a with⟨e,q,i,m⟩|e;·exact .inl ⟨e,q,i,λd g=>(m d g).trans (b d)⟩
     ·exact .inr e
def h0.effect{ops:cb Oper}{σ cp:bA Nat}(n:k5 ops σ cp){N:Nat}(al:N<=8000)(K:g4 P N ops.toList=true){a0:Act}{p rest:bA Nat}{L:Nat->Bool}{val:Nat->bE}{a aT:Act}{T I:Tr}{w w':bI}{done:bA Nat}{i:Nat}{o:Oper}(ho:ops[i]?=some o)(H:σ=p++i::rest)(ab:i∈cp)(h:h0 P ops σ cp N a0 p L val a aT T w done)(Z:∀t,I.get t=T.get t)(M:∀e∈o.after,Region.binds .any e=true->L e.on=true)(v:bE)(O:(w'=w)\/∀j∈done.filter (λj=> !(mM ops ops.size i).testBit j),∀oj,ops[j]?=some oj->
   (Region.wanted oj (yielded ops (aT.put o.dst v).tmps)=true/\∃u,(∀w2,(jz oj.op=true->Grow w' w2)->(execOp (aT.put o.dst v).eval oj).run P w2=.ok (.value u) w2)/\∀d,oj.dst=some d->u=(I.put o.dst v).get d)\/Region.wanted oj (yielded ops (aT.put o.dst v).tmps)=false)(S:∀(j:Nat) (oj:Oper),ops[j]?=some oj->jz oj.op=true->oj.dst≠none):
  h0 P ops σ cp N a0 (p++[i]) (λj=>L j||Nat.beq j i) (λj=>if j=i then v else val j) (a.put o.dst v) (aT.put o.dst v) (I.put o.dst v) w' done:=by
 have J:i∉p:=λhm=>tE _ ((n.lt_iff H i (jh ho)).2 hm);have U:o∈ops.toList:=by rw[o2];exact mD ho
 have ak:L i=false:=by
  cases Y:L i with
  |false=>rfl
  |true=>exact(J (h.sub i Y)).elim
 have A:∀j∈p,(if j=i then v else val j)=val j:=λj c=>by
  have:j≠i:=λe=>J (e▸c);rw[bJ this]
 have l:mb ops N a0 (· ∈p++[i]) (λj=>if j=i then v else val j) (aT.put o.dst v):=by
  have:=mb.add n K h.all ho J v;refine⟨this.defers,this.size,λj oj t c g hm=>this.put j oj t c g ?_,λt q=>this.dZ t (λj oj c g hm=>q j oj c g ?_)⟩
  ·rcases gH.1 hm with hm|hm;·exact .inl hm
   ·exact .inr (by simpa using hm)
  ·rcases hm with hm|hm;·exact mF _ hm
   ·exact nO _ (by simp[hm])
 have G:Rel N (I.put o.dst v) (aT.put o.dst v):=(h.rel.same Z).put al (ma K U) v;refine⟨?_,?_,?_,?_,l,G,?_,?_⟩
 ·intro j c;simp only[jI]at c;rcases c with c|c;·exact mF _ (h.sub j c)
  ·exact nO _ (by simpa using c)
 ·intro e he s;rcases gH.1 s with s|s;·simp[h.nn e he s]
  ·simp only[ia]at s;subst s;simp
 ·intro j oj c z e he hb;simp only[jI]at c ⊢;rcases c with c|c;·exact .inl (h.closed j oj c z e he hb)
  ·have:j=i:=by simpa using c
   subst this;rw[ho]at z;injection z with z;subst z
   exact .inl (M e he hb)
 ·have:=mb.add n K h.at_ ho (by rw[ak];simp) v;refine⟨this.defers,this.size,λj oj t c g hm=>this.put j oj t c g ?_,λt q=>this.dZ t (λj oj c g hm=>q j oj c g ?_)⟩
  ·simp only[jI]at hm;rcases hm with hm|hm;·exact .inl hm
   ·exact .inr (by simpa using hm)
  ·simp only[jI];rcases hm with hm|hm;·exact .inl hm
   ·exact .inr (by simp[hm])
 ·intro k hk r;simp only[FT]at r;have ad:k≠i:=λe=>by subst e;rw[j5]at r;simp at r
  have m:k∈p:=by
   rcases gH.1 hk with hk|hk;·exact hk
   ·exact(ad (by simpa using hk)).elim
  have hold:=k6.ext n H m A (h.iG k m r.1);rcases O with rfl|O;·exact hold
  ·intro ok f b hb;have am:=f;have y:k∉cp:=λhe=>by have:=h.nn k he m;rw[r.1]at this;cases this
   cases F:jz ok.op with
   |false=>
    rcases hold ok f b hb with⟨h1,h2⟩|h1;·exact .inl ⟨h1,λw2 _=>h2 w2 (λe=>by rw[F]at e;cases e)⟩
    ·exact .inr h1
   |true=>
    have W:=n.TZ k ok f y F;have V:eh σ k<eh σ i:=(n.lt_iff H k (jh f)).2 m;have B:∀t∈ok.looksAt ops,(∀j oj,ops[j]?=some oj->oj.dst=some t->eh σ j<eh σ k->(aT.put o.dst v).tmps[t]?=some ((λj=>if j=i then v else val j) j))/\
      ((∀j oj,ops[j]?=some oj->oj.dst=some t->¬ eh σ j<eh σ k)->(aT.put o.dst v).tmps[t]?=a0.tmps[t]?):=by
     intro t q;refine⟨λj oj c g hp=>l.put j oj t c g (mF _ ((n.lt_iff H j (jh c)).1 (Gq hp V))),λD=>l.dZ t (λj oj c g _=>D j oj c g (W t q j oj c g).2)⟩
    have R:hZ ops ok b (aT.put o.dst v):=by
     intro t q;by_cases hw:∃j oj,ops[j]?=some oj/\oj.dst=some t/\eh σ j<eh σ k
     ·obtain⟨j,oj,c,g,C⟩:=hw;rw[(hb t q).1 j oj c g C,(B t q).1 j oj c g C]
     ·have D:∀j oj,ops[j]?=some oj->oj.dst=some t->¬ eh σ j<eh σ k:=λj oj c g C=>hw ⟨j,oj,c,g,C⟩;rw[(hb t q).2 D,(B t q).2 D]
    have af:∀cs b,ok.op≠ .select cs b:=λcs b=>Region.noSelect_spec n.nm k ok cs b f;rw[R.wanted,R.exec af];rcases hold ok f (aT.put o.dst v) B with⟨h1,_⟩|h1
    ·have x:k∈done\/∀w2,k6 P ops σ a0 val w2 k:=h.ko k m y ok f F;rcases x with x|x
     ·have ae:(mM ops ops.size i).testBit k=false:=by
       cases aa:(mM ops ops.size i).testBit k with
       |false=>rfl
       |true=>
        have:=wI (L:=L) h.closed ops.size i (λo' E=>by rw[ho]at E;injection E with E;subst E;exact M) k aa;rw[r.1]at this;cases this
      rcases O k (gG.2 ⟨x,by rw[ae];rfl⟩) ok f with⟨_,u,h2,aj⟩|h2
      ·refine .inl ⟨h1,λw2 Q=>?_⟩;cases g:ok.dst with
       |none=>exact(S k ok f F g).elim
       |some d=>
        have ag:=aj d g;have ah:(I.put o.dst v).get d=(if k=i then v else val k):=by
         have ai:=l.put k ok d f g (mF _ m);have X:=G.get d;simp only[iU,ai,mI]at X;exact X.symm
        rw[h2 w2 (λ_=>by rw[Q rfl];exact .refl _),ag,ah]
      ·rw[h1]at h2;cases h2
     ·rcases k6.ext n H m A (x w') ok f (aT.put o.dst v) B with h2|h2;·exact .inl ⟨h2.1,λw2 Q=>h2.2 w2 (λ_=>Q rfl)⟩
      ·exact .inr h2
    ·exact .inr h1
 ·intro k hk y ok f hr;rcases gH.1 hk with hk|hk
  ·rcases h.ko k hk y ok f hr with h1|h1;·exact .inl h1
   ·exact .inr (λw2=>k6.ext n H hk A (h1 w2))
  ·simp only[ia]at hk;subst hk;exact(y ab).elim
def h0.me{ops:cb Oper}{σ cp:bA Nat}(r:k5 ops σ cp){N:Nat}(n:g4 P N ops.toList=true){a0:Act}{p:bA Nat}{L:Nat->Bool}{val:Nat->bE}{a aT:Act}{T:Tr}{w:bI}{done:bA Nat}{i:Nat}{o:Oper}(ho:ops[i]?=some o)(m:i∈p)(q:L i=false)(h:h0 P ops σ cp N a0 p L val a aT T w done)(g:∀e∈o.after,Region.binds .any e=true->L e.on=true):
  h0 P ops σ cp N a0 p (λj=>L j||Nat.beq j i) val (a.put o.dst (val i)) aT T w done:=by
 refine⟨?_,?_,?_,?_,h.all,h.rel,?_,h.ko⟩
 ·intro j b;simp only[jI]at b;rcases b with b|b;·exact h.sub j b
  ·have:j=i:=by simpa using b
   subst this;exact m
 ·intro e he l;simp[h.nn e he l]
 ·intro j oj b c e he hb;simp only[jI]at b ⊢;rcases b with b|b;·exact .inl (h.closed j oj b c e he hb)
  ·have:j=i:=by simpa using b
   subst this;rw[ho]at c;injection c with c;subst c
   exact .inl (g e he hb)
 ·have:=mb.add r n h.at_ ho (by rw[q];simp) (val i);refine⟨this.defers,this.size,λj oj t b f hm=>?_,λt s=>this.dZ t (λj oj b f hm=>s j oj b f ?_)⟩
  ·have h1:=this.put j oj t b f (by
    simp only[jI]at hm;rcases hm with hm|hm;·exact .inl hm
    ·exact .inr (by simpa using hm))
   by_cases e:j=i;·subst e;simpa using h1
   ·simpa only[bJ e]using h1
  ·simp only[jI];rcases hm with hm|hm;·exact .inl hm
   ·exact .inr (by simp[hm])
 ·intro k hk d;simp only[FT]at d;exact h.iG k hk d.1
def rT(n:Nat)(listed:cb Bool):Nat:=(List.range n).countP λi=> !listed.getD i true
def G1{p q:Nat->Bool}:∀(l:bA Nat),(∀x∈l,q x=true->p x=true)->(∃x∈l,p x=true/\q x=false)->l.countP q<l.countP p
 |[],_,⟨_,h,_⟩=>by cases h
 |x::l,c,⟨y,d,a,b⟩=>by
  have hle:l.countP q<=l.countP p:=by
   have:∀(l:bA Nat),(∀x∈l,q x=true->p x=true)->l.countP q<=l.countP p:=by
    intro l;induction l with
    |nil=>intro _;simp
    |cons z l i=>
     intro h;have h1:=i (λx hx=>h x (fY _ hx));have h2:=h z (fE ..);simp only[Gb];cases g:q z with
     |false=>simp;omega
     |true=>simp[h2 g];omega
   exact this l (λx hx=>c x (fY _ hx))
  simp only[Gb];rcases ew.1 d with e|d;·subst e;simp[a,b];omega
  ·have i:=G1 l (λx hx=>c x (fY _ hx)) ⟨y,d,a,b⟩;have h2:=c x (fE ..);cases f:q x with
   |false=>simp;omega
   |true=>simp[h2 f];omega
def mem_ready{ops:cb Oper}{listed:cb Bool}{i:Nat}(h:i∈Region.ready .any ops listed):
  ∃o,ops[i]?=some o/\listed.getD i true=false/\∀e∈o.after,Region.binds .any e=true->listed.getD e.on false=true:=by
 unfold Region.ready at h;obtain⟨b,a⟩:=gG.1 h;have b:=gn.1 b;rw[oh b]at a;simp only[dy,ib,gg,mI]at a;refine⟨ops[i],oh b,a.1,λe he hb=>?_⟩;have:=Array.all_eq_true'.1 a.2 e he;simpa[hb]using this
def T1{ops:cb Oper}{listed:cb Bool}{i:Nat}{o:Oper}(ho:ops[i]?=some o)(hl:listed.getD i true=false)(h:∀e∈o.after,Region.binds .any e=true->listed.getD e.on false=true):
  i∈Region.ready .any ops listed:=by
 unfold Region.ready;refine gG.2 ⟨gn.2 (jh ho),?_⟩;simp only[ho,gg,mI,dy,ib];refine⟨hl,Array.all_eq_true'.2 λe he=>?_⟩;cases hb:Region.binds .any e with
 |false=>simp
 |true=>simp[h e he hb]
def T2{ops:cb Oper}{σ cp:bA Nat}(c:k5 ops σ cp){listed:cb Bool}(d:listed.size=ops.size)(h:Region.ready .any ops listed= []):∀i,i<ops.size->listed.getD i false=true:=by
 intro i;induction i using Nat.strongRecOn with
 |_ i f=>
  intro a;cases hl:listed.getD i false with
  |true=>rfl
  |false=>
   have ho:ops[i]?=some ops[i]:=oh a;have b:listed.getD i true=false:=by
    have:i<listed.size:=by rw[d];exact a
    simp only[Array.getD,this,dif_pos]at hl ⊢;exact hl
   have:=T1 ho b (λe he hb=>f e.on (c.tZ i _ ho e he hb) (Gq (c.tZ i _ ho e he hb) a));rw[h]at this;cases this
def T3{listed:cb Bool}{n i j:Nat}(a:listed.size=n)(b:i<n):(listed.setIfInBounds i true).getD j false=(listed.getD j false||Nat.beq j i):=by
 simp only[iU,oe];by_cases e:i=j
 ·subst e;have:i<listed.size:=by rw[a];exact b
  simp[this]
 ·rw[bJ e];have:Nat.beq j i=false:=by rw[j5];simpa using λh=>e h.symm
  rw[this,o7]
def G2{a:Act}:∀(l:bA Nat) (T:Tr),(∀d∈l,d<8000)->∃T':Tr,(∀t,t∉l->T'.get t=T.get t)/\∀t∈l,T'.get t=a.tmps.getD t undef
 |[],T,_=>⟨T,λ_ _=>rfl,λ_ h=>by cases h⟩
 |d::l,T,c=>by
  obtain⟨f,h1,h2⟩:=G2 (a:=a) l T (λx hx=>c x (fY _ hx));refine⟨f.put (some d) (a.tmps.getD d undef),λt b=>?_,λt b=>?_⟩
  ·rw[Tr.dK _ _ _ _ (c d (by simp)),bJ (λe=>b (by rw[e];simp))];exact h1 t (λg=>b (fY _ g))
  ·rw[Tr.dK _ _ _ _ (c d (by simp))];by_cases e:t=d;·rw[bK e,e]
   ·rw[bJ e];rcases ew.1 b with h|h;·exact absurd h e
    ·exact h2 t h
def T4{ops:cb Oper}{N:Nat}(i:N<=8000)(f:g4 P N ops.toList=true){a0 a:Act}{c:Tr}(g:Rel N c a0){M:Nat->Prop}{val:Nat->bE}(h:mb ops N a0 M val a):∃T',Fr (eF ops.toList) c T'/\Rel N T' a:=by
 obtain⟨T',h1,h2⟩:=G2 (a:=a) (eF ops.toList) c (λd b=>by
  unfold eF at b;obtain⟨o,ho,he⟩:=vZ.1 b;exact lI (ma f ho d he) i)
 refine⟨T',h1,h.defers,h.size,λt=>?_⟩;by_cases e:t∈eF ops.toList;·exact(h2 t e).symm
 ·rw[h1 t e,<- g.get t];have:=h.dZ t (λj o ho b=>absurd (by
   unfold eF;exact vZ.2 ⟨o,by rw[o2];exact mD ho,b⟩) e)
  rw[iU,iU,this]
def T5{ops:cb Oper}{ae:bA (bA Nat)}{cp:bA Nat}(J:∀σ∈ae,k5 ops σ cp/\Aw ops ae σ cp){N:Nat}(K:N<=8000)(n:g4 P N ops.toList=true){a0:Act}{aD:Tr}(az:Rel N aD a0){Q:Exit->Tr->bf8}{Q':Exit->Act->bf8}(a2:∀T w a,Q .normal T w->Fr (eF ops.toList) aD T->Rel N T a->Q' .normal a w)(aW:∀ak T w a,Q (.panic ak) T w->Fr (eF ops.toList) aD T->Rel N T a->Q' (.panic ak) a w):
  ∀(fuel:Nat) (listed:cb Bool) (σ p rest:bA Nat) (C:bA (bA Nat)) (val:Nat->bE) (a aT:Act) (T:Tr) (w:bI) (done:bA Nat),listed.size=ops.size->rT ops.size listed<=fuel->σ∈ae->σ=p++rest->mc ae p C->(∀i∈rest.head?,i∈cp)->
   h0 P ops σ cp N a0 p (λj=>listed.getD j false) val a aT T w done->gx P τ ρ cx A ops cp Q rest.length C done T w->wpAny P .any ops Q' fuel listed a w:=by
 have fin:∀(listed:cb Bool) (σ p rest:bA Nat) (C:bA (bA Nat)) (val:Nat->bE) (a aT:Act) (T:Tr) (w:bI) (done:bA Nat),(∀i,i<ops.size->listed.getD i false=true)->σ∈ae->σ=p++rest->(∀i∈rest.head?,i∈cp)->
   h0 P ops σ cp N a0 p (λj=>listed.getD j false) val a aT T w done->gx P τ ρ cx A ops cp Q rest.length C done T w->Q' .normal a w:=by
  intro listed σ p rest C val a aT T w done hl g l m h z;have f:=(J σ g).1;have aq:rest= []:=by
   cases rest with
   |nil=>rfl
   |cons e r=>
    have he:e<ops.size:=f.lt e (by rw[l];simp);have aw:e∈p:=h.sub e (hl e he);exact(tE _ ((f.lt_iff l e he).2 aw)).elim
  subst aq;have hp:∀j,j<ops.size->j∈p:=λj D=>h.sub j (hl j D);have X:∀t:Nat,a.tmps[t]?=aT.tmps[t]? :=by
   intro t;by_cases hw:∃(j:Nat) (oj:Oper),ops[j]?=some oj/\oj.dst=some t
   ·obtain⟨j,oj,D,u⟩:=hw;rw[h.at_.put j oj t D u (hl j (jh D)),h.all.put j oj t D u (hp j (jh D))]
   ·rw[h.at_.dZ t (λj oj D u _=>hw ⟨j,oj,D,u⟩),h.all.dZ t (λj oj D u _=>hw ⟨j,oj,D,u⟩)]
  refine a2 T w a z ?_ ⟨h.at_.defers,h.at_.size,λt=>?_⟩
  ·intro t a3;have aS:∀(j:Nat) (oj:Oper),ops[j]?=some oj->oj.dst=some t->¬ j∈p:=λj oj D u _=>
    a3 (vZ.2 ⟨oj,by rw[o2];exact mD D,u⟩)
   rw[<- h.rel.get t,<- az.get t];simp only[iU,h.all.dZ t aS]
  ·rw[<- h.rel.get t];simp only[iU,X t]
 intro fuel;induction fuel with
 |zero=>
  intro listed σ p rest C val a aT T w done G hu g l al m h z;have hl:∀i,i<ops.size->listed.getD i false=true:=by
   intro i ag;have a1:rT ops.size listed=0:=by omega
   have:=List.countP_eq_zero.1 a1 i (gn.2 ag);have s:i<listed.size:=by rw[G];exact ag
   simp only[Array.getD,s,dif_pos]at this ⊢;simpa using this
  refine⟨?_,fin listed σ p rest C val a aT T w done hl g l m h z⟩;rw[List.eq_nil_iff_forall_not_mem];intro i ag;obtain⟨o,ho,F,_⟩:=mem_ready ag;have:=hl i (jh ho);have s:i<listed.size:=by rw[G];exact jh ho
  simp only[Array.getD,s,dif_pos]at this F;rw[this]at F;cases F
 |succ fuel aM=>
  intro listed σ p rest C val a aT T w done G hu g l al m h z;have f:=(J σ g).1;refine⟨λhr=>fin listed σ p rest C val a aT T w done (T2 f G hr) g l m h z,λi ag=>?_⟩;obtain⟨o,ho,F,y⟩:=mem_ready ag;have E:=jh ho;have s:i<listed.size:=by rw[G];exact E
  have V:listed.getD i false=false:=by
   simp only[Array.getD,s,dif_pos]at F ⊢;exact F
  have R:(listed.setIfInBounds i true).size=ops.size:=by simp[G]
  have ao:rT ops.size (listed.setIfInBounds i true)<=fuel:=by
   have:rT ops.size (listed.setIfInBounds i true)<rT ops.size listed:=by
    refine G1 _ (λx _ hx=>?_) ⟨i,gn.2 E,by simp[F],?_⟩
    ·simp only[ib,iU,oe]at hx ⊢;by_cases e:i=x;·subst e;simp[s]at hx
     ·rw[bJ e]at hx;exact hx
    ·simp[Array.getD,s]
   omega
  have am:(λj=>(listed.setIfInBounds i true).getD j false)= λj=>listed.getD j false||Nat.beq j i:=funext λj=>T3 G E;have q:=h.looks f ho V y;unfold wpOp;simp only[ho];by_cases Y:i∈p
  ·have Z:wpAny P .any ops Q' fuel (listed.setIfInBounds i true) (a.put o.dst (val i)) w:=by
    refine aM _ σ p rest C val _ aT T w done R ao g l al m ?_ z;rw[am];exact h0.me f n ho Y V h y
   rcases h.iG i Y V o ho a q with⟨h1,h2⟩|⟨h1,h2⟩
   ·rw[h1,bK rfl];refine .inl ?_;unfold Oper.wp;rw[h2 w (λ_=>rfl)];exact Z
   ·rw[h1,bJ bN,<- h2];exact Z
  ·
   obtain⟨ah,ab,H⟩:∃ah,p++i::ah∈ae/\i∈cp:=by
    cases rest with
    |nil=>
     have:=f.all i E;rw[l,hv]at this;exact(Y this).elim
    |cons e rest=>
     have H:e∈cp:=m e rfl;by_cases ay:i=e;·subst ay;exact⟨rest,l▸g,H⟩
     have av:e<ops.size:=f.lt e (by rw[l];simp);have aw:e∉p:=λhm=>tE _ ((f.lt_iff l e av).2 hm);have aV:eh σ e<eh σ i:=by
      have h1:¬ eh σ i<eh σ e:=λs=>Y ((f.lt_iff l i E).1 s);rcases F6 (eh σ e) (eh σ i)with h2|h2|h2;·exact h2
      ·obtain⟨k,hk,ax⟩:=FX (f.all i E);obtain⟨aZ,aR,an⟩:=FX (f.all e av);have af:=f.pos k i (by rw[dO hk,ax]);have aE:=f.pos aZ e (by rw[dO aR,an]);have:k=aZ:=by rw[<- af,<- aE,h2]
       subst this;exact(ay (ax.symm.trans an)).elim
      ·exact(h1 h2).elim
     rcases(J σ g).2 e H i E aV with⟨j,aQ,aN,hle⟩|⟨aO,c,aI,ar⟩
     ·have:=wI (L:=λj=>listed.getD j false) h.closed ops.size i (λo' aa=>by rw[ho]at aa;injection aa with aa;subst aa;exact y) j aN;exact absurd ((f.lt_iff l j aQ).2 (h.sub j this)) bu
     ·have aJ:eh σ e=p.length:=f.pos _ _ (GW l);rw[aJ,l,rC (ek _),gf]at ar;have:=fK (p.length+1) c;rw[ar,dj]at this;exact⟨c.drop (p.length+1),by rw[show p++i::c.drop (p.length+1)=c from this];exact aI,aO⟩
   have hn:rest.length=ah.length+1:=by
    have h1:=f.len;have h2:=(J _ ab).1.len;rw[l,dd]at h1;rw[dd,hM]at h2;omega
   subst l;have h:=h.oA (r':=i::ah);clear q;clear f;obtain⟨σ,l⟩:∃σ,σ=p++i::ah:=⟨_,rfl⟩
   rw[<- l]at h ab;have f:=(J σ ab).1;have q:=h.looks f ho V y;rw[hn]at z;clear m g;revert z;generalize ah=rest at*
   intro z;have g:=ab;have aP:i::rest∈C:=(al _).1 (l▸g)
   ·
    have O:o∈ops.toList:=by rw[o2];exact mD ho
    have aU:∀cs b,o.op≠ .select cs b:=λcs b=>Region.noSelect_spec f.nm i o cs b ho;have X:hZ ops o a aT:=GX f ho l h.all q;have z:=G0 z aP ho;have aI:cp.contains i=true:=by simpa using H
    rw[aI,hH]at z;have aB:σ=(p++[i])++rest:=by rw[l];simp
    rw[X.wanted];refine ph (B:=if Region.wanted o (yielded ops aT.tmps)=true then o.wp P a w (wpAny P .any ops Q' fuel (listed.setIfInBounds i true)) Q'\/(o.asks P a w/\LetsOut Q')else wpAny P .any ops Q' fuel (listed.setIfInBounds i true) (a.put o.dst undef) w) K n h.rel z ?_ ?_
    ·intro ai W a4 hw;rw[hw,bK rfl];refine .inl ?_;have ad:=h.rel.same W;have aY:o.wp P aT w (λb w'=>∃v,b=aT.put o.dst v/\p8 P τ ρ ops (ai.put o.dst v) w' (gx P τ ρ cx A ops cp Q rest.length (kn i C) done (ai.put o.dst v) w') (done.filter λj=> !(mM ops ops.size i).testBit j)) (λe _ w'=>p9 Q e ai w'):=
      wG ad (adc n O) a4 (λv w' hn=>⟨v,rfl,hn⟩) (λak w' hn=>hn)
     refine TY (X.exec aU) aY ?_ (λak w' hp=>let ⟨T',f',r'⟩:=T4 K n az h.at_;aW ak T' w' a (hp T') f' r') (λ⟨_,_,h⟩=>(h:False).elim) ?_
     ·rintro v w' ⟨S,aA,hn⟩;have aK:a.put o.dst v=a.put o.dst S:=by
       cases u:o.dst with
       |none=>rfl
       |some d=>
        rw[u]at aA;have au:=ma n O d u;have af:(aT.put (some d) v).tmps[d]?=some v:=by simp[Act.put,h.all.size,au]
        have aE:(aT.put (some d) S).tmps[d]?=some S:=by simp[Act.put,h.all.size,au]
        rw[aA,aE]at af;injection af with af
        rw[af]
      rw[aK];have ap:Rel N (ai.put o.dst S) (aT.put o.dst S):=ad.put K (ma n O) S;obtain⟨aL,aX⟩:=Ax K n ap _ hn;have M:=h.effect f K n ho l H W y S (w':=w') (.inr aX) f.rd;rw[<- am]at M;exact h0.reads f g K n rest (p++[i]) _ _ _ _ _ aB (al.step i) M aL (λI p' aC U aj T' done' h1 h2 aF aG aH=>aM _ σ p' I aC U _ aj T' w' done' R ao g h1 h2 aF aG aH)
     ·rintro d w' ⟨v,he,_⟩;have:=eJ Act.defers he;cases u:o.dst<;>simp[Act.put,u]at this
    ·intro ai W hn hw;rw[hw,bJ bN];have M:=h.effect f K n ho l H W y undef (w':=w) (.inl rfl) f.rd;rw[<- am]at M;exact h0.reads f g K n rest (p++[i]) _ _ _ _ _ aB (al.step i) M hn (λI p' aC U aj T' done' h1 h2 aF aG aH=>aM _ σ p' I aC U _ aj T' w done' R ao g h1 h2 aF aG aH)
def T6{ops:cb Oper}{b:bA (bA Nat)}{cp:bA Nat}{id:Nat}(hm:P.follows .mixedOrders=true){N:Nat}(p:N<=8000)(f:g4 P N ops.toList=true)(hB:Av ops b cp=true){Q:Exit->Tr->bf8}{Q':Exit->Act->bf8}{T:Tr}{a:Act}{w:bI}(hr:Rel N T a)(h:gx P τ ρ cx A ops cp Q ops.size b [] T w.drew)(D:∀T' w' a',Q .normal T' w'->Fr (eF ops.toList) T T'->Rel N T' a'->Q' .normal a' w')(q:∀m T' w' a',Q (.panic m) T' w'->Fr (eF ops.toList) T T'->Rel N T' a'->Q' (.panic m) a' w'):(Code.region id ops true).wp P Q' a w:=by
 unfold Av at hB;rw[dy]at hB;have e:∀σ∈b,k5 ops σ cp/\Aw ops b σ cp:=λσ E=>T0 (fQ.1 hB.2 σ E);obtain⟨σ,c⟩:∃σ,σ∈b:=by
  cases b with
  |nil=>simp at hB
  |cons a l=>exact⟨a,fE ..⟩
 have r:=(e σ c).1;refine wp_region_any hm ?_;have o:(λj=>(Array.replicate ops.size false).getD j false)= λ_=>false:=by
  funext j;simp only[iU,SW];split<;>rfl
 have s:h0 P ops σ cp N a [] (λj=>(Array.replicate ops.size false).getD j false) (λ_=>undef) a a T w.drew []:=by
  rw[o];have n:∀t:Nat,a.tmps[t]?=a.tmps[t]? :=λ_=>rfl;refine⟨λ_ h=>(by cases h),λ_ _ h=>(by cases h),λ_ _ h=>(by cases h),⟨hr.defers,hr.size,λ_ _ _ _ _ h=>(by cases h),λt _=>n t⟩,⟨hr.defers,hr.size,λ_ _ _ _ _ h=>(by cases h),λt _=>n t⟩,hr,λ_ h=>(by cases h),λ_ h=>(by cases h)⟩
 rw[<- r.len]at h;refine h0.reads r c p f σ [] b _ _ _ _ rfl (λ_=>l6) s h (λd p' u i k T' done' h1 h2 y z g=>?_);refine T5 e p f hr (λv w2 x g B C=>D v w2 x g B C) q ops.size _ σ p' d u i a k T' w.drew done' (by simp) ?_ c h1 h2 y z g;unfold rT;exact mK FQ (by simp)
def jK(P:cN)(N:Nat)(A:dQ):Code->Bool
 |.region id ops draw=>g4 P N ops.toList&&(!draw||(match A.sig id with|some (C,cp)=>Av ops C cp|none=>bif A.fork id then true else bif A.calm id then Region.lexB .any ops else bif A.head id==ops.size then Region.lexB .any ops else Region.lexTailB .any ops (A.head id)))
 |.seq x y=>jK P N A x&&jK P N A y&&(match tX A y with|some ks=>okW x&&nk ks|none=>true)
 |.cond _ x y=>jK P N A x&&jK P N A y
 |.block _ c=>jK P N A c
 |.loop c=>jK P N A c&&okW c&&nk (A.loop ((l9 c).getD 0))
 |.scope c=>jK P N A c&&okW c&&(match wD c with|some l=>(match A.goto l with|some ks=>nk ks|none=>true)|none=>true)
 |_=>true
def wM{N:Nat}(g:N<=8000){ops:cb Oper}(d:g4 P N ops.toList=true){Q:Exit->Tr->bf8}{Q':Exit->Act->bf8}:∀(l:bA Oper) (T:Tr) (a:Act) (w:bI),g4 P N l=true->Rel N T a->
  k4 P τ ρ cx A ops Q l T w->(∀e T' w' a',Q e T' w'->Fr (eF l) T T'->Rel N T' a'->Q' e a' w')->wpList P ops Q' l a w
 |[],T,a,w,_,hr,h,m=>m _ _ _ _ h (.refl _ _) hr
 |o::l,T,a,w,j,hr,h,m=>by
  have k:=wF j;have y:=adc j (fE (a:=o) (l:=l));have c:=ma j (fE (a:=o) (l:=l));have q:∀t,t∈eF l->t∈eF (o::l):=λt r=>by
   unfold eF at r ⊢;rw[FY];split<;>simp_all
  have i:∀t,o.dst=some t->t∈eF (o::l)/\t<8000:=λt r=>⟨by simp[eF,r],lI (c t r) g⟩
  refine ph (B:=wpList P ops Q' (o::l) a w) g d hr h ?_ ?_
  ·intro T' p z hw;unfold wpList;rw[hw,bK rfl];have b:=hr.same p;have f:Fr (eF (o::l)) T T':=λt _=>p t;refine .inl (wG b y z (λv w' h'=>?_) (λC w' x=>m _ _ _ _ x f b));exact wM g d l _ _ _ k (b.put g c v) h' (λe s w2 u he hf n=>m e s w2 u he ((f.trans (Fr.put _ _ _ _ i)).trans (hf.mono q)) n)
  ·intro T' p hn hw;unfold wpList;rw[hw,bJ bN];have b:=hr.same p;have f:Fr (eF (o::l)) T T':=λt _=>p t;exact wM g d l _ _ _ k (b.put g c undef) hn (λe s w2 u he hf n=>m e s w2 u he ((f.trans (Fr.put _ _ _ _ i)).trans (hf.mono q)) n)
def ua{N:Nat}(e:N<=8000){ops:cb Oper}(c:g4 P N ops.toList=true){w:bI}{Q:Tr->Prop}{Q':Act->Prop}:∀(l:bA Oper) (T:Tr) (a:Act),g4 P N l=true->Rel N T a->tU P τ ρ ops w Q l T->
  (∀T' a',Q T'->Fr (eF l) T T'->Rel N T' a'->Q' a')->wpStill P ops w Q' l a
 |[],T,a,_,hr,h,p=>p _ _ h (.refl _ _) hr
 |o::l,T,a,i,hr,h,p=>by
  have j:=wF i;have x:=adc i (fE (a:=o) (l:=l));have b:=ma i (fE (a:=o) (l:=l));have n:∀t,t∈eF l->t∈eF (o::l):=λt q=>by
   unfold eF at q ⊢;rw[FY];split<;>simp_all
  have g:∀t,o.dst=some t->t∈eF (o::l)/\t<8000:=λt q=>⟨by simp[eF,q],lI (b t q) e⟩
  refine ph (B:=wpStill P ops w Q' (o::l) a) e c hr h ?_ ?_
  ·intro T' m u hw;unfold wpStill;rw[hw,bK rfl];have d:=hr.same m;have f:Fr (eF (o::l)) T T':=λt _=>m t;rw[<- d.ev]at u;obtain⟨v,h1,h2⟩:=tR x u;unfold Oper.still;rw[h1 w (λ_=>.refl w)];exact⟨rfl,ua e c l _ _ j (d.put e b v) h2 (λr s he hf k=>p r s he ((f.trans (Fr.put _ _ _ _ g)).trans (hf.mono n)) k)⟩
  ·intro T' m hn hw;unfold wpStill;rw[hw,bJ bN];have d:=hr.same m;have f:Fr (eF (o::l)) T T':=λt _=>m t;exact ua e c l _ _ j (d.put e b undef) hn (λr s he hf k=>p r s he ((f.trans (Fr.put _ _ _ _ g)).trans (hf.mono n)) k)
def T7{o:Oper}{a:Act}{w:bI}{f:bE->Prop}(m:∀s d x,o.op=.convert s d x->(P.underlying s).isSome=true)(h:Aq P τ ρ o a.eval w f):
  ∃v,(∀w',Grow w w'->o.quietAt P a (Grow w) w' v)/\f v:=by
 unfold Aq at h;split at h
 ·rename_i g args ts ho;unfold GN at h;split at h
  ·rename_i l fi ca n;split at h
   ·rename_i hb;obtain⟨v,h1,h2⟩:=Kd.eV h;refine⟨v,λw' b=>?_,h2⟩;unfold kO at hb;split at hb
    ·rename_i fn k;simp only[dy,ib,vX]at hb;obtain⟨i,j⟩:=hb;have hr:(execOp a.eval o).run P w'=.ok (.enter l (fi++args.map a.eval++ca)) w':=by
      have c:¬ fn.body=none:=by intro hx;simp[hx]at i
      simp[execOp,ho,resolve,n,Deferred.ofValue,invoke,callFunc,k,j,c]
     unfold Oper.quietAt;rw[hr];exact⟨rfl,(h1 w' b).mono λe w2 he=>⟨he.1,b.trans he.2⟩⟩
    ·cases hb
   ·exact h.elim
  ·exact h.elim
 ·obtain⟨v,h1,h2⟩:=tR m h;refine⟨v,λw' b=>?_,h2⟩;unfold Oper.quietAt;rw[h1 w' (λ_=>b)];exact⟨rfl,rfl⟩
def Ay{N:Nat}(e:N<=8000){ops:cb Oper}(c:g4 P N ops.toList=true){w:bI}{Q:Tr->Prop}{Q':Act->Prop}:∀(l:bA Oper) (T:Tr) (a:Act),g4 P N l=true->Rel N T a->oz P τ ρ ops w Q l T->
  (∀T' a',Q T'->Fr (eF l) T T'->Rel N T' a'->Q' a')->wpQuiet P ops (Grow w) Q' l a
 |[],T,a,_,hr,h,p=>p _ _ h (.refl _ _) hr
 |o::l,T,a,i,hr,h,p=>by
  have j:=wF i;have x:=adc i (fE (a:=o) (l:=l));have b:=ma i (fE (a:=o) (l:=l));have n:∀t,t∈eF l->t∈eF (o::l):=λt q=>by
   unfold eF at q ⊢;rw[FY];split<;>simp_all
  have g:∀t,o.dst=some t->t∈eF (o::l)/\t<8000:=λt q=>⟨by simp[eF,q],lI (b t q) e⟩
  refine ph (B:=wpQuiet P ops (Grow w) Q' (o::l) a) e c hr h ?_ ?_
  ·intro T' m u hw;unfold wpQuiet;rw[hw,bK rfl];have d:=hr.same m;have f:Fr (eF (o::l)) T T':=λt _=>m t;rw[<- d.ev]at u;obtain⟨v,h1,h2⟩:=T7 x u;exact⟨v,h1,Ay e c l _ _ j (d.put e b v) h2 (λr s he hf k=>p r s he ((f.trans (Fr.put _ _ _ _ g)).trans (hf.mono n)) k)⟩
  ·intro T' m hn hw;unfold wpQuiet;rw[hw,bJ bN];have d:=hr.same m;have f:Fr (eF (o::l)) T T':=λt _=>m t;exact Ay e c l _ _ j (d.put e b undef) hn (λr s he hf k=>p r s he ((f.trans (Fr.put _ _ _ _ g)).trans (hf.mono n)) k)
def Az{f:Nat->Prop}:∀ {l:bA Nat},tV f l->∀i∈l,f i
 |[],_,_,h=>by cases h
 |_::_,h,i,a=>by
  rcases ew.1 a with rfl|a;·exact h.1
  ·exact Az h.2 i a
def AA{N:Nat}(g:N<=8000){ops:cb Oper}(b:g4 P N ops.toList=true){Q:Exit->Tr->bf8}{Q':Exit->Act->bf8}{p:Tr}(m:∀e T' w' a',Q e T' w'->Fr (eF ops.toList) p T'->Rel N T' a'->Q' e a' w'):
  ∀(fuel:Nat) (listed:cb Bool) (T:Tr) (a:Act) (w:bI),Fr (eF ops.toList) p T->Rel N T a->gS P τ ρ cx A ops Q fuel listed T w->wpAny P .any ops Q' fuel listed a w
 |0,listed,T,a,w,hf,hr,h=>by
  unfold gS at h;unfold wpAny;split at h;·next e=>exact⟨e,m _ _ _ _ h hf hr⟩
  ·exact h.elim
 |fuel+1,listed,T,a,w,hf,hr,h=>by
  unfold gS at h;unfold wpAny;split at h
  ·next e=>
   refine⟨λ_=>m _ _ _ _ h hf hr,λi j=>?_⟩;rw[e]at j;cases j
  ·next i0 C e=>
   refine⟨λr=>(by rw[e]at r;cases r),λi j=>?_⟩;rw[e]at j;have q:=Az h i j;unfold wpOp;cases ho:ops[i]? with
   |none=>simp only[ho]at q
   |some o=>
    simp only[ho]at q;have l:o∈ops.toList:=by
     have:=mD ho;simpa using this
    have x:=adc b l;have d:=ma b l;have k:∀t,o.dst=some t->t∈eF ops.toList/\t<8000:=λt u=>⟨by unfold eF;exact vZ.2 ⟨o,l,u⟩,lI (d t u) g⟩
    refine ph (B:=if Region.wanted o (yielded ops a.tmps)then o.wp P a w (wpAny P .any ops Q' fuel (listed.setIfInBounds i true)) Q'\/(o.asks P a w/\LetsOut Q')else wpAny P .any ops Q' fuel (listed.setIfInBounds i true) (a.put o.dst undef) w) g b hr q ?_ ?_
    ·intro T' n y hw;rw[hw,bK rfl];have c:=hr.same n;have f:Fr (eF ops.toList) p T':=hf.trans (λt _=>n t);refine .inl (wG c x y (λv w' h'=>?_) (λz w' s=>m _ _ _ _ s f c));exact AA g b m fuel _ _ _ _ (f.trans (Fr.put _ _ _ _ k)) (c.put g d v) h'
    ·intro T' n hn hw;rw[hw,bJ bN];have c:=hr.same n;have f:Fr (eF ops.toList) p T':=hf.trans (λt _=>n t);exact AA g b m fuel _ _ _ _ (f.trans (Fr.put _ _ _ _ k)) (c.put g d undef) hn
def T8(hm:P.follows .mixedOrders=true){N:Nat}(g:N<=8000){id:Nat}{ops:cb Oper}{draw:Bool}{Q:Exit->Tr->bf8}{Q':Exit->Act->bf8}{T:Tr}{a:Act}{w:bI}(p:jK P N A (.region id ops draw)=true)(hr:Rel N T a)(h:tW P τ ρ cx A id ops draw Q T w)(j:∀e T' w' a',Q e T' w'->Fr (eF ops.toList) T T'->Rel N T' a'->Q' e a' w'):
  (Code.region id ops draw).wp P Q' a w:=by
 unfold jK at p;simp only[dy]at p;obtain⟨ho,b⟩:=p;unfold tW at h;cases draw with
 |false=>exact wp_region_list (wM g ho _ _ _ _ ho hr h j)
 |true=>
  simp only[Bool.not_true,Gl]at b;dsimp only at h;split at h
  ·rename_i σ cp k;rw[k]at b;exact T6 hm g ho b hr h (λT' w' a' h1 h2 n=>j _ _ _ _ h1 h2 n) (λG T' w' a' h1 h2 n=>j _ _ _ _ h1 h2 n)
  rename_i k;rw[k]at b;dsimp only at b;cases m:A.fork id with
  |true=>
   rw[m,hH]at h;refine wp_region_any hm ?_;exact AA g ho (λe T' w' a' h1 h2 n=>j e T' w' a' h1 h2 n) _ _ _ _ _ (Fr.refl _ _) hr h
  |false=>
  rw[m,hh]at h b;cases c:A.calm id with
  |true=>
   rw[c,hH]at b;rw[c,hH]at h;refine wp_region_quiet (C:=Grow w) hm b (Grow.drew w) ?_;exact Ay g ho _ _ _ ho hr h (λT' a' s hf d w' D=>j _ _ _ _ (s w' D) hf d)
  |false=>
  rw[c,hh]at b;rw[c,hh]at h;unfold Dr at h;have f:ops.toList=ops.toList.take (A.head id)++ops.toList.drop (A.head id):=(fK _ _).symm;have z:∀ {l l':bA Oper},g4 P N (l++l')=true->g4 P N l=true/\g4 P N l'=true:=by
   intro l l' h;unfold g4 at h ⊢;rw[List.all_append,dy]at h;exact h
  have r:=ho;rw[f]at r;obtain⟨x,y⟩:=z r;have hw:eF ops.toList=eF (ops.toList.take (A.head id))++eF (ops.toList.drop (A.head id)):=by
   unfold eF;rw[<- List.filterMap_append,<- f]
  cases i:A.head id==ops.size with
  |true=>
   rw[i,hH]at b;have hn:A.head id=ops.size:=by simpa using i
   have q:ops.toList.take (A.head id)=ops.toList:=iw (by rw[hn];simp);have u:ops.toList.drop (A.head id)= []:=kY (by rw[hn];simp);rw[q,u]at h;refine wp_region_still hm b ?_;exact ua g ho _ _ _ ho hr h (λT' a' o hf d=>j _ _ _ _ o hf d)
  |false=>
   rw[i,hh]at b;obtain⟨l⟩:=ops;refine wp_region_still_tail (l:=l) (A.head id) hm b ?_;refine ua g ho _ _ _ x hr h (λT' a' o hf d=>?_);refine wM g ho _ _ _ _ y d o (λe E w2 F he v B=>j _ _ _ _ he ?_ B);rw[hw];exact(hf.mono (λt q=>mF _ q)).trans (v.mono (λt q=>nO _ q))
def nU:(l:bA (Nat×C1))->hO l->ie l->Tr->(Tr->(bf8)->(bI->Nat)->Prop)->Prop
 |[],a,b,T,K=>K T a b
 |(s,c)::l,a,b,T,K=>∃x:c.ty,nU l (a x) (b x) (T.put (some s) (c.mk x)) K
def ub:∀(l:bA (Nat×C1)) (b:hO l) (c:ie l) (T:Tr) (K a:Tr->(bf8)->(bI->Nat)->Prop),ni l b c T K->nU l b c T a->
  ∃T' d e,K T' d e/\a T' d e
 |[],b,c,T,_,_,h,h'=>⟨T,b,c,h,h'⟩
 |(_,_)::l,b,c,_,K,a,h,⟨x,h'⟩=>ub l (b x) (c x) _ K a (h x) h'
def Fr.qn{S:bA Nat}{a b:Tr}{s:Nat}{v:bE}(c:s<8000)(h:Fr (s::S) a b)(f:b.get s=v):Fr S (a.put (some s) v) b:=by
 intro t d;rw[Tr.dK a s t v c];split;·rename_i e;subst e;exact f
 ·rename_i e;exact h t (by simp only[ew,o9];exact⟨e,d⟩)
def G3:∀(l:bA (Nat×C1)) (b:hO l) (a:ie l) (m:Nat) (T B:Tr) (w:bI),pf l->rS l b a m T w->Fr (l.map (·.1)) B T->
  ∃n,n<m/\nU l b a B (λd f i=>(∀t,T.get t=d.get t)/\f w/\i w=n)
 |[],b,a,m,T,B,w,_,h,ho=>⟨a w,h.2,λt=>ho t (by simp),h.1,rfl⟩
 |(s,c)::l,b,a,m,T,B,w,e,h,ho=>by
  unfold rS at h;split at h
  ·rename_i x hx;obtain⟨n,hn,h'⟩:=G3 l (b x) (a x) m T (B.put (some s) (c.mk x)) w (λy g=>e y (fY _ g)) h (Fr.qn (e _ (fE ..)) ho (C1.lL hx));exact⟨n,hn,x,h'⟩
  ·exact h.elim
def uc:∀(l:bA (Nat×C1)) (a:hO l) (e:ie l) (T B:Tr) (w:bI),pf l->nh l a T w->Fr (l.map (·.1)) B T->
  ∃n,nU l a e B (λb f i=>(∀t,T.get t=b.get t)/\f w/\i w=n)
 |[],a,e,T,B,w,_,h,ho=>⟨e w,λt=>ho t (by simp),h,rfl⟩
 |(s,c)::l,a,e,T,B,w,d,h,ho=>by
  unfold nh at h;split at h
  ·rename_i x hx;obtain⟨n,h'⟩:=uc l (a x) (e x) T (B.put (some s) (c.mk x)) w (λy g=>d y (fY _ g)) h (Fr.qn (d _ (fE ..)) ho (C1.lL hx));exact⟨n,x,h'⟩
  ·exact h.elim
def G4:∀(l:bA (Nat×C1)) (d:hO l) (e:ie l) (B:Tr) (K:Tr->(bf8)->(bI->Nat)->Prop) (T:Tr),pf l->nU l d e B K->(∀a f i,K a f i->∀t,T.get t=a.get t)->
  Fr (l.map (·.1)) B T
 |[],d,e,B,K,T,_,h,hk=> λt _=>hk _ _ _ h t
 |(s,_)::l,d,e,B,K,T,c,⟨x,h⟩,hk=>by
  have:=G4 l (d x) (e x) _ K T (λy g=>c y (fY _ g)) h hk;intro t b;simp only[kh,ew,o9]at b;rw[this t b.2,Tr.dK B s t _ (c _ (fE ..)),bJ b.1]
def G5(u:Nat->bE):∀(l:bA Nat) (T:Tr),(∀s∈l,s<8000)->Fr l T (mO u l T)
 |[],_,_=> λ_ _=>rfl
 |s::l,T,b=>by
  intro t a;simp only[ew,o9]at a;show(mO u l (T.put (some s) (u s))).get t=_;rw[G5 u l _ (λy c=>b y (fY _ c)) t a.2,Tr.dK T s t _ (b _ (fE ..)),bJ a.1]
def rU(T:Tr)(S:bA Nat):∀(l:bA Nat) (B:Tr),(∀s∈l,s<8000)->Fr (l++S) B T->Fr S (mO (λt=>T.get t) l B) T
 |[],_,_,h=>h
 |_::l,_,a,h=>rU T S l _ (λy b=>a y (fY _ b)) (Fr.qn (a _ (fE ..)) h rfl)
def AB{W:bA Nat}{l:bA (Nat×C1)}{t:Nat}(h:t∈W):t∈mN W l++l.map (·.1):=by
 unfold mN;by_cases a:t∈l.map (·.1);·exact nO _ a
 ·exact mF _ (gG.2 ⟨h,by simpa using a⟩)
def rV{W:bA Nat}{l:bA (Nat×C1)}(h:∀t∈W,t<8000):∀s∈mN W l,s<8000:=λs a=>h s (gG.1 a).1
def AD{W:bA Nat}{l:bA (Nat×C1)}{j:hO l}{q:ie l}{f g b:Tr}{d:bI}{m:Nat}{u:Nat->bE}{K:Tr->(bf8)->(bI->Nat)->Prop}(k:∀t∈W,t<8000)(hl:pf l)(hex:nU l j q (mO u (mN W l) f) K)(hk:∀a e i,K a e i->∀t,g.get t=a.get t)(o:Fr W g b)(r:rS l j q m b d):
  ∃n,n<m/\nU l j q (mO (λt=>b.get t) (mN W l) f) (λa e i=>(∀t,b.get t=a.get t)/\e d/\i d=n):=by
 refine G3 l j q m b _ d hl r (rU b _ _ _ (rV k) ?_);have h1:=G4 l j q _ K g hl hex hk;have h2:=G5 u (mN W l) f (rV k);intro t c;simp only[gH,o9]at c;have p:t∉W:=λh=>by
  rcases gH.1 (AB (l:=l) h)with h|h;·exact c.1 h
  ·exact c.2 h
 rw[o t p,h1 t c.2,h2 t c.1]
def T9{N:Nat}{c:Code}{l:bA (Nat×C1)}{body:(Tr->bf8)->Tr->bf8}{Q:Exit->Tr->bf8}{Q':Exit->Act->bf8}{T:Tr}{a:Act}{w:bI}(x:∀t∈wr c,t<8000)(hl:pf l)(hr:Rel N T a)(j:∀(next:Tr->bf8) (next':Act->bf8) T a w,Rel N T a->body next T w->(∀T' w' a',next T' w'->Fr (wr c) T T'->Rel N T' a'->next' a' w')->
   (∀e T' w' a',Q e T' w'->Fr (wr c) T T'->Rel N T' a'->Q' e a' w')->c.wp P (Exit.then next' Q') a w)(K:∀B,Fr (wr c) T B->∀e T' w' a',Q e T' w'->Fr (wr c) B T'->Rel N T' a'->Q' e a' w')(h:wB l (wr c) body T w):(Code.loop c).wp P Q' a w:=by
 obtain⟨D,R,G,h⟩:=h;let J:Nat->Act->bf8:=λn a' w'=>∃T',Rel N T' a'/\Fr (wr c) T T'/\∃u:Nat->bE,nU l D R (mO u (mN (wr c) l) T) (λs r C=>(∀t,T'.get t=s.get t)/\r w'/\C w'=n);have f:∃n,J n a w:=by
  obtain⟨n,hn⟩:=uc l D R T _ w hl G (rU T _ _ T (rV x) (λ_ _=>rfl));exact⟨n,T,hr,.refl _ _,_,hn⟩
 obtain⟨L,f⟩:=f;refine wp_loop_ghost J L f ?_;rintro n F M ⟨E,z,y,u,hex⟩;obtain⟨v,r,C,hK,b,I,rfl⟩:=ub l D R _ _ _ (h u) hex;have A:Rel N v F:=z.same (λt=>(b t).symm);have g:Fr (wr c) T v:=λt q=>(b t).symm.trans (y t q);refine j _ _ _ _ _ A (hK M I) (λk O a3 H d i=>?_) (λe k O a3 he d i=>K _ g _ _ _ _ he d i);have p:Fr (wr c) E k:=λt q=>(d t q).trans (b t).symm;obtain⟨m,hm,o⟩:=AD x hl hex (λ_ _ _ h=>h.1) p H;exact⟨m,hm,k,i,g.trans d,_,o⟩
def G6:∀(c:Code) (l:Nat) (rest:Code),findLabel c l=some rest->∀t,t∈wr rest->t∈wr c:=by
 intro c;induction c with
 |seq x y b d=>
  intro l rest h t a;unfold findLabel at h;split at h
  ·rename_i r hr;injection h with h;subst h
   rcases gH.1 a with a|a;·exact mF _ (b _ _ hr _ a)
   ·exact nO _ a
  ·exact nO _ (d _ _ h _ a)
 |label l'=>
  intro l rest h t a;unfold findLabel at h;split at h;·injection h with h;subst h;cases a
  ·cases h
 |_=>intro l rest h;simp[findLabel]at h
def Ua{N:Nat}:∀(c:Code) (l:Nat) (rest:Code),findLabel c l=some rest->jK P N A c=true->jK P N A rest=true:=by
 intro c;induction c with
 |seq x y e f=>
  intro l rest h a;unfold jK at a;simp only[dy]at a;unfold findLabel at h;split at h
  ·rename_i r hr;injection h with h;subst h
   unfold jK;simp only[dy];refine⟨⟨e _ _ hr a.1.1,a.1.2⟩,?_⟩;have b:=a.2;split
   ·rename_i ks d;rw[d]at b;simp only[dy]at b ⊢;refine⟨?_,b.2⟩;unfold okW;rw[fQ];intro t g;have:=tY b.1 t (G6 _ _ _ hr t g);simpa using this
   ·rfl
  ·exact f _ _ h a.1.2
 |label l'=>
  intro l rest h a;unfold findLabel at h;split at h;·injection h with h;subst h;rfl
  ·cases h
 |_=>intro l rest h;simp[findLabel]at h
def Ub{N:Nat}{c rest:Code}{g:Nat}{l:bA (Nat×C1)}{first pass:(Tr->bf8)->Tr->bf8}{Q:Exit->Tr->bf8}{Q':Exit->Act->bf8}{T:Tr}{a:Act}{w:bI}(F:∀t∈wr c,t<8000)(hl:pf l)(hr:Rel N T a)(hf:findLabel c g=some rest)(k:∀(J:Tr->bf8) (i:Act->bf8) T a w,Rel N T a->first J T w->(∀T' w' a',J T' w'->Fr (wr c) T T'->Rel N T' a'->i a' w')->
   (∀e T' w' a',Q e T' w'->Fr (wr c) T T'->Rel N T' a'->Q' e a' w')->c.wp P (Exit.jump g i Q') a w)(s:∀(J:Tr->bf8) (i:Act->bf8) T a w,Rel N T a->pass J T w->(∀T' w' a',J T' w'->Fr (wr c) T T'->Rel N T' a'->i a' w')->
   (∀e T' w' a',Q e T' w'->Fr (wr c) T T'->Rel N T' a'->Q' e a' w')->rest.wp P (Exit.jump g i Q') a w)(G:∀B,Fr (wr c) T B->∀e T' w' a',Q e T' w'->Fr (wr c) B T'->Rel N T' a'->Q' e a' w')(h:GQ l (wr c) first pass T w):(Code.scope c).wp P Q' a w:=by
 obtain⟨O,Y,S,h⟩:=h;let J:Nat->Act->bf8:=λn a' w'=>∃T',Rel N T' a'/\Fr (wr c) T T'/\∃u:Nat->bE,nU l O Y (mO u (mN (wr c) l) T) (λC A M=>(∀t,T'.get t=C.get t)/\A w'/\M w'=n);refine wp_scope_jumps g (λa w=>∃n,J n a w) (λa w=>leastOf (λn=>J n a w)) hf ?_ ?_
 ·refine k _ _ _ _ _ hr S (λT' w' a' X b p=>?_) (λe T' w' a' he b p=>G _ (.refl _ _) _ _ _ _ he b p);obtain⟨n,hn⟩:=uc l O Y T' _ w' hl X (rU T' _ _ T (rV F) (b.mono (λt r=>AB r)));exact⟨n,T',p,b,_,hn⟩
 ·intro E K W;obtain⟨v,_⟩:=leastOf_spec W;generalize leastOf (λn=>J n E K)=n at v;obtain⟨R,H,b,u,hex⟩:=v;obtain⟨D,A,M,hK,d,V,rfl⟩:=ub l O Y _ _ _ (h u) hex;have I:Rel N D E:=H.same (λt=>(d t).symm);have o:Fr (wr c) T D:=λt r=>(d t).symm.trans (b t r);refine s _ _ _ _ _ I (hK K V) (λx L a3 U f q=>?_) (λe x L a3 he f q=>G _ o _ _ _ _ he f q);have z:Fr (wr c) R x:=λt r=>(f t r).trans (d t).symm;obtain⟨m,hm,y⟩:=AD F hl hex (λ_ _ _ h=>h.1) z U;have j:J m a3 L:=⟨x,q,o.trans f,_,y⟩
  exact⟨⟨m,j⟩,yZ ((leastOf_spec ⟨m,j⟩).2 m j) hm⟩
def Uc(hm:P.follows .mixedOrders=true){N:Nat}(W:N<=8000):∀(n:Nat) (c:Code) (Q:Exit->Tr->bf8) (Q':Exit->Act->bf8) (T:Tr) (a:Act) (w:bI),jK P N A c=true->Rel N T a->
  vc P τ ρ cx A n c Q T w->(∀e T' w' a',Q e T' w'->Fr (wr c) T T'->Rel N T' a'->Q' e a' w')->c.wp P Q' a w:=by
 intro n;induction n with
 |zero=>intro c Q Q' T a w _ _ h;exact h.elim
 |succ n o=>
 intro c;cases c with
 |skip=>intro Q Q' T a w _ hr h g;exact wp_skip (g _ _ _ _ h (.refl _ _) hr)
 |label l=>intro Q Q' T a w _ hr h g;exact wp_label (g _ _ _ _ h (.refl _ _) hr)
 |exit id=>intro Q Q' T a w _ hr h g;exact wp_exit (g _ _ _ _ h (.refl _ _) hr)
 |goto l=>intro Q Q' T a w _ hr h g;exact wp_goto (g _ _ _ _ h (.refl _ _) hr)
 |ret=>intro Q Q' T a w _ hr h g;exact wp_ret (g _ _ _ _ h (.refl _ _) hr)
 |region id ops draw=>intro Q Q' T a w d hr h g;exact T8 hm W d hr h g
 |seq x y=>
  intro Q Q' T a w d hr h g;unfold jK at d;simp only[dy]at d;have hx:∀t,t∈wr x->t∈wr (.seq x y):=λt j=>mF _ j;have O:∀t,t∈wr y->t∈wr (.seq x y):=λt j=>nO _ j;unfold vc at h;dsimp only at h;split at h
  ·refine wp_seq (o x _ _ _ _ _ d.1.1 hr h (λe T' w' a' he hf b=>?_));cases e with
   |normal=>exact o y _ _ _ _ _ d.1.2 b he (λe I w2 S D s E=>g _ _ _ _ D ((hf.mono hx).trans (s.mono O)) E)
   |exit id=>exact g _ _ _ _ he (hf.mono hx) b
   |goto l=>exact g _ _ _ _ he (hf.mono hx) b
   |ret=>exact g _ _ _ _ he (hf.mono hx) b
   |panic z=>exact g _ _ _ _ he (hf.mono hx) b
   |outgrown=>exact g _ _ _ _ he (hf.mono hx) b
  ·rename_i ks k;have q:=d.2;rw[k]at q;simp only[dy]at q;have C:=tY q.1;have hl:=wE q.2;obtain⟨J,U,h⟩:=h;refine wp_seq (o x _ _ _ _ _ d.1.1 hr U (λe T' w' a' he hf b=>?_));cases e with
   |normal=>
    replace he:nh ks J T' w':=he
    obtain⟨n,hex⟩:=uc ks J (wC ks) T' _ w' hl he (rU T' _ _ T (rV C) (hf.mono (λt j=>AB j)));obtain⟨I,F,Z,hK,v,V,_⟩:=ub ks J (wC ks) _ _ _ (h _) hex;have E:Rel N I a':=b.same (λt=>(v t).symm);have L:Fr (wr x) T I:=λt j=>(v t).symm.trans (hf t j);exact o y _ _ _ _ _ d.1.2 E (hK w' V) (λe Y w2 S D s M=>g _ _ _ _ D ((L.mono hx).trans (s.mono O)) M)
   |exit id=>exact g _ _ _ _ he (hf.mono hx) b
   |goto l=>exact g _ _ _ _ he (hf.mono hx) b
   |ret=>exact g _ _ _ _ he (hf.mono hx) b
   |panic z=>exact g _ _ _ _ he (hf.mono hx) b
   |outgrown=>exact g _ _ _ _ he (hf.mono hx) b
 |cond c x y=>
  intro Q Q' T a w d hr h g;unfold jK at d;simp only[dy]at d;unfold vc at h;dsimp only at h;split at h
  ·rename_i t j;have G:a.eval c=.bool t:=by rw[hr.ev];exact j
   cases t with
   |true=>exact wp_cond_true G (o x _ _ _ _ _ d.1 hr h (λe T' w' a' he hf b=>g _ _ _ _ he (hf.mono (λt j=>mF _ j)) b))
   |false=>exact wp_cond_false G (o y _ _ _ _ _ d.2 hr h (λe T' w' a' he hf b=>g _ _ _ _ he (hf.mono (λt j=>nO _ j)) b))
  ·exact h.elim
 |block id c=>
  intro Q Q' T a w d hr h g;refine wp_block (o c _ _ _ _ _ d hr h (λe T' w' a' he hf b=>?_));cases e with
  |exit p=>
   replace he:bif Nat.beq p id then Q .normal T' w' else Q (.exit p) T' w':=he
   show if p=id then Q' .normal a' w' else Q' (.exit p) a' w'
   rw[j5]at he;by_cases e:p=id;·simp only[e,tz,hH]at he;rw[bK e];exact g _ _ _ _ he hf b
   ·have:(p==id)=false:=by simpa using e
    rw[this,hh]at he;rw[bJ e];exact g _ _ _ _ he hf b
  |normal=>exact g _ _ _ _ he hf b
  |goto l=>exact g _ _ _ _ he hf b
  |ret=>exact g _ _ _ _ he hf b
  |panic z=>exact g _ _ _ _ he hf b
  |outgrown=>exact g _ _ _ _ he hf b
 |scope c=>
  intro Q Q' T a w d hr h g;unfold jK at d;simp only[dy]at d;obtain⟨⟨d,C⟩,k⟩:=d;have m:vc P τ ρ cx A n c (As Q) T w->(Code.scope c).wp P Q' a w:=λh=>by
   refine wp_scope_straight (o c _ _ _ _ _ d hr h (λe T' w' a' he hf b=>?_));cases e with
   |goto l=>exact he
   |normal=>exact g _ _ _ _ he hf b
   |exit id=>exact g _ _ _ _ he hf b
   |ret=>exact g _ _ _ _ he hf b
   |panic z=>exact g _ _ _ _ he hf b
   |outgrown=>exact g _ _ _ _ he hf b
  unfold vc at h;dsimp only at h;split at h;·exact m h
  ·rename_i l hl;rw[hl]at k;dsimp only at k;split at h;·exact m h
   ·rename_i ks X;rw[X]at k;split at h
    ·rename_i rest r;refine Ub (Q:=Q) (tY C) (wE k) hr r (λJ F H K R u hb hn i=>?_) (λJ F H K R u hb hn i=>?_) (λB hB e T' w' a' he hf b=>g _ _ _ _ he (hB.trans hf) b) h
     ·refine o c _ _ _ _ _ d u hb (λe T' w' a' he hf b=>?_);cases e with
      |goto l'=>
       replace he:bif Nat.beq l' l then J T' w' else False:=he
       show l'=l/\F a' w';rw[j5]at he;by_cases e:l'=l;·simp only[e,tz,hH]at he;exact⟨e,hn _ _ _ he hf b⟩
       ·have:(l'==l)=false:=by simpa using e
        rw[this,hh]at he;exact he.elim
      |normal=>exact i _ _ _ _ he hf b
      |exit id=>exact i _ _ _ _ he hf b
      |ret=>exact i _ _ _ _ he hf b
      |panic z=>exact i _ _ _ _ he hf b
      |outgrown=>exact i _ _ _ _ he hf b
     ·refine o rest _ _ _ _ _ (Ua _ _ _ r d) u hb (λe T' w' a' he s b=>?_);have hf:Fr (wr c) H T':=s.mono (G6 _ _ _ r);cases e with
      |goto l'=>
       replace he:bif Nat.beq l' l then J T' w' else False:=he
       show l'=l/\F a' w';rw[j5]at he;by_cases e:l'=l;·simp only[e,tz,hH]at he;exact⟨e,hn _ _ _ he hf b⟩
       ·have:(l'==l)=false:=by simpa using e
        rw[this,hh]at he;exact he.elim
      |normal=>exact i _ _ _ _ he hf b
      |exit id=>exact i _ _ _ _ he hf b
      |ret=>exact i _ _ _ _ he hf b
      |panic z=>exact i _ _ _ _ he hf b
      |outgrown=>exact i _ _ _ _ he hf b
    ·exact h.elim
 |loop c=>
  intro Q Q' T a w d hr h g;unfold jK at d;simp only[dy]at d;obtain⟨⟨d,C⟩,k⟩:=d;refine T9 (Q:=Q) (body:=λnext=>vc P τ ρ cx A n c (mP next Q)) (tY C) (wE k) hr (λnext next' H K R u hb hn i=>o c _ _ _ _ _ d u hb (λe T' w' a' he hf b=>?_))
   (λB hB e T' w' a' he hf b=>g _ _ _ _ he (hB.trans hf) b) h
  cases e with
  |normal=>exact hn _ _ _ he hf b
  |exit id=>exact i _ _ _ _ he hf b
  |goto l=>exact i _ _ _ _ he hf b
  |ret=>exact i _ _ _ _ he hf b
  |panic z=>exact i _ _ _ _ he hf b
  |outgrown=>exact i _ _ _ _ he hf b
 |rangeFunc f ps x y=>intro Q Q' T a w _ _ h;exact h.elim
 |refuse G7=>intro Q Q' T a w _ _ h;exact h.elim
end
end Go.Vc
namespace Go.Vc
open Go
def cz(K:bf9)(e:Ending)(w:bI):Prop:=∃v,e=.returned v/\K v w
def qq(K:bf9)(p:bA PanicEntry->bf8)(e:Ending)(w:bI):Prop:=(∃v,e=.returned v/\K v w)\/∃a,e=.panicked a/\p a w
def iH(P:cN)(τ:cc->K1)(w:bI)(T:Tr):bA ResultVar->cb bE->(cb bE->Prop)->Prop
 |[],acc,f=>f acc
 |.tmp t::l,acc,f=>iH P τ w T l (acc.push (T.get t)) f
 |.cell p t::l,acc,f=>pc P (τ t) t (T.get p) w λv=>iH P τ w T l (acc.push v) f
def oneOf(vs:cb bE):bE:=match vs.toList with | [v]=>v|_=>.tuple vs
def oB(P:cN)(τ:cc->K1)(rs:bA ResultVar)(K:bf9)(p:bA PanicEntry->bf8):Exit->Tr->bf8
 |.normal,T,w=>iH P τ w T rs #[] λvs=>K (oneOf vs) w
 |.ret,T,w=>iH P τ w T rs #[] λvs=>K (oneOf vs) w
 |.panic a,_,w=>p a w
 |_,_,_=>False
noncomputable def ji:bA bE->Nat->Tr->Tr
 |[],_,T=>T
 |v::l,i,T=>ji l (i+1) (T.put (some i) v)
def kp(P:cN)(τ:cc->K1)(ρ:cc->Kd)(cx:bg5->Bool)(A:dQ)(fn:Func)(args:cb bE)(K:bf9)(p:bA PanicEntry->bf8)(w:bI):Prop:=
 match fn.body with
 |some c=>vc P τ ρ cx A 1000 c (oB P τ fn.results.toList K p) (ji args.toList 0 .nil) w
 |none=>False
def k7(P:cN)(A:dQ)(fn:Func)(n:Nat):Bool:=match fn.body with
 |some c=>jK P fn.ntmps A c&&Nat.ble fn.ntmps 8000&&Nat.ble n fn.ntmps
 |none=>false
section
variable{P:cN}{τ:cc->K1}{ρ:cc->Kd}{cx:bg5->Bool}{A:dQ}
def oC(tmps:cb bE):ResultVar->Sem bE
 |.tmp t=>pure (tmps.getD t undef)
 |.cell p t=>do loadVar t (<- asAddr (tmps.getD p undef))
def Ud(fn:Func)(tmps:cb bE):results fn tmps=(do
  let vs <- fn.results.mapM (oC tmps)
  pure (if h:vs.size=1 then vs[0]else .tuple vs)):=rfl
def AE{w:bI}{a:Act}{T:Tr}{N:Nat}(hr:Rel N T a):∀(l:bA ResultVar) (acc:cb bE) (f:cb bE->Prop),iH P τ w T l acc f->
  ∃vs,(l.mapM (oC a.tmps)).run P w=.ok vs w/\f (acc++vs.toArray)
 |[],acc,f,h=>⟨[],by simp,by simpa[iH]using h⟩
 |.tmp t::l,acc,f,h=>by
  obtain⟨vs,h1,h2⟩:=AE hr l _ f h;refine⟨T.get t::vs,?_,?_⟩;·simp only[Gj,oC,hr.get,Sem.run_bind,Sem.run_pure,Result.andThen_ok,h1]
  ·have:acc++(T.get t::vs).toArray=acc.push (T.get t)++vs.toArray:=by apply Array.ext';simp
   rw[this];exact h2
 |.cell p t::l,acc,f,h=>by
  unfold iH pc at h;split at h
  ·rename_i q e;obtain⟨v,h1,h2⟩:=Gx (P:=P) h;obtain⟨vs,b,c⟩:=AE hr l _ f h2;refine⟨v::vs,?_,?_⟩
   ·have d:(asAddr (a.tmps.getD p undef)).run P w=.ok q w:=by rw[hr.get,e];rfl
    simp only[Gj,oC,Sem.run_bind,d,Sem.run_pure,Result.andThen_ok,h1 w (.refl w),b]
   ·have:acc++(v::vs).toArray=acc.push v++vs.toArray:=by apply Array.ext';simp
    rw[this];exact c
  ·exact h.elim
def AF{fn:Func}{w:bI}{a:Act}{T:Tr}{N:Nat}(hr:Rel N T a){f:cb bE->Prop}(h:iH P τ w T fn.results.toList #[] f):∃vs,(results fn a.tmps).run P w=.ok (oneOf vs) w/\f vs:=by
 obtain⟨vs,h1,h2⟩:=AE hr _ _ _ h;refine⟨vs.toArray,?_,by simpa using h2⟩;rw[Ud,Array.mapM_eq_mapM_toList];simp only[Sem.run_bind,Sem.run_map,h1,Result.andThen_ok,Sem.run_pure];congr 1
 match vs with
 |[]=>rfl
 |[v]=>rfl
 |u::v::l=>simp[oneOf]
def G8:∀(l:bA bE) (i:Nat) (T:Tr) (t:Nat),i+l.length<=8000->(ji l i T).get t=if t<i then T.get t else match l[t-i]? with|some v=>v|none=>T.get t
 |[],i,T,t,_=>by simp[ji]
 |v::l,i,T,t,h=>by
  simp only[hM]at h;unfold ji;rw[G8 l (i+1) _ t bu];by_cases h1:t<i;·rw[eK,bK h1,Tr.dK T i t v bu,cD]
  ·by_cases h2:t=i
   ·subst h2;rw[eK,bJ h1,Tr.dK T t t v bu,bK rfl];simp
   ·rw[cD,bJ h1,Tr.dK T i t v bu,bJ h2];have:t-i=(t-(i+1))+1:=by omega
    rw[this,List.getElem?_cons_succ]
def Rel.init{N:Nat}{args:cb bE}(a:N<=8000)(hn:args.size<=N):Rel N (ji args.toList 0 .nil) {tmps:=args++Array.replicate (N-args.size) undef,defers:=[]} :=by
 refine⟨rfl,by simp;omega,λt=>?_⟩;rw[G8 _ 0 _ t (by simp;omega),cD,Gr];simp only[iU,Array.getElem?_append,Array.getElem?_toList];by_cases h:t<args.size;·simp[h]
 ·rw[bJ h,vV (S8 h)];simp only[Tr.get_nil];by_cases h2:t-args.size<N-args.size;·simp[h2]
  ·simp[h2]
def G9{g:bg5}{fn:Func}{args:cb bE}{w:bI}{K:bf9}{p:bA PanicEntry->bf8}(hm:P.follows .mixedOrders=true)(hf:P.funcs[g]?=some fn)(a:k7 P A fn args.size=true)(h:kp P τ ρ cx A fn args K p w):Calls P g args w (qq K p):=by
 unfold kp at h;unfold k7 at a;split at h
 ·rename_i c d;rw[d]at a;simp only[dy]at a;obtain⟨⟨a,i⟩,hn⟩:=a;have b:fn.ntmps<=8000:=by simpa using i
  have f:args.size<=fn.ntmps:=by simpa using hn
  refine calls_of_wp hf d ?_;refine Uc hm b 1000 c _ _ _ _ _ a (Rel.init b f) h (λe T' w' a' he _ hr=>?_);cases e with
  |normal=>
   obtain⟨vs,h1,h2⟩:=AF hr he;exact⟨hr.defers,_,h1,.inl ⟨_,rfl,h2⟩⟩
  |ret=>
   obtain⟨vs,h1,h2⟩:=AF hr he;exact⟨hr.defers,_,h1,.inl ⟨_,rfl,h2⟩⟩
  |panic j=>exact⟨hr.defers,.inr ⟨_,rfl,he⟩⟩
  |exit id=>exact he.elim
  |goto l=>exact he.elim
  |outgrown=>exact he.elim
 ·exact h.elim
def AG{g:bg5}{fn:Func}{args:cb bE}{w:bI}{K:bf9}(hm:P.follows .mixedOrders=true)(hf:P.funcs[g]?=some fn)(a:k7 P A fn args.size=true)(h:kp P τ ρ cx A fn args K (λ_ _=>False) w):Calls P g args w (cz K):=
 (G9 hm hf a h).mono λ_ _ he=>he.elim id λ⟨_,_,h⟩=>h.elim
end
end Go.Vc
namespace Go.Kc
open Go.Kt
def firstFree:Nat->bA Bool->bV Nat
 |_,[]=>none
 |n,b::l=>if b then firstFree (n+1) l else some n
def fT(T:bA Bool):bA Bool×Int×Int:=match firstFree 0 T with
 |some i=>(T.set i true,i,0)
 |none=>(T, -1,3)
def np(T:bA Bool)(i:Int):bA Bool×Int:=
 if i<0\/(T.length:Int)<=i then(T,1)else if T.getD i.toNat false=false then(T,2)else(T.set i.toNat false,0)
def k8(n:Int):bA Bool:=List.replicate (min (max n 0).toNat 1024) false
def AH:∀ {T:bA Bool} {n i:Nat},firstFree n T=some i->n<=i/\T[i-n]?=some false/\∀j,n<=j->j<i->T[j-n]?=some true
 |[],_,_,h=>by cases h
 |b::T,n,i,h=>by
  unfold firstFree at h;cases b with
  |true=>
   simp only[g3]at h;obtain⟨h1,h2,c⟩:=AH h;refine⟨bu,?_,λj d a=>?_⟩;·rw[show i-n=(i-(n+1))+1 by omega];simpa using h2
   ·rcases Nat.eq_or_lt_of_le d with e|e;·subst e;simp
    ·rw[show j-n=(j-(n+1))+1 by omega];simpa using c j bu a
  |false=>
   simp only[l4,gR,fS]at h;subst h;exact⟨ek _,by simp,λj h1 h2=>bu⟩
def Ha:∀ {T:bA Bool} {n:Nat},firstFree n T=none->∀b∈T,b=true
 |[],_,_,b,hb=>by cases hb
 |b::T,n,h,c,a=>by
  unfold firstFree at h;cases b with
  |true=>
   simp only[g3]at h;rcases ew.1 a with rfl|a;·rfl
   ·exact Ha h c a
  |false=>simp at h
def AI(T:bA Bool):(fT T).1.length=T.length:=by
 unfold fT;split<;>simp
def AJ(T:bA Bool)(i:Int):(np T i).1.length=T.length:=by
 unfold np;split;·rfl
 ·split<;>simp
structure eP where
 use:Int
 cB:Int
deriving DecidableEq
def top:Int:=1099511627776
def fU(g:Int):Bool:=decide (0<=g)&&decide (g<64)
def gT(n:Int):Bool:=decide (0<=n)&&decide (n<=top)
def hy(C:bA eP)(g:Int):eP:=if fU g then C.getD g.toNat ⟨0,0⟩else⟨0,0⟩
def cT(C:bA eP)(g:Int):Int:=(hy C g).use
def g8(C:bA eP)(g:Int):Int:=(hy C g).cB
def iI(C:bA eP)(g:Int)(f:eP->eP):bA eP:=C.set g.toNat (f (C.getD g.toNat ⟨0,0⟩))
def j6(C:bA eP)(g n:Int):bA eP×Int:=
 if fU g&&gT n then(iI C g λx=> {x with cB:=n},0)else(C,1)
def nodupB:bS->Bool
 |[]=>true
 |x::l=> !l.contains x&&nodupB l
def jj(l:bS)(n:Int):Bool:=l.all fU&&nodupB l&&gT n
def dG(C:bA eP)(l:bS)(n:Int):bA eP:=l.foldl (λC g=>iI C g λx=> {x with use:=x.use+n}) C
def df(C:bA eP)(l:bS)(n:Int):bA eP×Int×Int:=
 if jj l n=false then(C, -1,1)
 else match l.find? (λg=>decide (0<n)&&decide ((C.getD g.toNat ⟨0,0⟩).cB<(C.getD g.toNat ⟨0,0⟩).use+n))with
  |some g=>(C,g,22)
  |none=>(dG C l n, -1,0)
def gj(C:bA eP)(l:bS)(n:Int):bA eP×Int:=
 if jj l n=false then(C,1)
 else match l.find? (λg=>decide ((C.getD g.toNat ⟨0,0⟩).use<n))with
  |some _=>(C,2)
  |none=>(dG C l (-n),0)
def mg:bA eP:=List.replicate 64 ⟨0,top⟩
structure hz(C:bA eP):Prop where
 len:C.length=64
 ok:∀x∈C,(0<=x.use/\x.use<=top)/\0<=x.cB/\x.cB<=top
structure FS where
 bW:bS
 bt:Int×Int->bV (bA UInt8)
def gU(bW:bS):FS:=⟨(bW.take 32).map λn=>min (max n 0) 4096,λ_=>none⟩
def nq(F:FS)(f:Int):Int:=if f<0\/(F.bW.length:Int)<=f then 0 else F.bW.getD f.toNat 0
def mh(n:Int):UInt8:=UInt8.ofNat (n%256).toNat
def nr(k:Int×Int):bA UInt8:=(List.range 16).map λi:Nat=>mh (31*k.1+7*k.2+(i:Int))
def ec(F:FS)(k:Int×Int):Bool:=decide (0<=k.2)&&decide (k.2<nq F k.1)
def rW(F:FS)(k:Int×Int):bA UInt8×Int:=
 if ec F k=false then([],2)else match F.bt k with
  |some t=>(t,0)
  |none=>(nr k,0)
def ns(F:FS)(k:Int×Int)(t:bA UInt8):FS×Int:=
 if ec F k=false then(F,2)else if t.length≠16 then(F,1)else({F with bt:=λx=>if x=k then some t else F.bt x},0)
def rX(g c:Int):Int:=1+2*g+512*(c%top)
def gV(x:Int):Int×Int×Bool:=if x%2=1/\x/512<top then(x/2%256,x/512,true)else(0,0,false)
def oD(l:bS)(g:Int):Int:=l.getD g.toNat 0
def dM(l:bS)(g:Int):bS×Int:=
 if fU g=false then(l,0)else(l.set g.toNat (i64.wrap (oD l g+1)),if oD l g<0 then 0 else rX g (oD l g))
def mi(l:bS)(x a:Int):Bool:=
 (gV x).2.2&&fU (gV x).1&&decide (0<=oD l (gV x).1)&&decide ((oD l (gV x).1-(gV x).2.1)%top<=a)
structure ez where
 parent:Int
 use:Int
 own:Int
deriving DecidableEq
def ez.eX(x:ez):Int:=min x.own x.use
def nZ:ez:=⟨0,0,0⟩
def nt(l:bA ez)(i:Int):ez:=l.getD i.toNat nZ
def gI:Nat->bA ez->Bool
 |_,[]=>true
 |i,x::l=>((decide (i=0)&&decide (x.parent= -1))||(decide (0<=x.parent)&&decide (x.parent<(i:Int))))&&gT x.use&&gT x.own&&gI (i+1) l
def h3(l:bA ez):Bool:=gI 0 l&&decide (l.length<=64)
def lM(l:bA ez)(t:Int):Nat->Int->bS
 |0,_=>[]
 |n+1,g=>if g=t then[]else if g<0 then[g]else g::lM l t n (nt l g).parent
def h4(l:bA ez)(t g:Int):bS:=lM l t (l.length+1) g
def mR(l:bA ez)(g t:Int):Bool:=(h4 l t g).all λx=>decide (0<=x)
def sumOf(l:bA ez)(p:Int):Int:=((l.drop 1).filter λx=>x.parent==p).foldl (λs x=>s+x.eX) 0
def mS(l:bA ez)(t:Int)(out:bS)(i:Nat)(x:ez):Int:=
 if(i:Int)=t\/mR l i t=false then 0
 else if x.parent≠t/\out.getD x.parent.toNat 0<sumOf l x.parent then x.eX*out.getD x.parent.toNat 0/sumOf l x.parent
 else x.eX
def lN(l:bA ez)(t:Int):bA ez->bS->bS
 |[],out=>out
 |x::r,out=>lN l t r (out++[mS l t out out.length x])
def mT(l:bA ez)(t:Int):bS:=if h3 l=false\/t<0\/(l.length:Int)<=t then[]else lN l t l []
def nu(l:bA ez)(dU:bS)(t g:Int):Bool:=
 if h3 l=false\/dU.length≠l.length\/t<0\/(l.length:Int)<=t\/g<0\/(l.length:Int)<=g\/mR l g t=false then false
 else(h4 l t g).any λx=>decide ((nt l x).use<=dU.getD x.toNat 0)
def cj(l:bS):Int:=l.foldl (· + ·) 0
def iy(n:Int)(ws:bS):Bool:=decide (0<=n)&&decide (n<=1048576)&&decide (ws.length<=64)&&ws.all λw=>decide (0<=w)&&decide (w<=top)
def ahead(rs:bS)(i:Nat)(r:Int):Nat:=(rs.zipIdx.filter λp:Int×Nat=>decide (r<p.1)||(decide (p.1=r)&&decide (p.2<i))).length
def iZ(n:Int)(ws:bS):bS:=
 if iy n ws=false then[]else
 if cj ws=0 then ws.map λ_=>0 else
 let rs:=ws.map λw=>n*w%cj ws
 let left:=n-cj (ws.map λw=>n*w/cj ws)
 ws.zipIdx.map λp:Int×Nat=>n*p.1/cj ws+if(ahead rs p.2 (n*p.1%cj ws):Int)<left then 1 else 0
def jk(n:Int)(ws:bS):bS:=
 if iy n ws=false then[]else if cj ws=0\/n=0 then ws.map λ_=>0 else if cj ws<=n then ws else iZ n ws
end Go.Kc
namespace Go.Sp
open Go Go.Vc
structure Asn where
 holds:cb Obj->(Nat->Prop)->Prop
 loc:∀ {h h':cb Obj} {F:Nat->Prop},holds h F->(∀b,F b->h'[b]?=h[b]?)->holds h' F
abbrev ct:=bA Asn
def dh:ct->cb Obj->(Nat->Prop)->Prop
 |[],_,_=>True
 |A::L,h,U=>∃F,A.holds h F/\(∀b,F b->b<h.size/\¬ U b)/\dh L h (λb=>U b\/F b)
structure Env where
 os:Os
 tape:Nat->Question->Nat
 output:cb (Nat×ByteArray)
def World.env(w:bI):Env:=⟨w.os,w.tape,w.output⟩
structure Sep(E:Env)(L:ct)(w:bI):Prop where
 env:World.env w=E
 heap:dh L w.heap (λ_=>False)
def emp:Asn:=⟨λ_ F=>∀b,¬ F b,λh _=>h⟩
def ud(z:Nat×Nat)(n:Nat):Prop:=∀o,o<n->¬ (z.1<=o/\o<z.2)
def bC(b:Nat)(c:bA bE):Asn:=
 ⟨λh F=>(∃t z,h[b]?=some (.cells c.toArray t z)/\ud z c.length)/\∀x,F x↔x=b,λa hl=>⟨by rw[hl b ((a.2 b).2 rfl)];exact a.1,a.2⟩⟩
def ue(b:Nat)(es:cb MapEntry)(ck:Nat):Asn:=
 ⟨λh F=>h[b]?=some (.map es ck)/\∀x,F x↔x=b,λa hl=>⟨by rw[hl b ((a.2 b).2 rfl)];exact a.1,a.2⟩⟩
def c5(b:Nat)(o:Obj):Asn:=
 ⟨λh F=>h[b]?=some o/\∀x,F x↔x=b,λa hl=>⟨by rw[hl b ((a.2 b).2 rfl)];exact a.1,a.2⟩⟩
def dZ(H:cb Obj):Asn:=
 ⟨λh F=>(∀b,b<H.size->h[b]?=H[b]?)/\∀x,F x↔x<H.size,λa hl=>⟨λb hb=>by rw[hl b ((a.2 b).2 hb)];exact a.1 b hb,a.2⟩⟩
def cG(p:Prop)(A:Asn):Asn:=⟨λh F=>p/\A.holds h F,λa hl=>⟨a.1,A.loc a.2 hl⟩⟩
def fa{α:Sort _}(f:α->Asn):Asn:=⟨λh F=>∃x,(f x).holds h F,λ⟨x,hx⟩ hl=>⟨x,(f x).loc hx hl⟩⟩
def star(A B:Asn):Asn:=
  ⟨λh F=>∃a c,A.holds h a/\B.holds h c/\(∀b,a b->¬ c b)/\∀b,F b↔a b\/c b,
   λ⟨a,c,h1,h2,e,d⟩ hl=>⟨a,c,A.loc h1 (λb hb=>hl b ((d b).2 (.inl hb))),B.loc h2 (λb hb=>hl b ((d b).2 (.inr hb))),e,d⟩⟩
def dh.weaken:∀ {L:ct} {h:cb Obj} {U V:Nat->Prop},dh L h U->(∀b,V b->U b)->dh L h V
 |[],_,_,_,_,_=>trivial
 |_::_,_,_,_,⟨F,h1,h2,d⟩,a=>⟨F,h1,λb hb=>⟨(h2 b hb).1,λc=>(h2 b hb).2 (a b c)⟩,d.weaken (λb hb=>hb.elim (λx=>.inl (a b x)) .inr)⟩
def dh.swap{A B:Asn}{L:ct}{h:cb Obj}{U:Nat->Prop}:dh (A::B::L) h U->dh (B::A::L) h U:=by
 rintro⟨F,h1,h2,G,d,a,e⟩;refine⟨G,d,λb hb=>⟨(a b hb).1,λhu=>(a b hb).2 (.inl hu)⟩,F,h1,λb hb=>⟨(h2 b hb).1,?_⟩,e.weaken ?_⟩
 ·rintro(hu|c);·exact(h2 b hb).2 hu
  ·exact(a b c).2 (.inr hb)
 ·rintro b ((hu|c)|hf);·exact .inl (.inl hu)
  ·exact .inr c
  ·exact .inl (.inr hf)
def dh.cons{A:Asn}{L L':ct}{h:cb Obj}{U:Nat->Prop}(hl:∀U,dh L h U->dh L' h U):dh (A::L) h U->dh (A::L') h U:=
 λ⟨F,h1,h2,a⟩=>⟨F,h1,h2,hl _ a⟩
def dh.drop{A:Asn}{L:ct}{h:cb Obj}{U:Nat->Prop}:dh (A::L) h U->dh L h U:=
 λ⟨_,_,_,a⟩=>a.weaken (λ_ hb=>.inl hb)
def dh.front{A:Asn}{h:cb Obj}:∀ {L:ct} {b:ct} {U:Nat->Prop},dh (L++A::b) h U->dh (A::(L++b)) h U
 |[],_,_,a=>a
 |_::_,_,_,a=>(dh.cons (λ_ h=>dh.front h) a).swap
def dh.perm{h:cb Obj}{L L':ct}(hp:L.Perm L'):∀ {U:Nat->Prop},dh L h U->dh L' h U:=by
 induction hp with
 |nil=>exact id
 |cons A _ d=>exact λa=>a.cons (λ_ h=>d h)
 |swap A B L=>exact dh.swap
 |trans _ _ b c=>exact λa=>c (b a)
def dh.append_left{h:cb Obj}:∀ {L L':ct} {U:Nat->Prop},dh (L++L') h U->dh L h U
 |[],_,_,_=>trivial
 |_::_,_,_,⟨F,h1,h2,a⟩=>⟨F,h1,h2,a.append_left⟩
def k9(L:ct):bA Nat->ct
 |[]=>[]
 |i::is=>match L[i]? with
  |some A=>A::k9 L is
  |none=>k9 L is
def oE:bA Nat->Bool
 |[]=>true
 |i::is=> !is.contains i&&oE is
def dh.AK{h:cb Obj}:∀ {L:ct} {U:Nat->Prop},dh L h U->∃c:Nat->Nat->Prop,
  (∀(i:Nat) (A:Asn),L[i]?=some A->A.holds h (c i)/\∀b,c i b->b<h.size/\¬ U b)/\∀i j b,i≠j->i<L.length->j<L.length->c i b->¬ c j b
 |[],_,_=>⟨λ_ _=>False,λi A a=>by simp at a,λ_ _ _ _ a=>by simp at a⟩
 |B::L,U,⟨F,h1,h2,o⟩=>by
  obtain⟨c,g,n⟩:=dh.AK o;refine⟨λi=>match i with|0=>F|i+1=>c i,?_,?_⟩
  ·intro i A a;cases i with
   |zero=>simp only[lH,fS]at a;subst a;exact⟨h1,h2⟩
   |succ i=>
    have:=g i A (by simpa using a);exact⟨this.1,λb hb=>⟨(this.2 b hb).1,λhu=>(this.2 b hb).2 (.inl hu)⟩⟩
  ·intro i j b f a l hb d;cases i with
   |zero=>
    cases j with
    |zero=>exact f rfl
    |succ j=>
     have m:j<L.length:=by simpa using l
     have:=(g j L[j] (dO m)).2 b d;exact this.2 (.inr hb)
   |succ i=>
    cases j with
    |zero=>
     have k:i<L.length:=by simpa using a
     have:=(g i L[i] (dO k)).2 b hb;exact this.2 (.inr d)
    |succ j=>exact n i j b (λe=>f (by rw[e])) (by simpa using a) (by simpa using l) hb d
def dh.la{h:cb Obj}{L:ct}{d:Nat->Nat->Prop}(f:∀(i:Nat) (A:Asn),L[i]?=some A->A.holds h (d i)/\∀b,d i b->b<h.size)(l:∀i j b,i≠j->i<L.length->j<L.length->d i b->¬ d j b):∀(is:bA Nat) (U:Nat->Prop),oE is=true->(∀b i,i∈is->i<L.length->d i b->¬ U b)->dh (k9 L is) h U
 |[],_,_,_=>trivial
 |i::is,U,c,m=>by
  simp only[oE,dy,ib]at c;have o:i∉is:=by simpa using c.1
  unfold k9;cases n:L[i]? with
  |none=>exact dh.la f l is U c.2 (λb j g a hb=>m b j (fY _ g) a hb)
  |some A=>
   have k:i<L.length:=by
    rcases hN i L.length with h' | h';·exact h'
    ·simp[gQ h']at n
   refine⟨d i,(f i A n).1,λb hb=>⟨(f i A n).2 b hb,m b i (fE ..) k hb⟩,?_⟩;refine dh.la f l is _ c.2 (λb j g a hb hu=>?_);rcases hu with hu|hu;·exact m b j (fY _ g) a hb hu
   ·exact l i j b (λe=>o (e▸g)) k a hu hb
def dh.fr{h:cb Obj}{A:Asn}:∀(L:ct) (i:Nat) {U:Nat->Prop},L[i]?=some A->dh L h U->dh (A::L.eraseIdx i) h U
 |[],i,_,a,_=>by simp at a
 |B::L,0,_,a,b=>by simp only[lH,fS]at a;subst a;exact b
 |B::L,i+1,_,a,b=>(b.cons λ_ h=>dh.fr L i (by simpa using a) h).swap
section
variable{E:Env}{L:ct}{w:bI}
def Sep.re(h:Sep E L w)(is:bA Nat)(d:oE is=true):Sep E (k9 L is) w:=by
 obtain⟨f,a,e⟩:=h.heap.AK;exact⟨h.env,dh.la (λi A c=>⟨(a i A c).1,λb hb=>((a i A c).2 b hb).1⟩) e is _ d (λ_ _ _ _ _=>id)⟩
def Hb:∀ {is:bA Nat},oE is=true->is.Nodup
 |[],_=>List.nodup_nil
 |i::is,h=>by
  simp only[oE,dy,ib]at h;exact rH.2 ⟨by simpa using h.1,Hb h.2⟩
def Hc:∀ {is:bA Nat},is.Nodup->oE is=true
 |[],_=>rfl
 |i::is,h=>by
  have:=rH.1 h;simp only[oE,dy,ib];exact⟨by simpa using this.1,Hc this.2⟩
def Hd(L:ct)(i:Nat)(is:bA Nat):k9 L (i::is)=(match L[i]? with|some A=>A::k9 L is|none=>k9 L is):=rfl
def He(L:ct):∀(is a:bA Nat),k9 L (is++a)=k9 L is++k9 L a
 |[],_=>rfl
 |i::is,a=>by
  rw[o5,Hd,Hd,He L is a];cases L[i]? <;>rfl
def Hf(L:ct):∀(k n:Nat),n+k=L.length->k9 L (List.range' n k)=L.drop n
 |0,n,h=>by simp[k9,kY (show L.length<=n by omega)]
 |k+1,n,h=>by
  rw[List.range'_succ];unfold k9;rw[dP,Hf L k (n+1) bu];exact(lG bu).symm
def wN(n:Nat):bA Nat->Bool
 |[]=>true
 |i::is=>Nat.blt i n&&wN n is
def Hg{n:Nat}:∀ {is:bA Nat},wN n is=true->∀i∈is,i<n
 |[],_,i,h=>by cases h
 |j::is,a,i,h=>by
  simp only[wN,dy,Nat.blt_eq]at a;rcases ew.1 h with rfl|h;·exact a.1
  ·exact Hg a.2 i h
def Sep.ro(h:Sep E L w)(n:Nat)(is:bA Nat)(c:(oE is&&wN n is)=true):Sep E (k9 L is++L.drop n) w:=by
 simp only[dy]at c;rcases hN L.length n with hl|hl
 ·have:=h.re is c.1;rw[kY bu,hv];exact this
 ·have:=h.re (is++List.range' n (L.length-n)) (Hc (v7.2 ⟨Hb c.1,List.nodup_range',λa d b hb=>by
   have h1:=Hg c.2 a d;have h2:=(List.mem_range'_1.1 hb).1;omega⟩))
  rw[He,Hf L _ n bu]at this;exact this
def Sep.perm{L':ct}(h:Sep E L w)(hp:L.Perm L'):Sep E L' w:=⟨h.env,h.heap.perm hp⟩
def Sep.swap{A B:Asn}(h:Sep E (A::B::L) w):Sep E (B::A::L) w:=⟨h.env,h.heap.swap⟩
def Sep.fr(h:Sep E L w)(i:Nat){A:Asn}(a:L[i]?=some A):Sep E (A::L.eraseIdx i) w:=⟨h.env,dh.fr L i a h.heap⟩
def Sep.tail{A:Asn}(h:Sep E (A::L) w):Sep E L w:=⟨h.env,h.heap.drop⟩
def Sep.left{L':ct}(h:Sep E (L++L') w):Sep E L w:=⟨h.env,h.heap.append_left⟩
def Sep.star{A B:Asn}:Sep E (star A B::L) w↔Sep E (A::B::L) w:=by
 constructor
 ·rintro⟨he,F,⟨c,d,h1,h2,f,a⟩,e,h⟩;refine⟨he,c,h1,λb hb=>e b ((a b).2 (.inl hb)),d,h2,λb hb=>⟨(e b ((a b).2 (.inr hb))).1,?_⟩,h.weaken ?_⟩
  ·rintro(hu|hu);·exact hu
   ·exact f b hu hb
  ·rintro b ((hu|hu)|hu);·exact .inl hu
   ·exact .inr ((a b).2 (.inl hu))
   ·exact .inr ((a b).2 (.inr hu))
 ·rintro⟨he,c,h1,h2,d,f,a,e⟩;refine⟨he,λb=>c b\/d b,⟨c,d,h1,f,λb hb g=>(a b g).2 (.inr hb),λ_=>l6⟩,λb hb=>?_,e.weaken ?_⟩
  ·rcases hb with hb|hb;·exact h2 b hb
   ·exact⟨(a b hb).1,λhu=>hu⟩
  ·rintro b (hu|hu|hu);·exact hu.elim
   ·exact .inl (.inr hu)
   ·exact .inr hu
def Sep.ex{α:Sort _}{f:α->Asn}:Sep E (fa f::L) w↔∃x,Sep E (f x::L) w:=by
 constructor;·rintro⟨he,F,⟨x,hx⟩,h2,a⟩;exact⟨x,he,F,hx,h2,a⟩
 ·rintro⟨x,he,F,hx,h2,a⟩;exact⟨he,F,⟨x,hx⟩,h2,a⟩
def Sep.cG{p:Prop}{A:Asn}:Sep E (cG p A::L) w↔p/\Sep E (A::L) w:=by
 constructor;·rintro⟨he,F,⟨hp,hx⟩,h2,a⟩;exact⟨hp,he,F,hx,h2,a⟩
 ·rintro⟨hp,he,F,hx,h2,a⟩;exact⟨he,F,⟨hp,hx⟩,h2,a⟩
def Sep.emp:Sep E (emp::L) w↔Sep E L w:=by
 constructor;·exact Sep.tail
 ·rintro⟨he,h⟩;exact⟨he,λ_=>False,λ_ h=>h,λ_ h=>h.elim,h.weaken (λ_ hb=>hb.elim id id)⟩
def Sep.block{b:Nat}{c:bA bE}(h:Sep E (bC b c::L) w):∃t z,w.heap[b]?=some (.cells c.toArray t z)/\ud z c.length:=by
 obtain⟨_,F,⟨h1,_⟩,_⟩:=h;exact h1
def Sep.di{b:Nat}{o:Obj}(h:Sep E (c5 b o::L) w):w.heap[b]?=some o:=by
 obtain⟨_,F,⟨h1,_⟩,_⟩:=h;exact h1
def Sep.kq{H:cb Obj}(h:Sep E (dZ H::L) w)(b:Nat)(hb:b<H.size):w.heap[b]?=H[b]? :=by
 obtain⟨_,F,⟨h1,_⟩,_⟩:=h;exact h1 b hb
def Sep.cell{b:Nat}{c:bA bE}(h:Sep E (bC b c::L) w)(o:Nat):w.cell? ⟨b,o,none⟩=c[o]? :=by
 obtain⟨t,z,a,_⟩:=h.block;simp[World.cell?,a]
def Sep.cellAt{b:Nat}{c:bA bE}(i:Nat)(d:L[i]?=some (bC b c))(h:Sep E L w)(o:Nat):w.cell? ⟨b,o,none⟩=c[o]? :=by
 obtain⟨f,a,_⟩:=h.heap.AK;obtain⟨t,z,e,_⟩:=(a i _ d).1.1;simp[World.cell?,e]
def dh.change{A A':Asn}{F F':Nat->Prop}{h h':cb Obj}(d:h.size<=h'.size)(hold:∀b,b<h.size->¬ F b->h'[b]?=h[b]?)(e:A'.holds h' F')(c:∀b,F' b->b<h'.size/\(F b\/h.size<=b)):
  ∀ {L:ct} {U:Nat->Prop},(∀b,F b->U b)->(∀b,U b->b<h.size)->dh L h U->dh L h' (λb=>U b\/F' b)
 |[],_,_,_,_=>trivial
 |B::L,U,a,g,⟨G,h1,h2,f⟩=>by
  refine⟨G,B.loc h1 (λb hb=>hold b (h2 b hb).1 (λhf=>(h2 b hb).2 (a b hf))),λb hb=>⟨lI (h2 b hb).1 d,?_⟩,?_⟩
  ·rintro(hu|hf);·exact(h2 b hb).2 hu
   ·rcases(c b hf).2 with hf|hf;·exact(h2 b hb).2 (a b hf)
    ·exact absurd (h2 b hb).1 (Nat.not_lt.2 hf)
  ·have:=dh.change (A:=A) d hold e c (L:=L) (U:=λb=>U b\/G b) (λb hb=>.inl (a b hb)) (λb hb=>hb.elim (g b) (λi=>(h2 b i).1)) f;exact this.weaken (λb hb=>by
    rcases hb with(hb|hb)|hb;·exact .inl (.inl hb)
    ·exact .inr hb
    ·exact .inl (.inr hb))
def Sep.change{A A':Asn}{w':bI}(h:Sep E (A::L) w)(d:World.env w'=World.env w)(f:w.heap.size<=w'.heap.size)(e:∀F,A.holds w.heap F->(∀b,F b->b<w.heap.size)->(∀b,b<w.heap.size->¬ F b->w'.heap[b]?=w.heap[b]?)/\∃F',A'.holds w'.heap F'/\∀b,F' b->b<w'.heap.size/\(F b\/w.heap.size<=b)):
  Sep E (A'::L) w':=by
 obtain⟨he,F,h1,h2,g⟩:=h;obtain⟨hold,F',a,c⟩:=e F h1 (λb hb=>(h2 b hb).1);refine⟨d.trans he,F',a,λb hb=>⟨(c b hb).1,λhu=>hu⟩,?_⟩;have:=dh.change (A:=A) f hold a c (L:=L) (U:=λb=>False\/F b) (λb hb=>.inr hb) (λb hb=>hb.elim False.elim (λhf=>(h2 b hf).1)) g;exact this.weaken (λb hb=>by
  rcases hb with hb|hb;·exact hb.elim
  ·exact .inr hb)
def Sep.grow{w':bI}(h:Sep E L w)(g:Grow w w'):Sep E L w':=by
 have h1:Sep E (Sp.emp::L) w:=Sep.emp.2 h;refine Sep.emp.1 (h1.change (A':=Sp.emp) ?_ g.size (λF a _=>⟨λb hb _=>g.heap b hb,F,a,λb hb=>(a b hb).elim⟩));simp[World.env,g.os,g.tape,g.output]
def Sep.drew(h:Sep E L w):Sep E L w.drew:=h.grow (Grow.drew w)
def Sep.new{A':Asn}{w':bI}(h:Sep E L w)(g:Grow w w'){F':Nat->Prop}(c:A'.holds w'.heap F')(a:∀b,F' b->w.heap.size<=b/\b<w'.heap.size):Sep E (A'::L) w':=by
 have h1:Sep E (Sp.emp::L) w:=Sep.emp.2 h;refine h1.change (A':=A') ?_ g.size (λF d _=>⟨λb hb _=>g.heap b hb,F',c,λb hb=>⟨(a b hb).2,.inr (a b hb).1⟩⟩);simp[World.env,g.os,g.tape,g.output]
def heap_alloc(w:bI)(o:Obj):(w.alloc o).heap[w.heap.size]?=some o:=by
 show(w.heap.push o)[w.heap.size]?=some o;simp
def size_alloc(w:bI)(o:Obj):(w.alloc o).heap.size=w.heap.size+1:=by
 show(w.heap.push o).size=_;simp
def Sep.alloc(h:Sep E L w)(c:cb bE)(t:cc):Sep E (bC w.heap.size c.toList::L) (w.alloc (.cells c t)):=
 h.new (Grow.alloc w _) (F':=λx=>x=w.heap.size) ⟨⟨t,(0,0),heap_alloc w _,λ_ _ h=>bu⟩,λ_=>l6⟩ (λb hb=>by subst hb;rw[size_alloc];omega)
def Sep.qs(h:Sep E L w)(es:cb MapEntry)(ck:Nat):Sep E (ue w.heap.size es ck::L) (w.alloc (.map es ck)):=
 h.new (Grow.alloc w _) (F':=λx=>x=w.heap.size) ⟨heap_alloc w _,λ_=>l6⟩ (λb hb=>by subst hb;rw[size_alloc];omega)
def Sep.nv(h:Sep E L w)(o:Obj):Sep E (c5 w.heap.size o::L) (w.alloc o):=
 h.new (Grow.alloc w _) (F':=λx=>x=w.heap.size) ⟨heap_alloc w _,λ_=>l6⟩ (λb hb=>by subst hb;rw[size_alloc];omega)
def Sep.eR{b:Nat}{c:bA bE}(h:Sep E (bC b c::L) w){o:Nat}(ho:o<c.length):Vc.eR w ⟨b,o,none⟩:=by
 refine⟨⟨c[o],?_⟩,?_⟩;·rw[h.cell o];simp[ho]
 ·obtain⟨t,z,d,a⟩:=h.block;simpa[World.frozen?,d]using a o ho
def Sep.setCell{b:Nat}{c:bA bE}(h:Sep E (bC b c::L) w)(o:Nat)(v:bE):Sep E (bC b (c.set o v)::L) (w.setCell ⟨b,o,none⟩ v):=by
 obtain⟨t,z,hb,f⟩:=h.block;refine h.change rfl (by simp[World.setCell]) (λF a d=>⟨λx _ hx=>?_,F,⟨?_,a.2⟩,λx hx=>⟨?_,.inl hx⟩⟩)
 ·have:b≠x:=λe=>hx ((a.2 x).2 e.symm);simp[World.setCell,FP,this]
 ·exact⟨t,z,by simp[World.setCell,FP,hb],by simpa using f⟩
 ·simpa[World.setCell]using d x hx
def St.i{b:Nat}{c:bA bE}{v:bE}{f:bf8}(h:Sep E (bC b c::L) w){o:Nat}(ho:o<c.length)(k:∀a,Sep E (bC b (c.set o v)::L) a->f a):St ⟨b,o,none⟩ v f w:=⟨h.eR ho,k _ (h.setCell o v)⟩
def Al.i{c:cb bE}{t:cc}{f:Addr->bf8}(h:Sep E L w)(k:∀b a,Sep E (bC b c.toList::L) a->f ⟨b,0,none⟩ a):Al (.cells c t) f w:=k _ _ (h.alloc c t)
def mL.i{f:Nat->bf8}(h:Sep E L w)(k:∀b a,Sep E (ue b #[] 0::L) a->f b a):mL f w:=k _ _ (h.qs _ _)
def Dr.i{f:bf8}(h:Sep E L w)(k:∀a,Sep E L a->f a):Dr f w:=k _ h.drew
def Ar.i{f:bf8}(h:Sep E L w)(k:∀a,Sep E L a->f a):Ar f w:=λ_ g=>k _ (h.grow g)
def cy:ct->Asn
 |[]=>emp
 |A::a=>star A (cy a)
def Sep.cy:∀ {a:ct} {L:ct},Sep E (cy a::L) w↔Sep E (a++L) w
 |[],_=>Sep.emp
 |A::a,L=>by
  refine Sep.star.trans ⟨λh=>?_,λh=>?_⟩
  ·have h1:=Sep.cy.1 h.swap;exact⟨h1.env,dh.front h1.heap⟩
  ·refine Sep.swap (Sep.cy.2 (h.perm ?_));exact(jf).symm
end
end Go.Sp
namespace Go.Sp
open Go Go.Vc
@[simp] theorem cf(b o n:Nat):(⟨b,o,none⟩:Addr).add n=⟨b,o+n,none⟩:=by
 unfold Addr.add;split;·subst_vars;rfl
 ·rfl
def cv{b:Bool}{A B:Prop}(h1:b=true->A)(h2:b=false->B):bif b then A else B:=by
 cases b;·exact h2 rfl
 ·exact h1 rfl
def eA{A B:Prop}(h:A):bif true then A else B:=h
def dH{A B:Prop}(h:B):bif false then A else B:=h
def use{P:cN}{f:bg5}{args:cb bE}{w:bI}{K:bf9}{R:Ending->bf8}(h:Calls P f args w (cz K))(k:∀v w',K v w'->R (.returned v) w'):Calls P f args w R:=
 h.mono λe w' ⟨v,he,hk⟩=>by subst he;exact k v w' hk
def cP{n:Int}(h1: -9223372036854775808<=n)(h2:n<=9223372036854775807):i64.wrap n=n:=by
 unfold IntKind.wrap;simp only[IntKind.signed,IntKind.bits,l5];by_cases a:n%2^64≥2^(64-1);·rw[bK (by simpa using a)];omega
 ·rw[bJ (by simpa using a)];omega
def ig(c:bA bE)(o:Nat):bA bE->bA bE
 |[]=>c
 |v::r=>ig (c.set o v) (o+1) r
@[simp] theorem Ue:∀(vs:bA bE) (c:bA bE) (o:Nat),(ig c o vs).length=c.length
 |[],_,_=>rfl
 |v::r,c,o=>by rw[ig,Ue r];simp
def Hh:∀(vs:bA bE) (c:bA bE) (o i:Nat),(ig c o vs)[i]?=if o<=i/\i<o+vs.length/\i<c.length then vs[i-o]? else c[i]?
 |[],c,o,i=>by
  have:¬ (o<=i/\i<o+0/\i<c.length):=by omega
  simp only[ig,p0,bJ this]
 |v::r,c,o,i=>by
  rw[ig,Hh r];simp only[dW,hM,hd];by_cases h1:o=i
  ·subst h1;by_cases h2:o<c.length
   ·have:¬ (o+1<=o/\o<o+1+r.length/\o<c.length):=by omega
    rw[bJ this,bK rfl,bK h2,eK];simp
   ·have:¬ (o+1<=o/\o<o+1+r.length/\o<c.length):=by omega
    rw[bJ this,bK rfl,bJ h2,cD];simp;omega
  ·rw[bJ h1];by_cases h2:o+1<=i/\i<o+1+r.length/\i<c.length
   ·rw[bK h2,eK];rw[show i-o=(i-(o+1))+1 by omega];simp
   ·rw[bJ h2,cD]
def oF:∀(vs c:bA bE) (o:Nat),o+vs.length<=c.length->ig c o vs=c.take o++vs++c.drop (o+vs.length):=by
 intro vs c o hl;apply hg;intro i;rw[Hh];by_cases h1:o<=i/\i<o+vs.length/\i<c.length
 ·rw[bK h1,dj,fM (by simp;omega),eM (by simp;omega)];simp[show min o c.length=o by omega]
 ·rw[bJ h1];by_cases h2:i<o;·rw[dj,eM (by simp;omega)];simp[h2]
  ·by_cases a:i<c.length
   ·rw[fM (by simp;omega)];simp only[dd,hF,pY];congr 1;omega
   ·rw[gQ bu,gQ (by simp;omega)]
section
variable{E:Env}{L:ct}{w:bI}{P:cN}
def Sep.setCells{b:Nat}:∀(vs:bA bE) {c:bA bE} {w:bI} (_:Sep E (bC b c::L) w) (o:Nat),Sep E (bC b (ig c o vs)::L) (w.setCells b o vs)
 |[],_,_,h,_=>h
 |v::r,_,_,h,o=>Sep.setCells r (h.setCell o v) (o+1)
def Sep.isSome{b:Nat}{c:bA bE}(h:Sep E (bC b c::L) w){o:Nat}(ho:o<c.length):(w.cell? ⟨b,o,none⟩).isSome=true:=by
 rw[h.cell o];simp[ho]
def Sep.qt{b:Nat}{c:bA bE}(h:Sep E (bC b c::L) w){o:Nat}(ho:o<c.length):w.frozen? ⟨b,o,none⟩=false:=(h.eR ho).2
def Hi(b:Nat):∀(vs:bA bE) (w:bI) (o i:Nat),rP w ⟨b,o,none⟩ i vs=w.setCells b (o+i) vs
 |[],_,_,_=>rfl
 |v::r,w,o,i=>by rw[rP,cf,Hi b r,World.setCells];rfl
def eL.j{b:Nat}{c:bA bE}{v:bE}{f:bf8}{o n:Nat}(h:Sep E (bC b c::L) w)(ho:o+n<c.length)(k:∀a,Sep E (bC b (c.set (o+n) v)::L) a->f a):St ((⟨b,o,none⟩:Addr).add n) v f w:=by
 rw[cf];exact St.i h ho k
def kN.i{b:Nat}{c:bA bE}{f:bf8}{o:Nat}{vs:bA bE}(h:Sep E (bC b c::L) w)(hl:o+vs.length<=c.length)(k:∀a,Sep E (bC b (ig c o vs)::L) a->f a):kN vs ⟨b,o,none⟩ f w:=by
 have go:∀(vs:bA bE) (i:Nat) {c:bA bE} {w:bI} (_:Sep E (bC b c::L) w) (_:o+i+vs.length<=c.length) (_:∀a,Sep E (bC b (ig c (o+i) vs)::L) a->f a),rO vs ⟨b,o,none⟩ i w f:=by
  intro vs;induction vs with
  |nil=>intro i c w h _ k;exact k _ h
  |cons v r d=>
   intro i c w h hl k;simp only[hM]at hl;refine⟨by rw[cf];exact h.eR bu,?_⟩;rw[cf];refine d (i+1) (h.setCell (o+i) v) (by simp;omega) (λa h1=>k a h1)
 exact go vs 0 h hl k
def tS.i{b:Nat}{c:bA bE}{f:bf8}{o n:Nat}{k:IntKind}{v:bE}(a:bS)(h:Sep E (bC b c::L) w)(e:v=.agg (a.map (Value.int k)).toArray)(hn:a.length=n)(hl:o+n<=c.length)(g:∀d,Sep E (bC b (ig c o (a.map (Value.int k)))::L) d->f d):tS n k v ⟨b,o,none⟩ w f:=by
 refine⟨a,e,hn,λi j=>?_,?_⟩;·rw[cf];exact h.eR bu
 ·rw[Hi];exact g _ (h.setCells _ _)
def hi(P:cN)(t:cc):bV (Nat×Nat×bA bE):=
 match P.underlying t with
 |some (.slice e)=>match P.info? e with
  |some i=>match i.zero with
   |some z=>some (i.bytes,i.size,z.cells.toList)
   |none=>none
  |none=>none
 |_=>none
def pj{t:cc}{c9 sz:Nat}{zs:bA bE}(h:hi P t=some (c9,sz,zs)):∃e i z,P.underlying t=some (.slice e)/\P.info? e=some i/\i.zero=some z/\i.bytes=c9/\i.size=sz/\z.cells.toList=zs:=by
 unfold hi at h;split at h
 ·next e he=>
  split at h
  ·next i a=>
   split at h;·next z b=>simp only[fS,ot]at h;exact⟨e,i,z,he,a,b,h.1,h.2.1,h.2.2⟩
   ·simp at h
  ·simp at h
 ·simp at h
def AL(P:cN)(t:cc):Bool:=
 match P.underlying t with
 |some (.slice e)=>match P.underlying e with
  |some (.int .u8)=>true
  |_=>false
 |_=>false
def AM{t:cc}(h:AL P t=true):∃e,P.underlying t=some (.slice e)/\P.underlying e=some (.int .u8):=by
 unfold AL at h;split at h
 ·next e he=>
  split at h;·next h2=>exact⟨e,he,h2⟩
  ·simp at h
 ·simp at h
def Uf{t:cc}(h:pd P t=true):P.underlying t=some .string:=by
 unfold pd at h;split at h;·assumption
 ·simp at h
def makeSlice.i(h:Sep E L w){t:cc}{c9 sz:Nat}{zs:bA bE}(q:hi P t=some (c9,sz,zs)){n m:IntKind}{l c:Int}(o:0<=l)(g:l<=c)(hb:(c9:Int)*c<=281474976710656)(d:c<=9223372036854775807){G:Sl->bf8}(k:∀b a,Sep E (bC b ((List.range (c.toNat*sz)).map λi=>(zs.toArray)[i%zs.length]!)::L) a->G ⟨some ⟨b,0,none⟩,l.toNat,c.toNat⟩ a):
  ∃x:Sl,∃a,Sem.run P (Instr.makeSlice t (.int n l) (.int m c)) w=.ok (.slice x.p x.n x.c) a/\G x a:=by
 obtain⟨e,i,z,s,p,u,f,r,j⟩:=pj q;subst f r j;have:=h.alloc (madeCells z.cells (c.toNat*i.size)) e;refine⟨⟨_,_,_⟩,_,run_make w t e i z s p u n m l c o g hb d,k _ _ ?_⟩;simpa[madeCells]using this
def g9(l:bA UInt8):bA bE:=l.map λb=>Value.int .u8 b.toNat
@[simp] theorem uf(l:bA UInt8)(i:Nat):(g9 l)[i]?=l[i]?.map λb=>Value.int .u8 b.toNat:=by simp[g9]
@[simp] theorem Ug(l:bA UInt8):(g9 l).length=l.length:=by simp[g9]
def mj.i(h:Sep E L w){t:cc}{c9 sz m:Nat}(g:hi P t=some (c9,sz,g9 (List.replicate m 0)))(hm:0<m){n j:IntKind}{l:Int}(f:0<=l)(hb:(c9:Int)*l<=281474976710656)(c:l<=9223372036854775807){G:Sl->bf8}(k:∀b a,Sep E (bC b (g9 (List.replicate (l.toNat*sz) 0))::L) a->G ⟨some ⟨b,0,none⟩,l.toNat,l.toNat⟩ a):
  ∃x:Sl,∃a,Sem.run P (Instr.makeSlice t (.int n l) (.int j l)) w=.ok (.slice x.p x.n x.c) a/\G x a:=by
 refine makeSlice.i h g f (g2 _) hb c (λb a h1=>k b a ?_);have:((List.range (l.toNat*sz)).map λi=>((g9 (List.replicate m 0)).toArray)[i%(g9 (List.replicate m 0)).length]!)=g9 (List.replicate (l.toNat*sz) 0):=by
  apply hg;intro i;simp only[eC,Ug,mE,uf];have e:i%m<m:=kM _ hm;by_cases d:i<l.toNat*sz;·simp[d,g9,e]
  ·simp[d]
 rw[this]at h1;exact h1
def toStr.i(l:bA UInt8){b o n c:Nat}{C:bA bE}{s d:cc}(m:Nat)(h:Sep E L w)(p:L[m]?=some (bC b C))(q:AL P s=true)(i:pd P d=true)(hn:l.length=n)(g:∀j (a:j<l.length),C[o+j]?=some (.int .u8 (l[j].toNat:Int))){G:ByteArray->bf8}(k:G ⟨l.toArray⟩ w):
  ∃x:ByteArray,∃f,Sem.run P (convert s d (.slice (some ⟨b,o,none⟩) n c)) w=.ok (.string x) f/\G x f:=by
 subst hn;obtain⟨e,h1,h2⟩:=AM q;exact⟨_,_,run_convert_bytes_back w s d e ⟨b,o,none⟩ c l h1 h2 (Uf i) (λj a=>by rw[cf,h.cellAt m p];exact g j a),k⟩
def oG.i{b o n c:Nat}{C:bA bE}{s:ByteArray}{f st ty:cc}{c9:Nat}{zs:bA bE}(h:Sep E (bC b C::L) w)(p:hi P f=some (c9,1,zs))(hn:s.size=n)(v:o+n<=C.length){G:Int->bf8}(k:∀a,Sep E (bC b (ig C o (byteCells s))::L) a->G (n:Int) a):
  ∃x:Int,∃a,Sem.run P (Builtin.copy_ #[f,st] ty #[.slice (some ⟨b,o,none⟩) n c,.string s]) w=.ok (.int .i64 x) a/\G x a:=by
 subst hn;obtain⟨e,i,z,q,l,y,r,g,t⟩:=pj p;have hl:(byteCells s).length=s.size:=byteCells_length s;have d:=run_storeCells_cells (P:=P) b o (byteCells s) 0 w (λj m=>h.isSome bu) (λj m=>h.qt bu) (λu hu=>by
  obtain⟨_,_,rfl⟩:=fA.1 hu;rfl)
 refine⟨(s.size:Int),w.setCells b o (byteCells s),?_,k _ (h.setCells _ _)⟩;have hf:=firstCells_string (P:=P) s w;simp only[lK]at d;simp[Builtin.copy_,run_underlying q,Builtin.lenOf,sizeOf,typeInfo,l,g,hf,d,goInt]
def append.i{b o n c:Nat}{C:bA bE}{x:bE}{k:Nat}{news:bA bE}{st p ty:cc}{c9 sz:Nat}{zs:bA bE}(h:Sep E (bC b C::L) w)(K:hi P st=some (c9,sz,zs))(r:Src P sz p x k news w)(Q:o+n*sz<=C.length)(g:n+k<=c->o+(n+k)*sz<=C.length)(t:((n+k:Nat):Int)<=9223372036854775807)(q:c<n+k->Builtin.nextslicecap (n+k) c*c9<=281474976710656){G:Sl->bf8}(N:n+k<=c->∀d,Sep E (bC b (ig C (o+n*sz) news)::L) d->G ⟨some ⟨b,o,none⟩,n+k,c⟩ d)(O:c<n+k->∀s c' d,n+k<=c'->Sep E (bC s ((C.drop o).take (n*sz)++news++(Builtin.zeroCells zs.toArray (c'-(n+k))).toList)::bC b C::L) d->G ⟨some ⟨s,0,none⟩,n+k,c'⟩ d):
  ∃m:Sl,∃d,Sem.run P (Builtin.append_ #[st,p] ty #[.slice (some ⟨b,o,none⟩) n c,x]) w=.ok (.slice m.p m.n m.c) d/\G m d:=by
 obtain⟨e,i,z,H,y,M,u,D,I⟩:=pj K;subst u D I;by_cases hr:n+k<=c
 ·have hl:=r.newsLen;have F:=g hr;rw[kj]at F;exact⟨⟨_,_,_⟩,_,run_append_room_src w st p ty e i H y b o n c x k news r hr (λj l=>h.isSome bu) (λj l=>h.qt bu),N hr _ (h.setCells _ _)⟩
 ·have f:c<n+k:=by omega
  let a:bA bE:=(C.drop o).take (n*i.size);have B:a.length=n*i.size:=by simp[a];omega
  have hold:(Builtin.firstCells i.size n (.slice (some ⟨b,o,none⟩) n c)).run P w.drew=.ok a.toArray w.drew:=by
   refine run_firstCells_some w.drew i.size n ⟨b,o,none⟩ n c a B (λj v l=>?_);have A:j<n*i.size:=by
    rcases hN j (n*i.size)with h' | h';·exact h'
    ·simp[gQ (show a.length<=j by omega)]at l
   rw[cf,h.drew.cell];rw[<- l];simp[a,A]
  have J:=run_append_grow_src w st p ty e i z H y M (some ⟨b,o,none⟩) n c a hold x k news r f t (q f);refine⟨⟨_,_,_⟩,_,J,?_⟩;refine O f w.heap.size (grownCap w (n+k) c e) _ ?_ ?_;·show n+k<=n+k+_;omega
  ·have:=h.drew.alloc ((a++news).toArray++Builtin.zeroCells z.cells (grownCap w (n+k) c e-(n+k))) e;simpa[a]using this
def jA.i{c:Nat}{x:bE}{k:Nat}{news:bA bE}{st f ty:cc}{c9 sz:Nat}{zs:bA bE}(h:Sep E L w)(q:hi P st=some (c9,sz,zs))(r:Src P sz f x k news w)(v:c<k)(j:(k:Int)<=9223372036854775807)(d:Builtin.nextslicecap k c*c9<=281474976710656){G:Sl->bf8}(u:∀g c' a,k<=c'->Sep E (bC g (news++(Builtin.zeroCells zs.toArray (c'-k)).toList)::L) a->G ⟨some ⟨g,0,none⟩,k,c'⟩ a):
  ∃b:Sl,∃a,Sem.run P (Builtin.append_ #[st,f] ty #[.slice none 0 c,x]) w=.ok (.slice b.p b.n b.c) a/\G b a:=by
 obtain⟨e,i,z,s,p,t,l,m,n⟩:=pj q;subst l m n;have hold:(Builtin.firstCells i.size 0 (.slice none 0 c)).run P w.drew=.ok ([]:bA bE).toArray w.drew:=run_firstCells_none w.drew i.size 0 0 c;have o:=run_append_grow_src w st f ty e i z s p t none 0 c [] hold x k news r bu (by simpa using j) (by simpa using d);refine⟨⟨_,_,_⟩,_,o,?_⟩;have e0:0+k=k:=fx k;rw[e0];refine u w.heap.size (grownCap w k c e) _ ?_ ?_;·show k<=k+_;omega
 ·have:=h.drew.alloc (news.toArray++Builtin.zeroCells z.cells (grownCap w k c e-k)) e;simpa using this
end
end Go.Sp
namespace Go.Sp
open Go Go.Vc
inductive LK where
 |int (k:IntKind)|bool|str
def LK.ok:LK->bE->Prop
 |.int k,v=>∃n,v=.int k n
 |.bool,v=>∃b,v=.bool b
 |.str,v=>∃s,v=.string s
def lb(P:cN)(a:cc->bV (bA LK)):bA Field->Nat->bV (bA LK)
 |[],_=>some []
 |f::fs,o=>match f.name== "_",Nat.beq f.offset o,a f.type with
  |false,true,some l=>match ix P f.type with
   |some n=>match Nat.beq n l.length with
    |true=>match lb P a fs (o+l.length)with
     |some r=>some (l++r)
     |none=>none
    |false=>none
   |none=>none
  |_,_,_=>none
def ku(P:cN):Nat->cc->bV (bA LK)
 |0,_=>none
 |d+1,t=>match P.underlying t with
  |some (.int k)=>some [.int k]
  |some .bool=>some [.bool]
  |some .string=>some [.str]
  |some (.struct fs)=>match P.stoodInHeld t with
   |true=>none
   |false=>lb P (ku P d) fs.toList 0
  |_=>none
def Cells:bA LK->bA bE->Prop
 |[],[]=>True
 |k::ks,v::vs=>k.ok v/\Cells ks vs
 |_,_=>False
def Cells.length:∀ {l:bA LK} {vs:bA bE},Cells l vs->vs.length=l.length
 |[],[],_=>rfl
 |_::_,_::_,h=>by simp[Cells.length h.2]
 |[],_::_,h=>h.elim
 |_::_,[],h=>h.elim
def Cells.append:∀ {l r:bA LK} {vs:bA bE},Cells (l++r) vs->Cells l (vs.take l.length)/\Cells r (vs.drop l.length)
 |[],_,_,h=>⟨trivial,h⟩
 |_::_,_,_::_,h=>⟨⟨h.1,(Cells.append h.2).1⟩,(Cells.append h.2).2⟩
 |_::_,_,[],h=>h.elim
def Typed(P:cN)(t:cc)(l:bA LK)(v:bE):Prop:=
 match ej P t with
 |some true=>∃cs:cb bE,v=.agg cs/\Cells l cs.toList
 |_=>Cells l [v]
section
variable{P:cN}
def Uh{t:cc}{n:Nat}(h:ix P t=some n):∃i,P.info? t=some i/\i.size=n:=by
 unfold ix at h;cases a:P.info? t with
 |none=>simp[a]at h
 |some i=>simp[a]at h;exact⟨i,rfl,h⟩
def AN{l:LK}{a b:bE}(c:l.ok a)(hb:l.ok b){t:cc}(d:Nat)(e:(match l with | .int k=>P.underlying t=some (.int k) | .bool=>P.underlying t=some .bool | .str=>P.underlying t=some .string))(w:bI):
  ∃r,(Op.equalIn (d+1) t a b).run P w=.ok r w/\(r=true↔a=b):=by
 cases l with
 |int k=>
  obtain⟨x,rfl⟩:=c;obtain⟨y,rfl⟩:=hb;exact⟨x==y,run_equalIn_int w d t k k x y e,by simp⟩
 |bool=>
  obtain⟨x,rfl⟩:=c;obtain⟨y,rfl⟩:=hb;exact⟨x==y,run_equalIn_bool w d t x y e,by simp⟩
 |str=>
  obtain⟨x,rfl⟩:=c;obtain⟨y,rfl⟩:=hb;refine⟨x.toList==y.toList,run_equalIn_string w d t x y e,?_⟩;rw[<- beq_toListBytes,MapKept.bytes_beq];simp
def AO{t:cc}{d:TypeDesc}(h:P.underlying t=some d)(h1:∀fs,d≠ .struct fs)(h2:∀n e,d≠ .array n e):ej P t=some false:=by
 unfold ej;rw[h];cases d<;>simp_all
def AP{t:cc}{l r:bA LK}{n:Nat}{xs:cb bE}{o:Nat}(u:ix P t=some n)(hn:n=l.length)(m:ej P t≠none)(h1:ej P t=some false->l.length=1)(p:Cells (l++r) (xs.toList.drop o))(w:bI):
  ∃v,(part t xs o).run P w=.ok v w/\Typed P t l v/\v.cells.toList=(xs.toList.drop o).take l.length/\(ej P t=some false->xs.toList.drop o=v::xs.toList.drop (o+1)):=by
 obtain⟨i,s,q⟩:=Uh u;obtain⟨hl,_⟩:=p.append;cases a:ej P t with
 |none=>exact absurd a m
 |some b=>cases b with
  |true=>
   have c:(isAgg t).run P w=.ok true w:=by
    unfold ej at a;cases hu:P.underlying t with
    |none=>simp[hu]at a
    |some d=>cases d<;>simp[hu]at a<;>simp[isAgg,run_underlying hu]
   refine⟨.agg (xs.extract o (o+n)),?_,?_,?_,λh=>by simp at h⟩;·simp[part,c,sizeOf,typeInfo,s,q]
   ·unfold Typed;rw[a];refine⟨_,rfl,?_⟩;have:(xs.extract o (o+n)).toList=(xs.toList.drop o).take l.length:=by
     rw[Array.toList_extract,List.extract,hn];simp
    rw[this];exact hl
   ·show(xs.extract o (o+n)).toList=_;rw[Array.toList_extract,List.extract,hn];simp
  |false=>
   have c:(isAgg t).run P w=.ok false w:=by
    unfold ej at a;cases hu:P.underlying t with
    |none=>simp[hu]at a
    |some d=>cases d<;>simp[hu]at a<;>simp[isAgg,run_underlying hu]
   have f:=h1 a;have hlen:=p.length;simp only[dd,nR,tt]at hlen;have ho:o<xs.size:=by omega
   have j:xs.toList.drop o=xs[o]::xs.toList.drop (o+1):=by
    rw[lG (by simpa using ho)];simp
   rw[f,j]at hl;have e:Cells l [xs[o]]:=by simpa using hl
   have g:xs[o].cells.toList= [xs[o]]:=by
    cases l with
    |nil=>simp at f
    |cons k ks=>
     have:=e.1;cases k<;>(obtain⟨_,h⟩:=this;rw[h];rfl)
   refine⟨xs[o],?_,?_,?_,λ_=>j⟩;·simp[part,c,ho]
   ·unfold Typed;rw[a];exact e
   ·rw[g,f,j];simp
def Hj{d:Nat}{t:cc}{l:bA LK}(h:ku P d t=some l):ej P t≠none/\(ej P t=some false->l.length=1):=by
 cases d with
 |zero=>simp[ku]at h
 |succ d=>
  unfold ku at h;unfold ej;cases hu:P.underlying t with
  |none=>simp[hu]at h
  |some x=>cases x<;>simp[hu]at h<;>simp<;>(try subst h)<;>rfl
def Hk:∀(d:Nat) (t:cc) (l:bA LK),ku P d t=some l->∀(D:Nat),d<=D->∀(a b:bE),Typed P t l a->Typed P t l b->∀w,∃r,(Op.equalIn D t a b).run P w=.ok r w/\(r=true↔a=b):=by
 intro d;induction d with
 |zero=>intro t l h;simp[ku]at h
 |succ d Y=>
  intro t l h D ae a b c hb w;obtain⟨D,rfl⟩:∃U,D=U+1:=⟨D-1,bu⟩
  unfold ku at h;cases hu:P.underlying t with
  |none=>simp[hu]at h
  |some x=>
   cases x<;>simp only[hu]at h<;>try (simp at h;done)
   case bool=>
    simp only[fS]at h;subst h;have g:=AO hu (by simp) (by simp);unfold Typed at c hb;rw[g]at c hb;exact AN (l:=.bool) c.1 hb.1 D hu w
   case int k=>
    simp only[fS]at h;subst h;have g:=AO hu (by simp) (by simp);unfold Typed at c hb;rw[g]at c hb;exact AN (l:=.int k) c.1 hb.1 D hu w
   case string=>
    simp only[fS]at h;subst h;have g:=AO hu (by simp) (by simp);unfold Typed at c hb;rw[g]at c hb;exact AN (l:=.str) c.1 hb.1 D hu w
   case struct fs=>
    cases z:P.stoodInHeld t with
    |true=>simp[z]at h
    |false=>
     simp only[z]at h;have g:ej P t=some true:=by unfold ej;rw[hu]
     unfold Typed at c hb;rw[g]at c hb;obtain⟨xs,rfl,hx⟩:=c;obtain⟨p,rfl,X⟩:=hb;have hf:P.fieldsOf t=fs:=by simp[Program.fieldsOf,hu]
     have m:=run_equalIn_struct (P:=P) w D t xs p (by rw[hf];exact hu) z;rw[hf]at m;rw[m];have key:∀(s:bA Field) (o:Nat) (l:bA LK),lb P (ku P d) s o=some l->Cells l (xs.toList.drop o)->Cells l (p.toList.drop o)->∃r,(Op.eqFields D xs p s).run P w=.ok r w/\(r=true↔xs.toList.drop o=p.toList.drop o):=by
      intro s;induction s with
      |nil=>
       intro o l hl h1 h2;simp only[lb,fS]at hl;subst hl;have m:=h1.length;have A:=h2.length;refine⟨true,by simp[Op.eqFields],?_⟩;simp only[p0]at m A;simp[tn m,tn A]
      |cons f s R=>
       intro o l hl h1 h2;unfold lb at hl;split at hl
       ·next i hn ho C=>
        split at hl
        ·next n O=>
         split at hl
         ·next L=>
          split at hl
          ·next r hr=>
           simp only[fS]at hl;subst hl;have E:f.name≠ "_" :=by simpa using hn
           have M:=m9 ho;have y:=m9 L;obtain⟨H,q2⟩:=Hj C;obtain⟨I,S,q,ca,_⟩:=AP O y H q2 h1 w;obtain⟨J,T,tb,W,_⟩:=AP O y H q2 h2 w;obtain⟨Z,B,F⟩:=Y f.type i C D bu I J q tb w;have d1:=h1.append.2;have d2:=h2.append.2;rw[p1]at d1 d2;obtain⟨aa,K,N⟩:=R (o+i.length) r hr d1 d2;have u:I=J↔(xs.toList.drop o).take i.length=(p.toList.drop o).take i.length:=by
            rw[<- ca,<- W];constructor;·intro e;rw[e]
            ·intro e;unfold Typed at q tb;cases g:ej P f.type with
             |none=>exact absurd g H
             |some V=>cases V with
              |true=>
               rw[g]at q tb;obtain⟨ab,rfl,_⟩:=q;obtain⟨ad,rfl,_⟩:=tb;have:ab.toList=ad.toList:=e;rw[Array.toList_inj.1 this]
              |false=>
               rw[g]at q tb;have one:∀ {v:bE},Cells i [v]->v.cells.toList= [v]:=by
                intro v Q;cases i with
                |nil=>exact Q.elim
                |cons k ks=>
                 have:=Q.1;cases k<;>(obtain⟨_,h⟩:=this;rw[h];rfl)
               rw[one q,one tb]at e;simpa using e
           have j:(xs.toList.drop o=p.toList.drop o)↔(I=J/\xs.toList.drop (o+i.length)=p.toList.drop (o+i.length)):=by
            rw[u,<- p1,<- p1];constructor;·intro e;rw[e];exact⟨rfl,rfl⟩
            ·rintro⟨m,A⟩;rw[<- fK i.length (xs.toList.drop o),m,A,fK]
           subst M;cases Z with
           |false=>
            refine⟨false,?_,?_⟩;·simp[Op.eqFields,E,S,T,B]
            ·rw[j];constructor;·intro h;cases h
             ·intro h;exact absurd (F.2 h.1) (by simp)
           |true=>
            refine⟨aa,?_,?_⟩
            ·simp only[Op.eqFields,bK E,Sem.run_bind,S,T,B,Result.andThen_ok];simpa using K
            ·rw[j,N];exact⟨λh=>⟨F.1 rfl,h⟩,λh=>h.2⟩
          ·simp at hl
         ·simp at hl
        ·simp at hl
       ·simp at hl
     obtain⟨r,hr,G⟩:=key fs.toList 0 l h (by simpa using hx) (by simpa using X);refine⟨r,hr,?_⟩;rw[G];simp only[rI,Value.agg.injEq];exact Array.toList_inj
def kl.neq{d:Nat}{t:cc}{l:bA LK}(h:ku P d t=some l)(f:d<=10000)(g:P.eqGuardType P.depth t=false)(e:ej P t=some true){a b:bE}(c:Typed P t l a)(hb:Typed P t l b):∃r,kl P .neq t a b r/\(r=false↔a=b):=by
 have key:=Hk d t l h 10000 f a b c hb;unfold Typed at c hb;rw[e]at c hb;obtain⟨xs,rfl,_⟩:=c;obtain⟨m,rfl,_⟩:=hb;obtain⟨r,_,hr⟩:=key default;refine⟨!r,⟨λj k w=>by simp[eqGuard,g],λw=>?_⟩,by cases r<;>simp_all⟩;obtain⟨r',h1,i⟩:=key w;have:r'=r:=by cases r<;>cases r'<;>simp_all
 subst this;rw[run_neq_struct,h1];rfl
def Ui(e:Bool):∀(d:Nat) (t:cc) (l:bA LK),ku P d t=some l->∀(D:Nat),d<=D->∀(a:bE),Typed P t l a->∀w,(Instr.checkKey e D t a).run P w=.ok () w:=by
 intro d;induction d with
 |zero=>intro t l h;simp[ku]at h
 |succ d C=>
  intro t l h D I a i w;obtain⟨D,rfl⟩:∃v,D=v+1:=⟨D-1,bu⟩
  unfold ku at h;cases hu:P.underlying t with
  |none=>simp[hu]at h
  |some x=>
   cases x<;>simp only[hu]at h<;>try (simp at h;done)
   case bool=>simp[Instr.checkKey,run_underlying hu]
   case int k=>simp[Instr.checkKey,run_underlying hu]
   case string=>simp[Instr.checkKey,run_underlying hu]
   case struct fs=>
    cases g:P.stoodInHeld t with
    |true=>simp[g]at h
    |false=>
     simp only[g]at h;have A:ej P t=some true:=by unfold ej;rw[hu]
     unfold Typed at i;rw[A]at i;obtain⟨xs,rfl,hx⟩:=i;have key:∀(b:bA Field) (o:Nat) (l:bA LK),lb P (ku P d) b o=some l->Cells l (xs.toList.drop o)->
       (forIn b PUnit.unit λf _=>do
        if f.name≠ "_" then Instr.checkKey e D f.type (<- part f.type xs f.offset)
        pure (ForInStep.yield PUnit.unit):Sem PUnit).run P w=.ok PUnit.unit w:=by
      intro b;induction b with
      |nil=>intro o l hl h1;simp
      |cons f b s=>
       intro o l hl h1;unfold lb at hl;split at hl
       ·next u hn ho c=>
        split at hl
        ·next n B=>
         split at hl
         ·next p=>
          split at hl
          ·next r hr=>
           simp only[fS]at hl;subst hl;have m:f.name≠ "_" :=by simpa using hn
           have q:=m9 ho;have j:=m9 p;obtain⟨F,q2⟩:=Hj c;obtain⟨H,E,G,ca,_⟩:=AP B j F q2 h1 w;have d1:=h1.append.2;rw[p1]at d1;have z:=s (o+u.length) r hr d1;subst q;have y:=C f.type u c D bu H G w;simp only[List.forIn_cons,Sem.run_bind,bK m,E,y,Result.andThen_ok,Sem.run_pure];exact z
          ·simp at hl
         ·simp at hl
        ·simp at hl
       ·simp at hl
     have:=key fs.toList 0 l h (by simpa using hx);simp only[Instr.checkKey,Sem.run_bind,run_underlying hu,Result.andThen_ok];simp at this ⊢;rw[this];rfl
end
end Go.Sp
namespace Go.Sp
open Go Go.Vc
structure h5(P:cN)(kt:cc){κ:Type}(enc:κ->bE):Prop where
 inj:∀a b,enc a=enc b->a=b
 pk:∀e k w,(Instr.checkKey e 10000 kt (enc k)).run P w=.ok () w
 some_:∀k (es:bA MapEntry) i e w,(∀e∈es,∃k',e.key=enc k')->es[i]?=some e->e.key=enc k->(∀j e',j<i->es[j]?=some e'->e'.key≠enc k)->(Instr.findKey kt (enc k) es).run P w=.ok (some (i,e.val)) w
 none_:∀k (es:bA MapEntry) w,(∀e∈es,∃k',e.key=enc k')->(∀e∈es,e.key≠enc k)->(Instr.findKey kt (enc k) es).run P w=.ok none w
 stay:∀k,Instr.sameBits 10000 (enc k) (enc k)=true
section
variable{P:cN}{kt:cc}
def Hl{d:TypeDesc}{k:bE}:
  ∀(es:bA MapEntry) (n i:Nat) (e:MapEntry),es[i]?=some e->Instr.sameNow d k e.key=some true->(∀j e',j<i->es[j]?=some e'->Instr.sameNow d k e'.key=some false)->Instr.findNow d k es n=some (some (n+i,e.val))
 |[],_,_,_,h,_,_=>by simp at h
 |x::es,n,0,e,h,h1,_=>by
  simp only[lH,fS]at h;subst h;simp[Instr.findNow,h1]
 |x::es,n,i+1,e,h,h1,h2=>by
  have a:=h2 0 x bu rfl;simp only[Instr.findNow,a];rw[Hl es (n+1) i e (by simpa using h) h1 (λj e' b he=>h2 (j+1) e' bu (by simpa using he))];rw[show n+1+i=n+(i+1) by omega]
def Hm{d:TypeDesc}{k:bE}:∀(es:bA MapEntry) (n:Nat),(∀e∈es,Instr.sameNow d k e.key=some false)->Instr.findNow d k es n=some none
 |[],_,_=>rfl
 |x::es,n,h=>by
  simp only[Instr.findNow,h x (by simp)];exact Hm es (n+1) (λe he=>h e (by simp[he]))
def Uj{q:IntKind}(hk:P.underlying kt=some (.int q))(e:Bool)(n:Nat)(v:bE)(w:bI):(Instr.checkKey e (n+1) kt v).run P w=.ok () w:=by
 simp[Instr.checkKey,run_underlying hk]
def Hn(n:Nat)(q:IntKind)(k:Int):Instr.sameBits n (.int q k) (.int q k)=true:=by
 cases n<;>simp[Instr.sameBits]
def Uk(n:Nat)(k:Bool):Instr.sameBits n (.bool k) (.bool k)=true:=by
 cases n<;>simp[Instr.sameBits]
def Ul(n:Nat)(k:ByteArray):Instr.sameBits n (.string k) (.string k)=true:=by
 cases n<;>simp[Instr.sameBits,MapKept.bytes_beq]
def h5.int{q:IntKind}(hk:P.underlying kt=some (.int q)):h5 P kt (λn:Int=>Value.int q n) where
 inj:=λa b h=>by simpa using h
 pk:=λe k w=>Uj hk e 9999 _ w
 some_:=λk es i e w f p l m=>by
  have hf:∀e'∈es,∃n,e'.key=.int q n:=f;have:=Hl (d:=.int q) (k:=.int q k) es 0 i e p (by rw[l];simp[Instr.sameNow]) (λj e' r he=>by
   obtain⟨n,hn⟩:=hf e' (eI he);have c:=m j e' r he;rw[hn]at c ⊢;simp only[Instr.sameNow,g3,fS,vX];intro g;exact c (by rw[g]))
  simp[Instr.findKey,run_underlying hk,this]
 none_:=λk es w f o=>by
  have:=Hm (d:=.int q) (k:=.int q k) es 0 (λe he=>by
   obtain⟨n,hn⟩:=f e he;have c:=o e he;rw[hn]at c ⊢;simp only[Instr.sameNow,g3,fS,vX];intro g;exact c (by rw[g]))
  simp[Instr.findKey,run_underlying hk,this]
 stay:=λk=>Hn _ _ _
def Ho{k:bE}{w:bI}:∀(es:bA MapEntry) (n i:Nat) (e:MapEntry),(∀e∈es,∃r:Bool,(Op.equal kt k e.key).run P w=.ok r w/\(r=true↔k=e.key))->es[i]?=some e->e.key=k->(∀j e',j<i->es[j]?=some e'->e'.key≠k)->
  (Instr.findAsking kt k es n).run P w=.ok (some (n+i,e.val)) w
 |[],_,_,_,_,h,_,_=>by simp at h
 |x::es,n,0,e,b,h,h1,_=>by
  simp only[lH,fS]at h;subst h;obtain⟨r,hr,a⟩:=b x (by simp);have:r=true:=a.2 h1.symm;subst this;simp[Instr.findAsking,hr]
 |x::es,n,i+1,e,b,h,h1,h2=>by
  obtain⟨r,hr,a⟩:=b x (by simp);have:r=false:=by
   cases r with
   |false=>rfl
   |true=>exact absurd (a.1 rfl).symm (h2 0 x bu rfl)
  subst this;have c:=Ho (k:=k) (w:=w) es (n+1) i e (λe he=>b e (by simp[he])) (by simpa using h) h1 (λj e' d he=>h2 (j+1) e' bu (by simpa using he));simp only[Instr.findAsking,Sem.run_bind,hr,Result.andThen_ok,l4,gR];rw[c,show n+1+i=n+(i+1) by omega]
def Hp{k:bE}{w:bI}:∀(es:bA MapEntry) (n:Nat),(∀e∈es,∃r:Bool,(Op.equal kt k e.key).run P w=.ok r w/\(r=true↔k=e.key))->(∀e∈es,e.key≠k)->
  (Instr.findAsking kt k es n).run P w=.ok none w
 |[],_,_,_=>by simp[Instr.findAsking]
 |x::es,n,a,h=>by
  obtain⟨r,hr,b⟩:=a x (by simp);have:r=false:=by
   cases r with
   |false=>rfl
   |true=>exact absurd (b.1 rfl).symm (h x (by simp))
  subst this;have c:=Hp (k:=k) (w:=w) es (n+1) (λe he=>a e (by simp[he])) (λe he=>h e (by simp[he]));simp only[Instr.findAsking,Sem.run_bind,hr,Result.andThen_ok,l4,gR];exact c
def Um{fs:cb Field}{k:bE}:∀(es:bA MapEntry),Instr.findNow (.struct fs) k es 0=some none\/Instr.findNow (.struct fs) k es 0=none
 |[]=>.inl rfl
 |x::es=>.inr (by simp[Instr.findNow,Instr.sameNow])
def Un{cs:cb bE}(n:Nat)(h:∀v∈cs.toList,Instr.sameBits n v v=true):Instr.sameBits (n+1) (.agg cs) (.agg cs)=true:=by
 simp only[Instr.sameBits,tz,l5,fQ];intro x hx;obtain⟨i,a,rfl⟩:=je.1 hx;rw[List.getElem_zip];exact h _ (oq _)
def h5.agg{κ:Type}{enc:κ->bE}{d:Nat}{l:bA LK}(m:∀a b,enc a=enc b->a=b)(j:ku P d kt=some l)(o:d<=10000)(g:ej P kt=some true)(n:∀k,Typed P kt l (enc k)):h5 P kt enc:=by
 have hu:∃fs,P.underlying kt=some (.struct fs):=by
  cases d with
  |zero=>simp[ku]at j
  |succ d=>
   unfold ku at j;unfold ej at g;cases hu:P.underlying kt with
   |none=>simp[hu]at g
   |some x=>cases x<;>simp[hu]at j g ⊢
 obtain⟨fs,hu⟩:=hu;have heq:∀k (es:bA MapEntry) (w:bI),(∀e∈es,∃k',e.key=enc k')->∀e∈es,∃r:Bool,(Op.equal kt (enc k) e.key).run P w=.ok r w/\(r=true↔enc k=e.key):=by
  intro k es w c e he;obtain⟨k',p⟩:=c e he;rw[p];exact Hk d kt l j 10000 o _ _ (n k) (n k') w
 refine⟨m,λe k w=>Ui e d kt l j 10000 o _ (n k) w,λk es i e w c m hk q=>?_,λk es w c t=>?_,λk=>?_⟩
 ·have hf:=Ho (kt:=kt) (P:=P) (k:=enc k) (w:=w) es 0 i e (heq k es w c) m hk q;rw[fx]at hf;have s:Instr.findNow (.struct fs) (enc k) es 0=none:=by
   cases es with
   |nil=>simp at m
   |cons x xs=>simp[Instr.findNow,Instr.sameNow]
  simp[Instr.findKey,run_underlying hu,s,hf]
 ·have hf:=Hp (kt:=kt) (P:=P) (k:=enc k) (w:=w) es 0 (heq k es w c) t;rcases Um (fs:=fs) (k:=enc k) es with h|h;·simp[Instr.findKey,run_underlying hu,h]
  ·simp[Instr.findKey,run_underlying hu,h,hf]
 ·have:=n k;unfold Typed at this;rw[g]at this;obtain⟨cs,he,u⟩:=this;rw[he];refine Un 9999 (λv f=>?_);have go:∀(l:bA LK) (vs:bA bE),Cells l vs->∀v∈vs,Instr.sameBits 9999 v v=true:=by
   intro l;induction l with
   |nil=>intro vs h v f;cases vs with
    |nil=>cases f
    |cons _ _=>exact h.elim
   |cons k l y=>intro vs h v f;cases vs with
    |nil=>cases f
    |cons x vs=>
     rcases ew.1 f with rfl|f
     ·have:=h.1;cases k<;>(obtain⟨_,h⟩:=this;rw[h])
      ·exact Hn _ _ _
      ·exact Uk _ _
      ·exact Ul _ _
     ·exact y vs h.2 v f
  exact go l _ u v f
end
structure iz{κ:Type}(enc:κ->bE)(f:κ->bV bE)(es:bA MapEntry)(ck:Nat):Prop where
 key:∀e∈es,∃k,e.key=enc k/\f k=some e.val
 has:∀k v,f k=some v->∃e∈es,e.key=enc k/\e.val=v
 one:es.Pairwise (λa b=>a.key≠b.key)
 born:∀e∈es,e.born<ck
 lf:es.Pairwise (λa b=>a.born≠b.born)
def cE{κ:Type}(b:Nat)(enc:κ->bE)(f:κ->bV bE):Asn:=
 ⟨λh F=>(∃es ck,h[b]?=some (.map es.toArray ck)/\iz enc f es ck)/\∀x,F x↔x=b,λa hl=>⟨by rw[hl b ((a.2 b).2 rfl)];exact a.1,a.2⟩⟩
def cL{κ:Type}[DecidableEq κ]{α:Type}(f:κ->bV α)(k:κ)(v:bV α):κ->bV α:=λx=>if x=k then v else f x
section
variable{P:cN}{κ:Type}[DecidableEq κ]{enc:κ->bE}{f:κ->bV bE}{es:bA MapEntry}{ck:Nat}{kt:cc}
omit [DecidableEq κ] in
def iz.keys(M:iz enc f es ck):∀e∈es,∃k,e.key=enc k:=λe he=>let ⟨k,h,_⟩:=M.key e he;⟨k,h⟩
omit [DecidableEq κ] in
def iz.at_(M:iz enc f es ck){i:Nat}{e:MapEntry}(c:es[i]?=some e):∀j e',j<i->es[j]?=some e'->e'.key≠e.key:=by
 intro j e' d he;obtain⟨h1,h2⟩:=cZ.1 c;obtain⟨a,b⟩:=cZ.1 he;have:=m8.1 M.one j i a h1 d;rw[h2,b]at this;exact this
omit [DecidableEq κ] in
def iz.gJ(K:h5 P kt enc)(M:iz enc f es ck){k:κ}{v:bE}(hf:f k=some v)(w:bI):∃i e,es[i]?=some e/\e.key=enc k/\e.val=v/\(Instr.findKey kt (enc k) es).run P w=.ok (some (i,v)) w:=by
 obtain⟨e,he,hk,c⟩:=M.has k v hf;obtain⟨i,d,rfl⟩:=je.1 he;have a:es[i]?=some es[i]:=dO d;refine⟨i,es[i],a,hk,c,?_⟩;rw[<- c];exact K.some_ k es i es[i] w M.keys a hk (λj e' g b=>hk▸M.at_ a j e' g b)
omit [DecidableEq κ] in
def iz.hP(K:h5 P kt enc)(M:iz enc f es ck){k:κ}(hf:f k=none)(w:bI):(Instr.findKey kt (enc k) es).run P w=.ok none w:=
 K.none_ k es w M.keys (λe he hk=>by
  obtain⟨k',h1,h2⟩:=M.key e he;have:k'=k:=K.inj _ _ (h1.symm.trans hk);rw[this,hf]at h2;cases h2)
omit [DecidableEq κ] in
def iz.empty:iz enc (λ_=>none) [] 0:=⟨by simp,by simp,List.Pairwise.nil,by simp,List.Pairwise.nil⟩
def iz.put(K:h5 P kt enc)(M:iz enc f es ck){k:κ}{i:Nat}{e:MapEntry}(r:es[i]?=some e)(hk:e.key=enc k)(v:bE):
  iz enc (cL f k (some v)) (es.set i {e with key:=enc k,val:=v}) ck:=by
 obtain⟨c,g⟩:=cZ.1 r;have m:(es.set i {e with key:=enc k,val:=v}).map (·.key)=es.map (·.key):=by
  rw[hG];apply hg;intro j;rw[hd];split;·next h=>subst h;simp[c,g,hk]
  ·rfl
 have d:(es.set i {e with key:=enc k,val:=v}).map (·.born)=es.map (·.born):=by
  rw[hG];apply hg;intro j;rw[hd];split;·next h=>subst h;simp[c,g]
  ·rfl
 refine⟨?_,?_,?_,?_,?_⟩
 ·intro x hx;obtain⟨j,p,rfl⟩:=je.1 hx;rw[Gc];split;·exact⟨k,rfl,by simp[cL]⟩
  ·next o=>
   have l:j<es.length:=by simpa using p
   obtain⟨k',h1,h2⟩:=M.key es[j] (oq l);refine⟨k',h1,?_⟩;have:k'≠k:=by
    rintro rfl;have n:es[j].key=es[i].key:=by rw[h1,g,hk]
    rcases hN i j with h|h;·exact m8.1 M.one i j c l h n.symm
    ·exact m8.1 M.one j i l c bu n
   simp[cL,this,h2]
 ·intro k' t h;unfold cL at h;split at h
  ·next he=>
   simp only[fS]at h;subst he h;exact⟨{e with key:=enc k',val:=v},je.2 ⟨i,by simpa using c,by simp⟩,rfl,rfl⟩
  ·next o=>
   obtain⟨x,hx,h1,h2⟩:=M.has k' t h;obtain⟨j,p,rfl⟩:=je.1 hx;have q:i≠j:=by
    rintro rfl;exact o (K.inj _ _ (by rw[<- h1,<- hk,g]))
   refine⟨es[j],je.2 ⟨j,by simpa using p,by rw[Gc,bJ q]⟩,h1,h2⟩
 ·have:=M.one;rw[<- kL (f:=λe:MapEntry=>e.key) (R:=λa b=>a≠b)]at this ⊢;rw[m];exact this
 ·intro x hx;have:x.born∈(es.set i {e with key:=enc k,val:=v}).map (·.born):=fA.2 ⟨x,hx,rfl⟩;rw[d]at this;obtain⟨y,s,he⟩:=fA.1 this;rw[<- he];exact M.born y s
 ·have:=M.lf;rw[<- kL (f:=λe:MapEntry=>e.born) (R:=λa b=>a≠b)]at this ⊢;rw[d];exact this
def iz.add(K:h5 P kt enc)(M:iz enc f es ck){k:κ}(hf:f k=none)(v:bE):iz enc (cL f k (some v)) (es++[{key:=enc k,val:=v,born:=ck}]) (ck+1):=by
 refine⟨?_,?_,?_,?_,?_⟩
 ·intro x hx;rcases gH.1 hx with hx|hx
  ·obtain⟨k',h1,h2⟩:=M.key x hx;refine⟨k',h1,?_⟩;have:k'≠k:=by rintro rfl;rw[hf]at h2;cases h2
   simp[cL,this,h2]
  ·simp only[ia]at hx;subst hx;exact⟨k,rfl,by simp[cL]⟩
 ·intro k' d h;unfold cL at h;split at h
  ·next he=>
   simp only[fS]at h;subst he h;exact⟨{key:=enc k',val:=v,born:=ck},by simp,rfl,rfl⟩
  ·obtain⟨x,hx,h1,h2⟩:=M.has k' d h;exact⟨x,by simp[hx],h1,h2⟩
 ·rw[jy];refine⟨M.one,FM _ _,λa c b hb=>?_⟩;simp only[ia]at hb;subst hb;obtain⟨k',h1,h2⟩:=M.key a c;intro h;have:k'=k:=K.inj _ _ (h1.symm.trans h);rw[this,hf]at h2;cases h2
 ·intro x hx;rcases gH.1 hx with hx|hx;·have:=M.born x hx;omega
  ·simp only[ia]at hx;subst hx;simp
 ·rw[jy];refine⟨M.lf,FM _ _,λa c b hb=>?_⟩;simp only[ia]at hb;subst hb;have:=M.born a c;simp;omega
def iz.del(K:h5 P kt enc)(M:iz enc f es ck){k:κ}{i:Nat}{e:MapEntry}(n:es[i]?=some e)(hk:e.key=enc k):iz enc (cL f k none) (es.eraseIdx i) ck:=by
 obtain⟨l,c⟩:=cZ.1 n;have a:=List.eraseIdx_sublist es i;refine⟨?_,?_,M.one.sublist a,λx hx=>M.born x (a.subset hx),M.lf.sublist a⟩
 ·intro x hx;obtain⟨j,b,d,he⟩:=bd9.1 hx;subst he;obtain⟨k',h1,h2⟩:=M.key es[j] (oq b);refine⟨k',h1,?_⟩;have:k'≠k:=by
   rintro rfl;have g:es[j].key=es[i].key:=by rw[h1,c,hk]
   rcases hN i j with h|h;·exact m8.1 M.one i j l b h g.symm
   ·exact m8.1 M.one j i b l bu g
  simp[cL,this,h2]
 ·intro k' o h;unfold cL at h;split at h;·cases h
  ·next m=>
   obtain⟨x,hx,h1,h2⟩:=M.has k' o h;obtain⟨j,b,rfl⟩:=je.1 hx;have d:j≠i:=by
    rintro rfl;exact m (K.inj _ _ (by rw[<- h1,<- hk,c]))
   exact⟨es[j],bd9.2 ⟨j,b,d,rfl⟩,h1,h2⟩
def Uo{k:κ}{α:Type}{f:κ->bV α}(hf:f k=none):cL f k none=f:=by
 funext x;unfold cL;split;·next h=>subst h;exact hf.symm
 ·rfl
end
section
variable{E:Env}{L:ct}{w:bI}{P:cN}{κ:Type}[DecidableEq κ]{enc:κ->bE}{f:κ->bV bE}{b:Nat}
omit [DecidableEq κ] in
def cE.at_{i:Nat}(h:Sep E L w)(a:L[i]?=some (cE b enc f)):∃es ck,w.heap[b]?=some (.map es.toArray ck)/\iz enc f es ck:=by
 obtain⟨_,F,⟨h1,_⟩,_⟩:=h.fr i a;exact h1
omit [DecidableEq κ] in
def cE.set{k:Type}{c:k->bE}{f':k->bV bE}(h:Sep E (cE b enc f::L) w){d:bA MapEntry}{a:Nat}(M:iz c f' d a):Sep E (cE b c f'::L) {w with heap:=w.heap.setIfInBounds b (.map d.toArray a)} :=by
 have hb:b<w.heap.size:=by
  obtain⟨es,ck,hb,_⟩:=cE.at_ (i:=0) h rfl;exact(o1.1 hb).1
 refine h.change rfl (by simp) (λF g j=>⟨λx _ hx=>?_,F,⟨⟨d,a,?_,M⟩,g.2⟩,λx hx=>⟨?_,.inl hx⟩⟩)
 ·have:b≠x:=λe=>hx ((g.2 x).2 e.symm);show(w.heap.setIfInBounds b _)[x]?=_;rw[oe,bJ this]
 ·show(w.heap.setIfInBounds b _)[b]?=_;rw[oe,bK rfl,bK hb]
 ·simpa using j x hx
omit [DecidableEq κ] in
def cE.new{g:Nat->bf8}(h:Sep E L w)(k:∀b a,Sep E (cE b enc (λ_=>none)::L) a->g b a):mL g w:=
 k _ _ (h.new (Grow.alloc w _) (F':=λx=>x=w.heap.size) ⟨⟨[],0,heap_alloc w _,iz.empty⟩,λ_=>l6⟩ (λb hb=>by subst hb;rw[size_alloc];omega))
def mQ(P:cN)(t:cc):bV (cc×bE):=
 match P.underlying t with
 |some (.map k e)=>match pb P e with
  |some z=>some (k,z)
  |none=>none
 |_=>none
def Up{t:cc}{z:bE}(h:pb P t=some z)(w:bI):(zeroValue t).run P w=.ok z w:=by
 unfold pb at h;cases a:P.info? t with
 |none=>simp[a]at h
 |some i=>simp[a]at h;simp[zeroValue,typeInfo,a,h]
def ug{t kt:cc}{z:bE}(h:mQ P t=some (kt,z)):∃e,P.underlying t=some (.map kt e)/\∀w,(zeroValue e).run P w=.ok z w:=by
 unfold mQ at h;split at h
 ·next k e he=>
  split at h
  ·next b a=>
   simp only[fS,ot]at h;obtain⟨rfl,rfl⟩:=h;exact⟨e,he,Up a⟩
  ·simp at h
 ·simp at h
omit [DecidableEq κ] in
def gp.i{t kt:cc}{z:bE}(ok:Bool)(i:Nat)(h:Sep E L w)(d:L[i]?=some (cE b enc f))(K:h5 P kt enc)(l:mQ P t=some (kt,z))(k:κ):
  gp P t (.map (some b)) (enc k) ok w (match ok with|true=>.tuple #[(f k).getD z,.bool (f k).isSome]|false=>(f k).getD z):=by
 intro w' g;obtain⟨e,c,m⟩:=ug l;obtain⟨es,ck,hb,M⟩:=cE.at_ (h.grow g) d;cases hf:f k with
 |some v=>
  obtain⟨j,x,n,hk,o,a⟩:=M.gJ K hf w';cases ok<;>simp[Instr.lookup,run_underlying c,MapKept.run_getObj_map hb,K.pk,a]
 |none=>
  have a:=M.hP K hf w';cases ok<;>simp[Instr.lookup,run_underlying c,MapKept.run_getObj_map hb,K.pk,a,m]
def mapUpdate.i{t kt:cc}{z:bE}(h:Sep E (cE b enc f::L) w)(K:h5 P kt enc)(d:mQ P t=some (kt,z))(k:κ)(v:bE){G:bf8}(g:∀c,Sep E (cE b enc (cL f k (some v))::L) c->G c):
  ∃c,Sem.run P (Instr.mapUpdate t (.map (some b)) (enc k) v) w=.ok () c/\G c:=by
 obtain⟨e,o,r⟩:=ug d;obtain⟨es,ck,hb,M⟩:=cE.at_ (i:=0) h rfl;cases hf:f k with
 |some v0=>
  obtain⟨j,x,l,hk,p,a⟩:=M.gJ K hf w;refine⟨{w with heap:=w.heap.setIfInBounds b (.map (es.set j ({x with key:=enc k,val:=v} :MapEntry)).toArray ck)},?_,g _ (cE.set h (M.put K l hk v))⟩;obtain⟨n,m⟩:=cZ.1 l;have hm:es.modify j (λe=> {e with key:=enc k,val:=v})=es.set j {x with key:=enc k,val:=v} :=by
   apply hg;intro q;simp only[List.getElem?_modify,hd];by_cases d:j=q;·subst d;simp[n,m]
   ·simp[d]
  simp[Instr.mapUpdate,run_underlying o,MapKept.run_getObj_map hb,K.pk,a,Instr.keyThatStays,l,hk,K.stay,hm,MapKept.run_setObj_map _ hb]
 |none=>
  have a:=M.hP K hf w;refine⟨{w with heap:=w.heap.setIfInBounds b (.map (es++[({key:=enc k,val:=v,born:=ck} :MapEntry)]).toArray (ck+1))},?_,g _ (cE.set h (M.add K hf v))⟩;simp[Instr.mapUpdate,run_underlying o,MapKept.run_getObj_map hb,K.pk,a,MapKept.run_setObj_map _ hb]
def gK.i{t kt u ty:cc}{z:bE}(h:Sep E (cE b enc f::L) w)(K:h5 P kt enc)(n:mQ P t=some (kt,z))(k:κ){G:bf8}(g:∀c,Sep E (cE b enc (cL f k none)::L) c->G c):
  ∃c,Sem.run P (Builtin.delete_ #[t,u] ty #[.map (some b),enc k]) w=.ok (.tuple #[]) c/\G c:=by
 obtain⟨e,m,q⟩:=ug n;obtain⟨es,ck,hb,M⟩:=cE.at_ (i:=0) h rfl;cases hf:f k with
 |some v0=>
  obtain⟨j,x,d,hk,p,a⟩:=M.gJ K hf w;obtain⟨l,o⟩:=cZ.1 d;refine⟨{w with heap:=w.heap.setIfInBounds b (.map (es.eraseIdx j).toArray ck)},?_,g _ (cE.set h (M.del K d hk))⟩;simp[Builtin.delete_,run_underlying m,MapKept.run_getObj_map hb,K.pk,a,Array.eraseIdxIfInBounds,l,MapKept.run_setObj_map _ hb]
 |none=>
  have a:=M.hP K hf w;refine⟨{w with heap:=w.heap.setIfInBounds b (.map es.toArray ck)},?_,g _ (by rw[Uo hf];exact cE.set h M)⟩;simp[Builtin.delete_,run_underlying m,MapKept.run_getObj_map hb,K.pk,a,MapKept.run_setObj_map _ hb]
end
end Go.Sp
namespace Go.Kc
open Go Go.Sp
structure Pg where
 kf:Int
 ki:Int
 place:Int
 at_:Int
 owner:Int
 refs:Int
 gen:Int
 Uq:Bool
 e7:Bool
def Pg.zero:Pg:=⟨0,0,0,0,0,0,0,false,false⟩
structure TS where
 pg:Int->bV Pg
 files:Int×Int->bV Int
 c0:Int×Int->bV Int
 next:Int
def TS.zero:TS:=⟨λ_=>none,λ_=>none,λ_=>none,0⟩
def TS.of(S:TS)(k:Int×Int):Int:=(S.files k).getD (-1)
def TS.at_(S:TS)(k:Int×Int):Int:=(S.c0 k).getD (-1)
def TS.iJ(S:TS)(kf ki o:Int):TS:={S with pg:=cL S.pg S.next (some ⟨kf,ki,0,0,o,0,0,false,false⟩),next:=i64.wrap (S.next+1)}
def TS.make(S:TS)(kf ki o:Int):TS×Int×Int:=
 if kf<0 then(S.iJ (-1) S.next o,S.next,0)
 else if S.of (kf,ki)≥0 then(S, -1,4)
 else({S with files:=cL S.files (kf,ki) (some S.next)}.iJ kf ki o,S.next,0)
def TS.get(S:TS)(id:Int):Pg×Int:=match S.pg id with
 |some p=>(p,0)
 |none=>(Pg.zero,2)
def TS.cJ(S:TS)(id:Int)(p:Pg):TS:={S with pg:=cL S.pg id (some p)}
def TS.put(S:TS)(id place at_:Int):TS×Int:=match S.pg id with
 |none=>(S,2)
 |some p=>
  if place<0\/2<place\/at_<0\/(place=0/\at_≠0)then(S,1)
  else if 0<=S.at_ (place,at_)/\S.at_ (place,at_)≠id then(S,4)
  else({pg:=cL S.pg id (some {p with place:=place,at_:=at_}),files:=S.files,c0:=if place≠0 then cL (cL S.c0 (p.place,p.at_) none) (place,at_) (some id)else cL S.c0 (p.place,p.at_) none,next:=S.next},0)
def TS.bO(S:TS)(id n:Int):TS×Int×Int:=match S.pg id with
 |none=>(S,0,2)
 |some p=>if n< -1000\/1000<n\/i64.wrap (p.refs+n)<0 then(S,0,1)else(S.cJ id {p with refs:=i64.wrap (p.refs+n)},i64.wrap (p.refs+n),0)
def TS.drop(S:TS)(id:Int):TS×Int:=match S.pg id with
 |none=>(S,2)
 |some p=>if 0<p.refs\/p.place≠0 then(S,4)else({S with pg:=cL S.pg id none,files:=cL S.files (p.kf,p.ki) none},0)
def TS.own(S:TS)(id o:Int):TS×Int:=match S.pg id with
 |none=>(S,2)
 |some p=>(S.cJ id {p with owner:=o},0)
def TS.mark(S:TS)(id:Int)(d:Bool):TS×Int:=match S.pg id with
 |none=>(S,2)
 |some p=>(S.cJ id {p with e7:=d},0)
end Go.Kc
namespace Go.Stab
structure Ord{α:Type}(R:α->α->Prop):Prop where
 trans:∀x y z,R x y->R y z->R x z
 uh:∀x,¬ R x x
 tot:∀x y,x≠y->R x y\/R y x
section
variable{α:Type}{R:α->α->Prop}
def Ord.not(O:Ord R){x y:α}(a:x≠y)(h:¬ R x y):R y x:=(O.tot x y a).resolve_left h
def ins(P:bA α)(n:Nat)(x:α):bA α:=P.take n++x::P.drop n
def mU(P:bA α)(n:Nat)(x:α):(ins P n x).length=P.length+1:=by
 unfold ins;simp only[dd,hF,hM,nR];omega
def rY(P:bA α)(n:Nat)(x:α):(ins P n x).Perm (x::P):=by
 unfold ins;refine jf.trans ?_;rw[fK]
def rZ(P:bA α)(n:Nat)(x:α)(hn:n<=P.length)(i:Nat):(ins P n x)[i]?=if i<n then P[i]? else if i=n then some x else P[i-1]? :=by
 unfold ins;have hl:(P.take n).length=n:=by simp;omega
 by_cases h1:i<n;·rw[bK h1,eM bu];simp[h1]
 ·rw[bJ h1,fM bu,hl];by_cases h2:i=n;·rw[bK h2];simp[h2]
  ·rw[bJ h2];obtain⟨k,hk⟩:∃k,i-n=k+1:=⟨i-n-1,bu⟩
   rw[hk,List.getElem?_cons_succ,pY];congr 1;omega
def wO(P:bA α)(x:α):ins P P.length x=P++[x]:=by simp[ins]
def Hq{A P B:bA α}{n:Nat}{x y:α}(hn:P[n]?=some y):((A++ins P n x++B).set (A.length+n) y).set (A.length+n+1) x=A++ins P (n+1) x++B:=by
 have g:n<P.length:=(cZ.1 hn).1;have f:=rZ P n x bu;have a:=rZ P (n+1) x bu;have hl:=mU P n x;have e:=mU P (n+1) x;apply hg;intro i;simp only[hd,dW,dd,hl];by_cases b:A.length+n+1=i;·rw[bK b,eK,eM (by simp;omega),fM bu,a,cD,eK]
 ·rw[bJ b];by_cases c:A.length+n=i;·rw[bK c,eK,eM (by simp;omega),fM bu,a,eK,<- hn];congr 1;omega
  ·rw[bJ c];by_cases h1:i<A.length;·rw[eM (by simp;omega),eM h1,eM (by simp;omega),eM h1]
   ·by_cases h2:i<A.length+(P.length+1)
    ·rw[eM (by simp;omega),fM bu,eM (by simp;omega),fM bu,f,a];by_cases d:i-A.length<n;·rw[bK d,eK]
     ·rw[bJ d,cD,cD,cD]
    ·rw[fM (by simp;omega),fM (by simp;omega)];simp[hl,e]
def wP{A P B:bA α}{n:Nat}{x y:α}(hn:P[n]?=some y):((A++ins P (n+1) x++B).set (A.length+n+1) y).set (A.length+n) x=A++ins P n x++B:=by
 have g:n<P.length:=(cZ.1 hn).1;have f:=rZ P (n+1) x bu;have a:=rZ P n x bu;have hl:=mU P (n+1) x;have e:=mU P n x;apply hg;intro i;simp only[hd,dW,dd,hl];by_cases b:A.length+n=i;·rw[bK b,eK,eM (by simp;omega),fM bu,a,cD,eK]
 ·rw[bJ b];by_cases c:A.length+n+1=i;·rw[bK c,eK,eM (by simp;omega),fM bu,a,cD,cD,<- hn];congr 1;omega
  ·rw[bJ c];by_cases h1:i<A.length;·rw[eM (by simp;omega),eM h1,eM (by simp;omega),eM h1]
   ·by_cases h2:i<A.length+(P.length+1)
    ·rw[eM (by simp;omega),fM bu,eM (by simp;omega),fM bu,f,a];by_cases d:i-A.length<n;·rw[bK d,eK]
     ·rw[bJ d,cD,cD,cD]
    ·rw[fM (by simp;omega),fM (by simp;omega)];simp[hl,e]
def pn{l:bA α}(h:l.Pairwise R){i j:Nat}{x y:α}(hx:l[i]?=some x)(b:l[j]?=some y)(a:i<j):R x y:=by
 obtain⟨h1,rfl⟩:=cZ.1 hx;obtain⟨h2,rfl⟩:=cZ.1 b;exact m8.1 h i j h1 h2 a
def r0{l:bA α}{n:Nat}{x:α}(h:x∈l.take n):∃i,i<n/\l[i]?=some x:=by
 obtain⟨i,a,rfl⟩:=je.1 h;simp only[hF]at a;exact⟨i,bu,by simp⟩
def wQ{l:bA α}{n:Nat}{x:α}(h:x∈l.drop n):∃i,n<=i/\l[i]?=some x:=by
 obtain⟨i,a,rfl⟩:=je.1 h;simp only[nR]at a;exact⟨n+i,bu,by simp⟩
def wR(O:Ord R){X Y:bA α}{i j:Nat}(n:X.Pairwise R)(o:Y.Pairwise R)(h1:i=0\/Y.length<=j\/∃x y,X[i-1]?=some x/\Y[j]?=some y/\R x y)(h2:j=0\/X.length<=i\/∃x y,Y[j-1]?=some y/\X[i]?=some x/\R y x):
  ∀u∈X.take i++Y.take j,∀v∈X.drop i++Y.drop j,R u v:=by
 intro u hu v g;have lt:∀ {l:bA α} {k:Nat} {z:α},l[k]?=some z->k<l.length:=λh=>(cZ.1 h).1;rcases gH.1 hu with hu|hu<;>rcases gH.1 g with g|g
 ·obtain⟨p,hp,b⟩:=r0 hu;obtain⟨q,r,a⟩:=wQ g;exact pn n b a bu
 ·obtain⟨p,hp,b⟩:=r0 hu;obtain⟨q,r,a⟩:=wQ g;rcases h1 with h1|h1|⟨x,y,hx,m,hr⟩
  ·omega
  ·have:=lt a;omega
  ·have e:p=i-1\/p<i-1:=by omega
   have f:q=j\/j<q:=by omega
   have c:u=x\/R u x:=by
    rcases e with rfl|e;·rw[b]at hx;exact .inl (cR hx)
    ·exact .inr (pn n b hx e)
   have d:y=v\/R y v:=by
    rcases f with rfl|f;·rw[a]at m;exact .inl (cR m).symm
    ·exact .inr (pn o m a f)
   rcases c with rfl|c<;>rcases d with rfl|d;·exact hr
   ·exact O.trans _ _ _ hr d
   ·exact O.trans _ _ _ c hr
   ·exact O.trans _ _ _ c (O.trans _ _ _ hr d)
 ·obtain⟨p,hp,b⟩:=r0 hu;obtain⟨q,r,a⟩:=wQ g;rcases h2 with h2|h2|⟨x,y,m,hx,hr⟩
  ·omega
  ·have:=lt a;omega
  ·have e:p=j-1\/p<j-1:=by omega
   have f:q=i\/i<q:=by omega
   have c:u=y\/R u y:=by
    rcases e with rfl|e;·rw[b]at m;exact .inl (cR m)
    ·exact .inr (pn o b m e)
   have d:x=v\/R x v:=by
    rcases f with rfl|f;·rw[a]at hx;exact .inl (cR hx).symm
    ·exact .inr (pn n hx a f)
   rcases c with rfl|c<;>rcases d with rfl|d;·exact hr
   ·exact O.trans _ _ _ hr d
   ·exact O.trans _ _ _ c hr
   ·exact O.trans _ _ _ c (O.trans _ _ _ hr d)
 ·obtain⟨p,hp,b⟩:=r0 hu;obtain⟨q,r,a⟩:=wQ g;exact pn o b a bu
def r1(O:Ord R){P:bA α}{n:Nat}{x:α}(c:P.Pairwise R)(h1:n=0\/∃y,P[n-1]?=some y/\R y x)(h2:P.length<=n\/∃y,P[n]?=some y/\R x y):(ins P n x).Pairwise R:=by
 have key:=wR O (X:=P) (Y:=[x]) (i:=n) (j:=0) c (FM _ _) (by
  rcases h1 with h|⟨y,d,hr⟩
  ·exact .inl h
  ·exact .inr (.inr ⟨y,x,d,rfl,hr⟩)) (.inl rfl)
 have e:=wR O (X:=P) (Y:=[x]) (i:=n) (j:=1) c (FM _ _) (.inr (.inl (by simp))) (by
  rcases h2 with h|⟨y,d,hr⟩
  ·exact .inr (.inl h)
  ·exact .inr (.inr ⟨y,x,rfl,d,hr⟩))
 unfold ins;rw[jy,g7];have a:=c;rw[<- fK n P,jy]at a;refine⟨a.1,⟨λv b=>e x (by simp) v (by simp[b]),a.2.1⟩,λu hu v b=>?_⟩;rcases ew.1 b with rfl|b;·exact key u (by simp[hu]) _ (by simp)
 ·exact a.2.2 u hu v b
def jL{X Y a b:bA α}{i j:Nat}(h1:a.Perm (X.take i++Y.take j))(h2:b.Perm (X.drop i++Y.drop j))(s1:a.Pairwise R)(s2:b.Pairwise R)(d:∀u∈X.take i++Y.take j,∀v∈X.drop i++Y.drop j,R u v):(a++b).Perm (X++Y)/\(a++b).Pairwise R:=by
 refine⟨(h1.append h2).trans ?_,jy.2 ⟨s1,s2,λu hu v e=>d u (h1.mem_iff.1 hu) v (h2.mem_iff.1 e)⟩⟩;have c:X++Y=(X.take i++X.drop i)++(Y.take j++Y.drop j):=by rw[fK,fK]
 rw[c];simp only[dj];refine pV _ ?_;rw[<- dj,<- dj];exact rE _ l1
def nw(l l':bA α)(a b i:Nat):Prop:=l'.length=l.length/\∀k,l'[k]?=if a<=k/\k<a+i then l[k-a+b]? else if b<=k/\k<b+i then l[k-b+a]? else l[k]?
def nw.zero(l:bA α)(a b:Nat):nw l l a b 0:=⟨rfl,λk=>by rw[cD,cD]⟩
def nw.step{l l':bA α}{a b i n:Nat}{x y:α}(h:nw l l' a b i)(j:a+n<=b)(o:i<n)(hx:l'[b+i]?=some x)(g:l'[a+i]?=some y):
  nw l ((l'.set (a+i) x).set (b+i) y) a b (i+1):=by
 have m:b+i<l'.length:=(cZ.1 hx).1;have c:=hx;have d:=g;rw[h.2,cD,cD]at c d;refine⟨by simpa using h.1,λk=>?_⟩;simp only[hd,dW];by_cases e:b+i=k;·rw[bK e,eK,cD,eK,<- d];congr 1;omega
 ·rw[bJ e];by_cases f:a+i=k;·rw[bK f,eK,eK,<- c];congr 1;omega
  ·rw[bJ f,h.2];by_cases h1:a<=k/\k<a+i;·rw[bK h1,eK]
   ·rw[bJ h1];by_cases h2:b<=k/\k<b+i;·rw[bK h2,cD,eK]
    ·rw[bJ h2,cD,cD]
def nw.eq{A U M V B l':bA α}(h:nw (A++U++M++V++B) l' A.length (A.length+U.length+M.length) U.length)(a:U.length=V.length):l'=A++V++M++U++B:=by
 apply hg;intro k;rw[h.2];have g:∀(U V:bA α) (k:Nat),U.length=V.length->(A++U++M++V++B)[k]?=if k<A.length then A[k]? else if k<A.length+U.length then U[k-A.length]? else if k<A.length+U.length+M.length then M[k-A.length-U.length]? else
   if k<A.length+U.length+M.length+U.length then V[k-A.length-U.length-M.length]? else B[k-A.length-U.length-M.length-U.length]? :=by
  intro U V k a;by_cases h1:k<A.length;·rw[bK h1,eM (by simp;omega),eM (by simp;omega),eM (by simp;omega),eM h1]
  rw[bJ h1];by_cases h2:k<A.length+U.length;·rw[bK h2,eM (by simp;omega),eM (by simp;omega),eM (by simp;omega),fM bu]
  rw[bJ h2];by_cases b:k<A.length+U.length+M.length
  ·rw[bK b,eM (by simp;omega),eM (by simp;omega),fM (by simp;omega)];congr 1;simp;omega
  rw[bJ b];by_cases c:k<A.length+U.length+M.length+U.length
  ·rw[bK c,eM (by simp;omega),fM (by simp;omega)];congr 1;simp;omega
  rw[bJ c,fM (by simp;omega)];congr 1;simp;omega
 rw[g V U k a.symm,g U V k a];by_cases h1:A.length<=k/\k<A.length+U.length
 ·rw[bK h1,g U V _ a,cD,cD,cD,eK,cD,eK];congr 1;omega
 ·rw[bJ h1];by_cases h2:A.length+U.length+M.length<=k/\k<A.length+U.length+M.length+U.length
  ·rw[bK h2,g U V _ a,cD,eK,cD,cD,cD,eK];congr 1;omega
  ·rw[bJ h2];by_cases b:k<A.length;·rw[bK b,bK b]
   ·rw[bJ b,bJ b,bJ (show ¬ k<A.length+U.length by omega),bJ (show ¬ k<A.length+V.length by omega)];by_cases c:k<A.length+U.length+M.length;·rw[bK c,bK (show k<A.length+V.length+M.length by omega)];congr 1;omega
    ·rw[bJ c,bJ (show ¬ k<A.length+V.length+M.length by omega),bJ (show ¬ k<A.length+U.length+M.length+U.length by omega),bJ (show ¬ k<A.length+V.length+M.length+V.length by omega)];congr 1;omega
end
end Go.Stab
namespace Go.Kc
open Go Go.Vc Go.Sp
structure dw where
 id:Int
 group:Int
 dt:Int
def fc(R:bA dw)(k:Int):bV dw:=R.find? (λe=>e.id==k)
structure Good(R:bA dw):Prop where
 cX:R.Pairwise (λa b=>a.id<b.id)
 ok:∀e∈R,(0<=e.id/\e.id<=16777216)/\(0<=e.group/\e.group<=16777216)/\0<=e.dt/\e.dt<=3
variable{R R':bA dw}
def Good.nil:Good []:=⟨List.Pairwise.nil,λ_ h=>by cases h⟩
def uniq(G:R.Pairwise (λa b:dw=>a.id<b.id)){e e':dw}(h:e∈R)(h':e'∈R)(eS:e.id=e'.id):e=e':=by
 obtain⟨i,d,rfl⟩:=je.1 h;obtain⟨j,f,rfl⟩:=je.1 h';rcases F6 i j with c|rfl|c;·have:=m8.1 G i j d f c;omega
 ·rfl
 ·have:=m8.1 G j i f d c;omega
def kP(G:R.Pairwise (λa b:dw=>a.id<b.id)){k:Int}{e:dw}:fc R k=some e↔e∈R/\e.id=k:=by
 unfold fc;constructor;·intro h;exact⟨vT h,by simpa using Ge h⟩
 ·rintro⟨h1,h2⟩;cases hf:R.find? (λe=>e.id==k)with
  |none=>have:=pZ.1 hf e h1;simp[h2]at this
  |some e'=>
   have c:=vT hf;have d:e'.id=k:=by simpa using Ge hf
   rw[uniq G c h1 bu]
def r2(G:R.Pairwise (λa b:dw=>a.id<b.id)){k:Int}:fc R k=none↔∀e∈R,e.id≠k:=by
 unfold fc;rw[pZ];simp
def AQ(G:R.Pairwise (λa b:dw=>a.id<b.id))(c:R'.Pairwise (λa b:dw=>a.id<b.id)){k:Int}(h:∀e,e.id=k->(e∈R'↔e∈R)):fc R' k=fc R k:=by
 apply Option.ext;intro e;rw[kP G,kP c];exact⟨λ⟨h1,h2⟩=>⟨(h e h2).1 h1,h2⟩,λ⟨h1,h2⟩=>⟨(h e h2).2 h1,h2⟩⟩
def iK(R:bA dw)(x:dw):bA dw:=R.filter (λy=>decide (y.id<x.id))++x::R.filter (λy=>decide (x.id<y.id))
def ih(id g:Int):Prop:=id<0\/16777216<id\/g<0\/16777216<g
instance(id g:Int):Decidable (ih id g):=by unfold ih;infer_instance
def jM(R:bA dw)(id g:Int)(dZ:Bool):bA dw×Int:=
 if ih id g then(R,1)else if(fc R id).isSome then(R,4)else(iK R ⟨id,g,if dZ then 1 else 0⟩,0)
def jl(R:bA dw)(id:Int):bA dw×Int:=if(fc R id).isSome then(R.filter (λe=>e.id !=id),0)else(R,2)
def hj(R:bA dw)(id:Int):bA dw×Int:=if(fc R id).isSome then(R.map (λe=>if e.id=id then {e with dt:=0} else e),0)else(R,2)
def oH(R:bA dw)(g:Int):Int:=(R.filter (λe=>e.group==g)).length
def jN(g:Int)(a:Int->Int->Int×Int)(e:dw):dw:=if e.group=g then⟨e.id,(a e.group e.dt).1,(a e.group e.dt).2⟩else e
def nV(g:Int)(a:Int->Int->Int×Int)(e:dw):Bool:=e.group==g&& !(a e.group e.dt==(e.group,e.dt))
def iA(R:bA dw)(g:Int)(a:Int->Int->Int×Int):bA dw×Int:=(R.map (jN g a),(R.filter (nV g a)).length)
def jO(g a:Int):Int×Int:=(g,min1 (i64.wrap (a+1)) 3)
def mV(R:bA dw)(f t:Int):bA dw×Int:=if t<0\/16777216<t then(R,0)else iA R f (λ_ a=>(t,a))
def wS{x y:dw}(hn:∀e∈R,e.id≠x.id):y∈iK R x↔y=x\/y∈R:=by
 unfold iK;simp only[gH,gG,ew,gw];constructor
 ·rintro(⟨h,_⟩|rfl|⟨h,_⟩);·exact .inr h
  ·exact .inl rfl
  ·exact .inr h
 ·rintro(rfl|h);·exact .inr (.inl rfl)
  ·have:=hn y h;rcases Int.lt_trichotomy y.id x.id with h1|h1|h1;·exact .inl ⟨h,h1⟩
   ·exact absurd h1 this
   ·exact .inr (.inr ⟨h,h1⟩)
def Good.ins(G:Good R){x:dw}(hn:∀e∈R,e.id≠x.id)(hx:(0<=x.id/\x.id<=16777216)/\(0<=x.group/\x.group<=16777216)/\0<=x.dt/\x.dt<=3):Good (iK R x):=by
 refine⟨?_,λe he=>?_⟩
 ·unfold iK;rw[jy,g7];refine⟨G.cX.filter _,⟨λy d=>?_,G.cX.filter _⟩,λa c b hb=>?_⟩;·simpa using(gG.1 d).2
  ·have h1:a.id<x.id:=by simpa using(gG.1 c).2
   rcases ew.1 hb with rfl|hb;·exact h1
   ·have h2:x.id<b.id:=by simpa using(gG.1 hb).2
    omega
 ·rcases(wS hn).1 he with rfl|h;·exact hx
  ·exact G.ok e h
def Good.add(G:Good R)(id g:Int)(dZ:Bool):Good (jM R id g dZ).1:=by
 unfold jM;split;·exact G
 ·next hb=>
  split;·exact G
  ·next hf=>
   have hf:fc R id=none:=by simpa using hf
   refine G.ins ((r2 G.cX).1 hf) ?_;unfold ih at hb;refine⟨⟨?_,?_⟩,⟨?_,?_⟩,?_⟩<;>simp only<;>first|omega|(split<;>omega)
def Good.filter(G:Good R)(p:dw->Bool):Good (R.filter p):=⟨G.cX.filter _,λe he=>G.ok e (gG.1 he).1⟩
def Good.drop(G:Good R)(id:Int):Good (jl R id).1:=by
 unfold jl;split;·exact G.filter _
 ·exact G
def Good.map(G:Good R)(f:dw->dw)(eS:∀e,(f e).id=e.id)(a:∀e∈R,(0<=(f e).group/\(f e).group<=16777216)/\0<=(f e).dt/\(f e).dt<=3):Good (R.map f):=by
 refine⟨?_,λe he=>?_⟩;·rw[kL];exact G.cX.imp (λh=>by rw[eS,eS];exact h)
 ·obtain⟨x,hx,rfl⟩:=fA.1 he;exact⟨by rw[eS];exact(G.ok x hx).1,a x hx⟩
def Good.cm(G:Good R)(id:Int):Good (hj R id).1:=by
 unfold hj;split
 ·refine G.map _ (λe=>by split<;>rfl) (λe he=>?_);have:=G.ok e he;split;·exact⟨this.2.1,(show(0:Int)<=0 by decide),(show(0:Int)<=3 by decide)⟩
  ·exact this.2
 ·exact G
def r3(g:Int)(a:Int->Int->Int×Int)(e:dw):(jN g a e).id=e.id:=by unfold jN;split<;>rfl
def Good.each(G:Good R)(g:Int)(a:Int->Int->Int×Int)(b:∀e∈R,e.group=g->(0<=(a e.group e.dt).1/\(a e.group e.dt).1<=16777216)/\0<=(a e.group e.dt).2/\(a e.group e.dt).2<=3):Good (iA R g a).1:=by
 refine G.map _ (r3 g a) (λe he=>?_);unfold jN;split;·next h=>exact b e he h
 ·exact(G.ok e he).2
def Ur{g a:Int}(b:0<=a)(c:a<=3):jO g a=(g,if a<3 then a+1 else 3):=by
 unfold jO min1;rw[cP bu bu];congr 1;split<;>split<;>omega
def Good.dt(G:Good R)(g:Int):Good (iA R g jO).1:=by
 refine G.each g jO (λe he _=>?_);have:=G.ok e he;rw[Ur this.2.2.1 this.2.2.2];refine⟨this.2.1,?_⟩;simp only;split<;>omega
def Good.move(G:Good R)(f t:Int):Good (mV R f t).1:=by
 unfold mV;split;·exact G
 ·exact G.each f _ (λe he _=>⟨by simp only;omega,(G.ok e he).2.2⟩)
end Go.Kc
namespace Go.Kc
open Go Go.Vc Go.Sp
namespace By
def pg(n:Nat)(i:Int):Prop:=0<=i/\i<n
instance(n:Nat)(i:Int):Decidable (pg n i):=inferInstanceAs (Decidable (_/\_))
def lh(X:bA UInt8)(i:Int):bA UInt8:=(X.drop (16*i.toNat)).take 16
def lj(X:bA UInt8)(i:Int)(t:bA UInt8):bA UInt8:=X.take (16*i.toNat)++t++X.drop (16*i.toNat+16)
def zs:bA UInt8:=List.replicate 16 0
def rd(n:Nat)(X:bA UInt8)(i:Int):bA UInt8×Int:=if pg n i then(lh X i,0)else([],1)
def wr(n:Nat)(X:bA UInt8)(i:Int)(t:bA UInt8):bA UInt8×Int:=if pg n i/\t.length=16 then(lj X i t,0)else(X,1)
def gt(n:Nat)(X:bA UInt8)(i a:Int):UInt8×Int:=if pg n i/\0<=a/\a<16 then(X.getD (16*i.toNat+a.toNat) 0,0)else(0,1)
def pt(n:Nat)(X:bA UInt8)(i a:Int)(b:UInt8):bA UInt8×Int:=if pg n i/\0<=a/\a<16 then(X.set (16*i.toNat+a.toNat) b,0)else(X,1)
def cl(n:Nat)(X:bA UInt8)(i:Int):bA UInt8×Int:=wr n X i zs
variable{n:Nat}{X:bA UInt8}{i j:Int}
def Hr(h:X.length=16*n)(a:pg n i):(lh X i).length=16:=by
 obtain⟨h1,h2⟩:=a;simp only[lh,hF,nR];omega
def AR{t:bA UInt8}(h:X.length=16*n)(a:pg n i)(b:t.length=16):(lj X i t).length=16*n:=by
 obtain⟨h1,h2⟩:=a;simp only[lj,dd,hF,nR];omega
def Hs{t:bA UInt8}(h:X.length=16*n)(a:pg n i)(b:t.length=16):ig (g9 X) (16*i.toNat) (g9 t)=g9 (lj X i t):=by
 obtain⟨h1,h2⟩:=a;rw[oF _ _ _ (by simp;omega)];simp[g9,lj,b,k3]
def Ht{k:Nat}(hk:k<16):(lh X i)[k]?=X[16*i.toNat+k]? :=by
 simp[lh,hk]
def AS(h:X.length=16*n)(t:bA UInt8):(wr n X i t).1.length=16*n:=by
 unfold wr;split;·next a=>exact AR h a.1 a.2
 ·exact h
def Us(h:X.length=16*n)(a:Int)(b:UInt8):(pt n X i a b).1.length=16*n:=by
 unfold pt;split<;>simpa
end By
end Go.Kc
namespace Go.Kc
open Go Go.Kt Go.Sp
def jm(R:bA dw)(gs:bS):bS:=[3,2,1,0].flatMap λa:Int=>((R.filter λe=>gs.contains e.group&&e.dt==a).map dw.id)
structure eD where
 min:Int
 low:Int
 whole:Bool
deriving DecidableEq
structure eY where
 bY:bA Bool
 c9:bA UInt8
 used:bA eP
structure Cs where
 tree:bA G
 fr:eY
 sl:eY
 files:FS
 bP:bA dw
 log:bS
 bt:TS
 kept:Int->bV Int
 guards:bA eD
def gy(n:Int):eY:=⟨k8 n,List.replicate (16*(min (max n 0).toNat 1024)) 0,mg⟩
def new(cC cV:Int)(bW:bS):Cs:=⟨Kt.new,gy cC,gy cV,gU bW,[],List.replicate 64 0,TS.zero,λ_=>none,[⟨0,0,false⟩]⟩
def eY.du(s:eY)(at_:Int)(a:bS):eY:=⟨(np s.bY at_).1,(By.cl s.bY.length s.c9 at_).1,(gj s.used a 1).1⟩
def Cs.chain(S:Cs)(g:Int):bS:=dk S.tree g
def Cs.live(S:Cs)(g:Int):Bool:=ds S.tree g
def Cs.memory(S:Cs)(g:Int):Int:=cT S.fr.used g
def Cs.swap(S:Cs)(g:Int):Int:=cT S.sl.used g
def Cs.mW(S:Cs)(g:Int):eD:=S.guards.getD g.toNat ⟨0,0,false⟩
def Cs.cn(S:Cs)(p:Int):Cs×Int×Int:=
 let r:=gh S.tree p
 if r.2.2=0 then({S with tree:=r.1,guards:=S.guards++[⟨0,0,false⟩]},r.2)else(S,r.2)
def TS.eo(T:TS)(o:Int):bS:=((List.range T.next.toNat).filter λi:Nat=>match T.pg i with|some p=>p.owner==o|none=>false).map Int.ofNat
def TS.dv(T:TS)(ids:bS)(o:Int):TS:=ids.foldl (λT id=>(T.own id o).1) T
def Cs.remove(S:Cs)(g:Int):Cs×Int:=
 let r:=iX S.tree g
 if r.2=0 then
  let up:=pa S.tree g
  ({S with tree:=r.1,bt:=S.bt.dv (S.bt.eo g) up,bP:=(mV S.bP g up).1,fr:={S.fr with used:=(gj S.fr.used [g] (cT S.fr.used g)).1},sl:={S.sl with used:=(gj S.sl.used [g] (cT S.sl.used g)).1}},0)
 else(S,r.2)
def Cs.iL(S:Cs)(g:Int)(x:eD):Cs:={S with guards:=S.guards.set g.toNat x}
def Cs.cB(S:Cs)(g what n:Int):Cs×Int:=
 if S.live g=false then(S,2)else if gT n=false then(S,1)
 else if what=0 then(S.iL g {S.mW g with min:=n},0)
 else if what=1 then(S.iL g {S.mW g with low:=n},0)
 else if what=2 then({S with fr:={S.fr with used:=(j6 S.fr.used g n).1}},(j6 S.fr.used g n).2)
 else if what=3 then({S with sl:={S.sl with used:=(j6 S.sl.used g n).1}},(j6 S.sl.used g n).2)
 else if what=4 then(if 1<n then(S,1)else(S.iL g {S.mW g with whole:=n==1},0))
 else(S,1)
def gW(R:bA dw):bS->bA dw×Int
 |[]=>(R,0)
 |g::gs=>let r:=iA R g jO;let q:=gW r.1 gs;(q.1,r.2+q.2)
def Cs.dt(S:Cs)(t:Int):Cs×Int:=let r:=gW S.bP (ic S.tree t);({S with bP:=r.1},r.2)
def Cs.text(S:Cs)(p:Pg):bA UInt8:=
 if p.place=1 then(By.rd S.fr.bY.length S.fr.c9 p.at_).1 else if p.place=2 then(By.rd S.sl.bY.length S.sl.c9 p.at_).1 else(rW S.files (p.kf,p.ki)).1
def Cs.clean(S:Cs)(id:Int)(p:Pg):Cs:=
 if 0<=p.kf/\p.e7=true then {S with files:=(ns S.files (p.kf,p.ki) (S.text p)).1,bt:=(S.bt.mark id false).1} else S
def Cs.fo(S:Cs)(id:Int)(p:Pg)(a:bS):Cs×Bool:=
 if a.any (λg=>decide (g8 S.sl.used g<=cT S.sl.used g))then(S,false)else
 let t:=fT S.sl.bY
 if t.2.2≠0 then(S,false)else
 ({S with sl:=⟨t.1,(By.wr t.1.length S.sl.c9 t.2.1 (S.text p)).1,(df S.sl.used a 1).1⟩,bt:=(S.bt.put id 2 t.2.1).1},true)
def Cs.leave(S:Cs)(id:Int)(p:Pg)(a:bS):Cs:=
 {S with fr:=S.fr.du p.at_ a,bP:=(jl S.bP id).1,log:=(dM S.log p.owner).1,kept:=cL S.kept id (some (dM S.log p.owner).2)}
def Cs.out(S:Cs)(id:Int):Cs×Bool:=
 let p:=(S.bt.get id).1
 let a:=S.chain p.owner
 if 0<=p.kf then
  let b:=S.clean id p
  ({b with bt:=(b.bt.put id 0 0).1}.leave id p a,true)
 else
  let r:=S.fo id p a
  if r.2 then(r.1.leave id p a,true)else(S,false)
def Cs.nodes(S:Cs)(own:eD->Int):bA ez:=
 (List.range S.guards.length).map λg:Nat=>if S.live g then⟨((S.tree[g]?).map G.up).getD (-1),S.memory g,own (S.mW g)⟩else⟨((S.tree[g]?).map G.up).getD (-1),0,0⟩
def Cs.held(S:Cs)(t:Int)(own:eD->Int):bA Bool:=
 let l:=S.nodes own
 (List.range l.length).map λg:Nat=>nu l (mT l t) t g
def pass(held:Int->Bool):bS->Cs->Cs×Bool
 |[],S=>(S,false)
 |id::r,S=>
  if held (S.bt.get id).1.owner then pass held r S
  else let o:=S.out id
   if o.2 then(o.1,true)else pass held r o.1
def hA(l:bA Bool)(g:Int):Bool:=l.getD g.toNat false
def Cs.cM(S:Cs)(t:Int)(gs:bS)(all:Bool):Cs×Bool:=
 if S.live t=false then(S,false)else
 let mn:=S.held t eD.min
 let lw:=S.held t eD.low
 let o:=jm S.bP gs
 let r:=pass (λg=>hA mn g||hA lw g) o S
 if r.2 then(r.1,true)else if all then pass (λg=>hA mn g) o r.1 else(r.1,false)
def Cs.c1(S:Cs)(t:Int):Cs×Bool:=S.cM t (ic S.tree t) true
def da(t:Int)(gs:bS):Nat->Cs->Cs×Int
 |0,S=>(S,0)
 |n+1,S=>let r:=S.cM t gs false;let q:=da t gs n r.1;(q.1,(if r.2 then 1 else 0)+q.2)
def cr(t:Int):bA (Int×Int)->Cs->Cs×Int
 |[],S=>(S,0)
 |(g,k)::r,S=>let a:=da t [g] k.toNat S;let b:=cr t r a.1;(b.1,a.2+b.2)
def dB(t:Int):Nat->Cs->Cs×Int
 |0,S=>(S,0)
 |n+1,S=>let r:=S.c1 t;if r.2 then let q:=dB t n r.1;(q.1,1+q.2)else(r.1,0)
def Cs.weights(S:Cs)(t:Int):bS:=
 (ic S.tree t).map λg=>if hA (S.held t eD.min) g=false/\hA (S.held t eD.low) g=false then oH S.bP g else 0
def Cs.shrink(S:Cs)(t n:Int):Cs×Int:=
 if S.live t=false\/n<1\/1000<n then(S,0)else
 let a:=cr t ((ic S.tree t).zip (jk n (S.weights t))) S
 let b:=dB t (n-a.2).toNat a.1
 (b.1,a.2+b.2)
def take(g:Int):Nat->Cs->Cs×Int×Int×Int
 |0,S=>(S, -1,0,12)
 |n+1,S=>
  let a:=S.chain g
  let t:=df S.fr.used a 1
  let full (c:Cs) (b:Int):Cs×Int×Int×Int:=
   let r:=c.c1 b
   if r.2 then take g n r.1 else(r.1, -1,b,12)
  if t.2.2=0 then
   let p:=fT S.fr.bY
   if p.2.2=0 then({S with fr:={S.fr with bY:=p.1,used:=t.1}},p.2.1, -1,0)
   else full {S with fr:={S.fr with used:=(gj t.1 a 1).1}} 0
  else full S t.2.1
def Cs.take(S:Cs)(g:Int):Cs×Int×Int×Int:=Kc.take g (S.bP.length+1) S
def Cs.place(S:Cs)(id at_ g:Int)(text:bA UInt8)(dZ:Bool):Cs:=
 {S with fr:={S.fr with c9:=(By.wr S.fr.bY.length S.fr.c9 at_ text).1},bt:=((S.bt.own id g).1.put id 1 at_).1,bP:=(jM S.bP id g dZ).1}
def Cs.c8(S:Cs)(g:Int)(text:bA UInt8):Cs×Int×Int×Int:=
 let t:=S.take g
 if t.2.2.2≠0 then(t.1, -1,t.2.2.1,t.2.2.2)else
 let m:=t.1.bt.make (-1) 0 g
 ({t.1 with bt:=m.1}.place m.2.1 t.2.1 g text false,m.2.1, -1,0)
def Cs.fresh(S:Cs)(g:Int):Cs×Int×Int×Int:=if S.live g=false then(S, -1, -1,2)else S.c8 g By.zs
def Cs.copy(S:Cs)(id g:Int):Cs×Int×Int×Int:=
 let p:=S.bt.get id
 if p.2≠0\/S.live g=false\/p.1.place=0 then(S, -1, -1,2)else S.c8 g (S.text p.1)
def Cs.bX(S:Cs)(id g:Int):Cs×Int×Int:=
 let p:=S.bt.get id
 if p.2≠0\/S.live g=false\/(p.1.place=0/\p.1.kf<0)then(S, -1,2)
 else if p.1.place=1 then({S with bP:=(hj S.bP id).1}, -1,0)
 else
  let o:=if p.1.place=0 then g else p.1.owner
  let t:=S.take o
  if t.2.2.2≠0 then(t.1,t.2.2.1,t.2.2.2)else
  let text:=t.1.text p.1
  let a:=if p.1.place=2 then {t.1 with sl:=t.1.sl.du p.1.at_ (t.1.chain o)} else t.1
  let b:=mi a.log ((a.kept id).getD 0) (a.memory o)
  (a.place id t.2.1 o text (!b), -1,0)
def Cs.cA(S:Cs)(k:Int×Int)(g:Int):Cs×Int×Int×Int:=
 if ec S.files k=false\/S.live g=false then(S, -1, -1,2)else
 let made:=decide (S.bt.of k<0)
 let m:=S.bt.make k.1 k.2 g
 let a:=if made then {S with bt:=m.1} else S
 let id:=if made then m.2.1 else S.bt.of k
 let b:=a.bX id g
 if b.2.2=0 then(b.1,id, -1,0)
 else if made then({b.1 with bt:=(b.1.bt.drop id).1}, -1,b.2.1,b.2.2)
 else(b.1, -1,b.2.1,b.2.2)
def Cs.here(S:Cs)(id:Int):Int×Bool:=let p:=S.bt.get id;(p.1.at_,p.2==0&&p.1.place==1)
def Cs.get(S:Cs)(id at_:Int):Cs×Int×Int:=
 let h:=S.here id
 if h.2=false then(S,0,2)else
 let r:=By.gt S.fr.bY.length S.fr.c9 h.1 at_
 (if r.2=0 then {S with bP:=(hj S.bP id).1} else S,(r.1.toNat:Int),r.2)
def Cs.put(S:Cs)(id at_:Int)(b:UInt8):Cs×Int:=
 let h:=S.here id
 if h.2=false then(S,2)else
 let r:=By.pt S.fr.bY.length S.fr.c9 h.1 at_ b
 if r.2=0 then({S with fr:={S.fr with c9:=r.1},bP:=(hj S.bP id).1,bt:=(S.bt.mark id true).1},0)else(S,r.2)
def Cs.bO(S:Cs)(id n:Int):Cs×Int:=
 let r:=S.bt.bO id n
 if r.2.2≠0\/0<r.2.1 then({S with bt:=r.1},r.2.2)else
 let a:={S with bt:=r.1}
 let p:=(a.bt.get id).1
 let e:=a.chain p.owner
 let c:=if p.place=1 then
   let b:=a.clean id p
   {b with fr:=b.fr.du p.at_ e,bP:=(jl b.bP id).1}
  else if p.place=2 then {a with sl:=a.sl.du p.at_ e} else a
 let d:=(c.bt.put id 0 0).1.drop id
 ({c with bt:=d.1},d.2)
end Go.Kc
namespace Go.Sp
open Go Go.Vc
abbrev cW(E:Env)(x:bE)(L:ct):=cz λv w=>v=x/\Sep E L w
end Go.Sp
