/- A part of the proof. -/
import Derived.Tactics
import Derived.Still
import Derived.Laws.World
import Derived.KernelRfl
import Derived.Scope
import Derived.ScopeJumps
import Derived.StillTail
import Derived.Deep.LoopGhost
import Derived.Deep.Quiet
set_option linter.all false
open Go in abbrev aP2:Value:=.bool false
open Go in abbrev aP3:Value:=.bool true
open Go in abbrev aP4:Value:=.tuple #[]
open Go in abbrev aP8:Value:=.slice none 0 0
open Go.IntKind(i64 u64)
open Go in abbrev bi9:=World->Prop
open Go in abbrev bj0:=Value->World->Prop
open Go in abbrev cm:=Option Addr
open Go in abbrev bI:=World
open Go in abbrev bH:=Value
open Go in abbrev bj6:=FuncId
open Go in abbrev bZ:=TypeId
open Go in abbrev cS:=Program
universe u
abbrev e7(i:Int)(n:Nat)(A B:Prop):Prop:=cond (decide (i<(n:Int))) A B
abbrev ej(i n:Int)(A B:Prop):Prop:=cond (decide (i<n)) A B
abbrev dO(b:Bool)(A B:Prop):Prop:=cond (!b) A B
def bJ:=@if_neg
def ea:=@List.getElem?_eq_getElem
def bK:=@if_pos
def c2:=@List.getElem?_eq_some_iff
def dC:=@List.getD_eq_getElem?_getD
def cV:=@Option.some.inj
def df:=@List.length_append
def dp:=@List.append_assoc
def dt:=@Int.toNat_natCast
def eQ:=@List.getElem?_append_left
def dq:=@decide_eq_false
def dF:=@Bool.and_eq_true
def eG:=@List.mem_of_getElem?
def fL:=@List.getElem?_append_right
def ez:=@List.getElem?_map
def dK:=@decide_eq_true
def dY:=@List.length_map
def eh:=@List.length_set
def fP:=@List.take_append_drop
def dX:=@Nat.zero_le
def ec:=@Nat.le_refl
def eH:=@List.mem_cons
def fS:=@List.mem_cons_self
def gn:=@List.mem_cons_of_mem
def fB:=@List.take_length
def gI:=@List.getElem?_eq_none
def fT:=@Option.some.injEq
def fM:=@List.all_eq_true
def fC:=@Option.map_some
def je:=@Array.getD_eq_getD_getElem?
def gD:=@decide_eq_true_eq
def gJ:=@List.ext_getElem?
def gb:=@List.mem_append
def gp:=@List.mem_filter
def fz:=@Nat.zero_add
def iq:=@List.take_of_length_le
def ht:=@List.pairwise_cons
def fD:=@List.mem_map
def jf:=@Option.isSome_iff_exists
def gT:=@List.length_take
def hv:=@List.getElem?_set
def gq:=@List.mem_range
def iD:=@List.set_append_right
def g3:=@List.append_nil
def jm:=@List.getElem?_set_self
def h9:=@List.mem_singleton
def iM:=@List.getElem?_set_ne
def hN:=@List.length_cons
def eO:=@congrArg
def fY:=@Nat.mul_one
def jn:=@List.mem_iff_getElem
def ir:=@Bool.not_eq_true'
def kZ:=@List.drop_eq_getElem_cons
def jE:=@List.pairwise_append
def k1:=@List.getElem?_cons_zero
def mr:=@List.perm_append_comm_assoc
def kz:=@Nat.eq_of_beq_eq_true
def hE:=@Nat.lt_or_ge
def lo:=@List.drop_of_length_le
def hh:=@Int.le_refl
def jo:=@List.perm_middle
def hT:=@List.map_set
def k2:=@Nat.mul_le_mul_right
def kj:=@of_decide_eq_false
def lp:=@Array.mem_of_getElem?
def lq:=@List.contains_iff_mem
def mV:=@List.pairwise_iff_getElem
def kk:=@List.pairwise_map
def nx:=@List.nodup_iff_pairwise_ne
def jR:=@List.filter_cons
def k3:=@Nat.eq_zero_or_pos
def kA:=@of_decide_eq_true
def hF:=@cond_false
def jS:=@Bool.or_eq_true
def mu:=@List.perm_append_comm
def mw:=@List.length_filter_le
def mx:=@List.length_singleton
def iE:=@Nat.sub_self
def oP:=@Array.getElem?_setIfInBounds
def lr:=@Nat.lt_of_lt_of_le
def mW:=@List.length_replicate
def lZ:=@Bool.false_eq_true
def gU:=@if_false
def mX:=@List.mem_append_left
def oh:=@List.getElem?_replicate
def oQ:=@Array.getElem?_eq_getElem
def l0:=@List.take_add_one
def hU:=@cond_true
def pG:=@Array.getElem?_eq_some_iff
def lu:=@List.map_append
def om:=@List.mem_append_right
def kB:=@List.map_cons
def ny:=@List.getElem?_range
def g4:=@if_true
def l1:=@List.nil_append
def oo:=@List.mem_of_mem_take
def sy:=@List.take_append_of_le_length
def oR:=@List.Perm.append_left
def mY:=@Option.getD_some
def mZ:=@Nat.mod_eq_of_lt
def uB:=@Nat.and_two_pow_sub_one_eq_mod
def oS:=@List.replicate_succ
def kC:=@Nat.add_mul
def lv:=@Nat.le_trans
def oq:=@List.flatMap_cons
def uC:=@List.eq_nil_of_length_eq_zero
def pH:=@Array.mem_toList_iff
def sA:=@Classical.byContradiction
def my:=@Bool.true_and
def l2:=@Nat.add_zero
def ot:=@List.length_drop
def rk:=@List.mem_iff_getElem?
def sB:=@Nat.add_sub_cancel_left
def k4:=@Nat.mod_lt
def rl:=@BitVec.ofInt_natCast
def pI:=@List.getElem?_take
def oT:=@List.getElem_mem
def sC:=@List.Perm.append_right
def pJ:=@List.take_sublist
def nz:=@Bool.toNat_le
def rm:=@List.getElem?_drop
def rn:=@List.find?_eq_none
def pK:=@List.cons_append
def sD:=@List.set_append_left
def nA:=@Nat.zero_mul
def rp:=@List.count_append
def sE:=@Nat.testBit_two_pow
def xn:=@List.mem_of_find?_eq_some
def pM:=@Nat.min_eq_left
def oU:=@Prod.mk.injEq
def nB:=@Nat.mul_add
def uD:=@Nat.pow_le_pow_right
def uE:=@List.mem_of_mem_drop
def xo:=@List.length_eq_zero_iff
def rq:=@List.nodup_cons
def rr:=@List.length_nil
def uF:=@Array.length_toList
def xp:=@Array.getElem?_eq_none
def xq:=@List.append_eq_nil_iff
def pN:=@Bool.or_false
def sF:=@decide_eq_decide
def ru:=@List.drop_drop
def rv:=@List.drop_zero
def uG:=@BitVec.toNat_ofNat
def uH:=@List.filter_append
def xr:=@List.count_cons_of_ne
def sG:=@List.count_cons
def xt:=@Nat.eq_of_testBit_eq
def GZ:=@Int.mul_le_mul_of_nonneg_right
def xu:=@List.count_cons_self
def uI:=@List.flatten_cons
def uJ:=@List.nodup_append
def uK:=@Bool.eq_false_iff
def T8:=@Array.getElem?_setIfInBounds_self_of_lt
def xv:=@beq_eq_false_iff_ne
def xw:=@List.filter_eq_self
def xx:=@List.flatMap_append
def uL:=@beq_self_eq_true
def uM:=@List.any_eq_true
def l3:=@Ne.symm
def sH:=@Bool.and_false
def uN:=@List.not_mem_nil
def oV:=@beq_iff_eq
def ry:=@Nat.pow_succ
def xy:=@List.mem_filterMap
def G0:=@Nat.two_pow_add_eq_or_of_lt
def mz:=@Iff.rfl
def Ba:=@List.countP_le_length
def uO:=@Int.natCast_mul
def xz:=@List.filter_congr
def G1:=@List.getElem?_eq_none_iff
def uP:=@List.take_zero
def xA:=@List.countP_cons
def xB:=@BitVec.toNat_and
def sI:=@Nat.add_comm
def G2:=@List.Pairwise.imp_of_mem
def xC:=@List.drop_length
def Bb:=@List.mergeSort_perm
def T9:=@Array.getElem?_setIfInBounds_ne
def G3:=@List.getElem?_cons_succ
def G4:=@List.pairwise_singleton
def G5:=@decide_eq_false_iff_not
def uQ:=@Nat.lt_irrefl
def uR:=@Nat.add_assoc
def Bc:=@Nat.lt_of_le_of_lt
def Bd:=@List.set_cons_zero
def G6:=@Nat.div_div_eq_div_mul
def G7:=@List.pairwise_lt_range
def Ua:=@List.drop_append_of_le_length
def Be:=@List.foldl_append
def G8:=@Array.getElem?_modify
def uS:=@List.map_map
def xD:=@Bool.false_and
def G9:=@List.getElem?_zipWith
def xE:=@Option.map_map
def Bf:=@List.flatten_nil
def Ha:=@Bool.or_eq_false_iff
def Bg:=@List.mem_flatMap
def Hb:=@Nat.pow_lt_pow_right
def Bh:=@Nat.div_eq_of_lt
def Ub:=@Int.fdiv_eq_ediv_of_nonneg
def Hc:=@List.replicate_zero
def Hd:=@List.getElem_of_mem
def He:=@List.filterMap_cons
def Hf:=@List.flatten_append
def Hg:=@Array.toList_filter
def Bi:=@Nat.two_pow_pos
def Uc:=@Option.isNone_iff_eq_none
def Bj:=@Int.ediv_nonneg
def xF:=@Nat.succ_mul
def Ud:=@Array.getElem?_replicate
def Hh:=@List.countP_append
def Hi:=@Bool.true_eq_false
def xG:=@Nat.mul_comm
def Hj:=@Nat.xor_lt_two_pow
def Hk:=@Option.isSome_some
def Bk:=@Int.mul_nonneg
def pO:=@eq_self
def Hl:=@List.idxOf_append
def Hm:=@Nat.lt_trichotomy
def Hn:=@List.size_toArray
def Ho:=@List.length_range
def Hp:=@List.drop_sublist
def be3:=@List.set_eq_take_append_cons_drop
def Bl:=@List.all_cons
def Hq:=@Option.bind_some
def Hr:=@List.getElem_set
def be7:=@Nat.testBit_eq_decide_div_mod_eq
def Ue:=@Nat.le_of_ble_eq_true
def be9:=@List.eraseIdx_eq_take_drop_succ
def bf0:=@List.mk_mem_zipIdx_iff_getElem?
def Hs:=@List.foldl_cons
def pP:=@not_or
def Ht:=@List.find?_some
def Bm:=@Nat.pow_zero
def Hu:=@Nat.div_le_self
def Hv:=@Int.natCast_add
def Hw:=@List.any_append
def Uf:=@List.mem_of_getLast?
def Ug:=@List.getElem?_of_mem
def Uh:=@List.contains_append
def Hx:=@Int.emod_nonneg
def Bn:=@Int.zero_add
def Ui:=@List.count_le_length
def Uj:=@List.getElem?_mapIdx
def bg5:=@List.mem_eraseIdx_iff_getElem
def bg6:=@Int.mul_le_mul_of_nonneg_left
def Uk:=@List.countP_eq_zero
def Ul:=@List.take_set_of_le
def Um:=@List.drop_set_of_lt
def Un:=@List.map_congr_left
def Hy:=@List.mapM_cons
def Hz:=@List.nodup_nil
def uT:=@or_false
def HA:=@Nat.mul_le_mul
def HB:=@List.Perm.refl
def Bo:=@Nat.div_one
def Uo:=@Option.isSome_none
def Up:=@List.set_cons_succ
def Uq:=@List.map_replicate
def Ur:=@List.count_pos_iff
def HC:=@Bool.false_or
def HD:=@Nat.mul_assoc
def HE:=@Int.add_assoc
def HF:=@Int.lt_irrefl
def Us:=@Nat.le_of_not_lt
def HG:=@Nat.lt_trans
def HH:=@Nat.sub_zero
def Ut:=@List.drop_append
abbrev bS:=List Int
abbrev bX:=@Option
abbrev bA:=@List
abbrev cf:=@Array
theorem cK{c:Prop}{h:Decidable c}(k:¬c:=by omega){α:Sort u}{a b:α}:(ite c a b)=b:=if_neg k
theorem eV{c:Prop}{h:Decidable c}(k:c:=by omega){α:Sort u}{a b:α}:(ite c a b)=a:=if_pos k
theorem du{α:Type u}{l:List α}{i:Nat}(h:i<l.length:=by omega):l[i]?=some l[i]:=List.getElem?_eq_getElem h
theorem bu{p:Prop}(h:p:=by omega):p:=h
theorem bN{p:Prop}[Decidable p](h:p:=by decide):p:=h
namespace Go.Kt
structure G where
 up:Int
 live:Bool
def dB(l:bA G)(g:Int):Bool:=decide (0<=g)&&(match l[g.toNat]? with|some x=>x.live|none=>false)
structure WF(l:bA G):Prop where
 pos:0<l.length
 eI:l.length<=64
 root:l[0]?=some ⟨-1,true⟩
 up:∀(i:Nat) x,l[i]?=some x->0<i->0<=x.up/\x.up<i
 live:∀(i:Nat) x y,l[i]?=some x->0<i->x.live=true->l[x.up.toNat]?=some y->y.live=true
def jg{l:bA G}{g:Int}:dB l g=true↔∃n:Nat,g=n/\∃x,l[n]?=some x/\x.live=true:=by
 unfold dB;rw[dF,gD];constructor
 ·rintro⟨a,h⟩;refine⟨g.toNat,bu,?_⟩;split at h;·next x hx=>exact⟨x,hx,h⟩
  ·cases h
 ·rintro⟨n,rfl,x,hx,hl⟩;refine⟨bu,?_⟩;rw[dt,hx];exact hl
def Uu{l:bA G}{g:Int}(h:dB l g=true):0<=g/\g<l.length:=by
 obtain⟨n,rfl,x,hx,_⟩:=jg.1 h;have:=(c2.1 hx).1;omega
def chain(l:bA G)(g:Nat):bA Nat:=
 if h:0<g/\0<=((l[g]?).map G.up).getD (-1)/\((l[g]?).map G.up).getD (-1)<g then g::chain l (((l[g]?).map G.up).getD (-1)).toNat else[g]
termination_by g
decreasing_by omega
def aig(l:bA G):chain l 0= [0]:=by rw[chain,dif_neg bu]
def sJ{l:bA G}{g:Nat}{x:G}(h:WF l)(hx:l[g]?=some x)(a:0<g):chain l g=g::chain l x.up.toNat:=by
 have:=h.up g x hx a;rw[chain];rw[hx];simp only[fC,mY];rw[dif_pos ⟨a,this.1,this.2⟩]
def HI(l:bA G)(g:Nat):∃r,chain l g=g::r:=by
 rw[chain];split<;>exact⟨_,rfl⟩
def Bp{l:bA G}(h:WF l):∀(g:Nat),g<l.length->(∀x∈chain l g,x<=g)/\(chain l g).length<=g+1:=by
 intro g;induction g using Nat.strongRecOn with
 |_ g d=>
  intro c;rcases k3 g with a|a;·subst a;rw[aig];simp
  ·obtain⟨x,hx⟩:∃x,l[g]?=some x:=⟨_,ea c⟩
   have hu:=h.up g x hx a;rw[sJ h hx a];have:=d x.up.toNat bu bu;refine⟨λy b=>?_,by rw[hN];omega⟩;rcases eH.1 b with rfl|b;·omega
   ·have:=this.1 y b;omega
def Uv{l:bA G}(h:WF l):∀(g:Nat),g<l.length->(chain l g).Nodup:=by
 intro g;induction g using Nat.strongRecOn with
 |_ g c=>
  intro b;rcases k3 g with a|a;·subst a;rw[aig];simp
  ·obtain⟨x,hx⟩:∃x,l[g]?=some x:=⟨_,ea b⟩
   have hu:=h.up g x hx a;rw[sJ h hx a,rq];refine⟨λhm=>?_,c _ bu bu⟩;have:=(Bp h x.up.toNat bu).1 g hm;omega
def Uw{l:bA G}(h:WF l):∀(g:Nat),g<l.length->0∈chain l g:=by
 intro g;induction g using Nat.strongRecOn with
 |_ g c=>
  intro b;rcases k3 g with a|a;·subst a;rw[aig];simp
  ·obtain⟨x,hx⟩:∃x,l[g]?=some x:=⟨_,ea b⟩
   have hu:=h.up g x hx a;rw[sJ h hx a];exact gn _ (c _ bu bu)
def dx(l:bA G)(g:Int):bS:=if dB l g=true then(chain l g.toNat).map Int.ofNat else[]
def HJ(l:bA G)(g:Int):Int:=((dx l g).length:Int)-1
def pQ(l:bA G)(g:Int):Int:=if dB l g=true then((l[g.toNat]?).map G.up).getD (-1)else -1
def ou(l:bA G)(is:Nat->Bool):bS:=((List.range l.length).filter λi:Nat=>dB l (i:Int)&&is i).map Int.ofNat
def iu(l:bA G)(g:Int):bS:=if dB l g=true then ou l (λi=>(dx l i).contains g)else[]
def kD(l:bA G)(g:Int):bS:=if dB l g=true then ou l (λi=>((l[i]?).map G.up).getD (-1)==g)else[]
def gz(l:bA G)(p:Int):bA G×Int×Int:=
 if dB l p=false then(l, -1,2)else if HJ l p≥7 then(l, -1,21)else if l.length≥64 then(l, -1,3)else(l++[⟨p,true⟩],l.length,0)
def jh(l:bA G)(g:Int):bA G×Int:=
 if g=0 then(l,1)else if dB l g=false then(l,2)else if kD l g≠ []then(l,4)else(l.set g.toNat ⟨((l[g.toNat]?).map G.up).getD (-1),false⟩,0)
def new:bA G:=[⟨-1,true⟩]
def Ux:WF new:=⟨bN,bN,rfl,λi x hx a=>by
 match i,hx with
 |0,_=>omega
 |i+1,hx=>simp[new]at hx,λi x y hx a=>by
 match i,hx with
 |0,_=>omega
 |i+1,hx=>simp[new]at hx⟩
def Uy{l:bA G}(h:WF l)(p:Int):WF (gz l p).1:=by
 unfold gz;split;·exact h
 split;·exact h
 split;·exact h
 next hl _ hn=>
  have hl:dB l p=true:=by simpa using hl
  obtain⟨n,rfl,x,hx,g⟩:=jg.1 hl;have f:=(c2.1 hx).1;refine⟨by simp,by simp;omega,?_,λi y a d=>?_,λi y z a d j c=>?_⟩;·rw[eQ h.pos];exact h.root
  ·rcases hE i l.length with b|b;·rw[eQ b]at a;exact h.up i y a d
   ·rw[fL b]at a;have:i-l.length=0:=by
     rcases k3 (i-l.length)with h' | h';·exact h'
     ·rw[gI (by simp;omega)]at a;cases a
    rw[this]at a;have:=cV a;subst this;exact⟨by show(0:Int)<=(n:Int);omega,by show(n:Int)<i;omega⟩
  ·rcases hE i l.length with b|b
   ·rw[eQ b]at a;have hu:=h.up i y a d;rw[eQ bu]at c;exact h.live i y z a d j c
   ·rw[fL b]at a;have:i-l.length=0:=by
     rcases k3 (i-l.length)with h' | h';·exact h'
     ·rw[gI (by simp;omega)]at a;cases a
    rw[this]at a;have:=cV a;subst this;have e:((n:Int)).toNat=n:=by omega
    simp only[e]at c;rw[eQ f,hx]at c;rw[<- cV c];exact g
def Uz{l:bA G}(h:WF l)(g:Int):WF (jh l g).1:=by
 unfold jh;split;·exact h
 split;·exact h
 split;·exact h
 next m hl hk=>
  have hl:dB l g=true:=by simpa using hl
  have hk:kD l g= []:=by simpa using hk
  obtain⟨n,rfl,x,hx,p⟩:=jg.1 hl;have d:=(c2.1 hx).1;rw[dt,hx];simp only[fC,mY];have f:n≠0:=λe=>m (by rw[e];rfl);refine⟨by rw[eh];exact h.pos,by rw[eh];exact h.eI,?_,λi y a b=>?_,λi y z a b c j=>?_⟩;·rw[iM f];exact h.root
  ·by_cases e:n=i
   ·subst e;rw[jm d]at a;have:=cV a;subst this;exact h.up n x hx b
   ·rw[iM e]at a;exact h.up i y a b
  ·by_cases e:n=i
   ·subst e;rw[jm d]at a;have:=cV a;subst this;cases c
   ·rw[iM e]at a;by_cases k:n=y.up.toNat
    ·exfalso;have hu:=h.up i y a b;have o:=(c2.1 a).1;have:(i:Int)∈kD l n:=by
      unfold kD ou;rw[bK hl];refine fD.2 ⟨i,gp.2 ⟨gq.2 o,?_⟩,rfl⟩;rw[dF];refine⟨jg.2 ⟨i,rfl,y,a,c⟩,?_⟩;show(((l[i]?).map G.up).getD (-1)==(n:Int))=true;rw[a];simp only[fC,mY,oV];omega
     rw[hk]at this;cases this
    ·rw[iM k]at j;exact h.live i y z a b c j
end Go.Kt
namespace Go.Vc
open Go
structure Sl where
 p:cm
 n:Nat
 c:Nat
inductive C1 where
 |int (k:IntKind)|bool|str|ptr|slice|map|raw|addr
def C1.ty:C1->Type
 |.int _=>Int | .bool=>Bool | .str=>ByteArray | .ptr=>cm | .slice=>Sl | .map=>bX Nat | .raw=>bH | .addr=>Addr
def C1.mk:(c:C1)->c.ty->bH
 |.int k,n=>.int k n
 |.bool,b=>.bool b
 |.str,s=>.string s
 |.ptr,p=>.pointer p
 |.slice,s=>.slice s.p s.n s.c
 |.map,r=>.map r
 |.raw,v=>v
 |.addr,a=>.pointer (some a)
def C1.un:(c:C1)->bH->bX c.ty
 |.int k,.int k' n=>match decide (k=k')with|true=>some n|false=>none
 |.bool,.bool b=>some b
 |.str,.string s=>some s
 |.ptr,.pointer p=>some p
 |.slice,.slice p n c=>some ⟨p,n,c⟩
 |.map,.map r=>some r
 |.raw,v=>some v
 |.addr,.pointer (some a)=>some a
 |_,_=>none
def C1.l4{c:C1}{v:bH}{x:c.ty}(h:c.un v=some x):v=c.mk x:=by
 cases c<;>cases v<;>simp only[C1.un,reduceCtorEq]at h
 case int.int k k' n=>
  split at h;·rename_i e;simp only[gD]at e;subst e;exact eO (Value.int k) (cV h)
  ·cases h
 case bool.bool=>exact eO Value.bool (cV h)
 case str.string=>exact eO Value.string (cV h)
 case ptr.pointer=>exact eO Value.pointer (cV h)
 case map.map=>exact eO Value.map (cV h)
 case slice.slice p n c=>have h':(⟨p,n,c⟩:Sl)=x:=cV h;subst h';rfl
 case addr.pointer p=>cases p with|none=>cases h|some a=>exact eO (λa=>Value.pointer (some a)) (cV h)
 all_goals exact cV h
inductive K1 where
 |one (c:C1)|agg (l:bA C1)|arr (n:Nat) (k:IntKind)
inductive Kd where
 |k (x:K1)|jq (l:bA K1)
def Bq:bA C1->cf bH->(cf bH->Prop)->Prop
 |[],acc,f=>f acc
 |c::l,acc,f=>∃x:c.ty,Bq l (acc.push (c.mk x)) f
def K1.ex:K1->(bH->Prop)->Prop
 |.one c,f=>∃x:c.ty,f (c.mk x)
 |.agg l,f=>Bq l #[] (λcs=>f (.agg cs))
 |.arr n k,f=>∃xs:bS,xs.length=n/\f (.agg (xs.map (Value.int k)).toArray)
def xH:bA K1->cf bH->(cf bH->Prop)->Prop
 |[],acc,f=>f acc
 |k::l,acc,f=>k.ex λv=>xH l (acc.push v) f
def Kd.ex:Kd->(bH->Prop)->Prop
 |.k x,f=>x.ex f
 |.jq l,f=>xH l #[] (λvs=>f (.tuple vs))
def HK:∀(l:bA C1) (acc:cf bH) (f:cf bH->Prop),Bq l acc f->∃vs,f vs
 |[],acc,_,h=>⟨acc,h⟩
 |_::l,_,f,⟨_,h⟩=>HK l _ f h
def K1.e5{k:K1}{f:bH->Prop}(h:k.ex f):∃v,f v:=by
 cases k with
 |one c=>obtain⟨x,h⟩:=h;exact⟨_,h⟩
 |agg l=>obtain⟨v,h⟩:=HK l _ _ h;exact⟨_,h⟩
 |arr n k=>obtain⟨x,_,h⟩:=h;exact⟨_,h⟩
def Br:∀(l:bA K1) (acc:cf bH) (f:cf bH->Prop),xH l acc f->∃vs,f vs
 |[],acc,_,h=>⟨acc,h⟩
 |_::l,_,f,h=>let ⟨_,h⟩:=K1.e5 h;Br l _ f h
def Kd.e5{k:Kd}{f:bH->Prop}(h:k.ex f):∃v,f v:=by
 cases k with
 |k x=>exact K1.e5 h
 |jq l=>obtain⟨v,h⟩:=Br l _ _ h;exact⟨_,h⟩
def eB(P:cS)(t:bZ):bX Bool:=
 match P.underlying t with
 |some (.struct _)=>some true
 |some (.array _ _)=>some true
 |some _=>some false
 |none=>none
def iF(P:cS)(t:bZ):bX Nat:=
 match P.info? t with
 |some i=>some i.size
 |none=>none
def pR(P:cS)(t:bZ):bX bH:=
 match P.info? t with
 |some i=>i.zero
 |none=>none
section
variable{P:cS}{w:bI}
def xI{t:bZ}{z:bH}(h:pR P t=some z):(zeroValue t).run P w=.ok z w:=by
 unfold pR at h;split at h;·rename_i i a;simp[zeroValue,typeInfo,a,h]
 ·cases h
def ia{t:bZ}{d:TypeDesc}(h:P.underlying t=some d):(underlying t).run P w=.ok d w:=by
 simp[underlying,h]
def uU{t:bZ}{b:Bool}(h:eB P t=some b):(isAgg t).run P w=.ok b w:=by
 unfold eB at h;cases hu:P.underlying t with
 |none=>simp[hu]at h
 |some d=>cases d<;>simp[hu]at h<;>subst h<;>simp[isAgg,ia hu]
def run_sizeOf{t:bZ}{n:Nat}(h:iF P t=some n):(sizeOf t).run P w=.ok n w:=by
 unfold iF at h;cases hu:P.info? t with
 |none=>simp[hu]at h
 |some i=>simp[hu]at h;subst h;simp[sizeOf,typeInfo,hu]
end
structure Grow(w w':bI):Prop where
 os:w'.os=w.os
 tape:w'.tape=w.tape
 output:w'.output=w.output
 size:w.heap.size<=w'.heap.size
 heap:∀b,b<w.heap.size->w'.heap[b]?=w.heap[b]?
def Grow.refl(w:bI):Grow w w:=⟨rfl,rfl,rfl,ec _,λ_ _=>rfl⟩
def Grow.trans{a b c:bI}(h:Grow a b)(h':Grow b c):Grow a c:=
 ⟨h'.os.trans h.os,h'.tape.trans h.tape,h'.output.trans h.output,lv h.size h'.size,λx hx=>(h'.heap x (lr hx h.size)).trans (h.heap x hx)⟩
def Grow.drew(w:bI):Grow w w.drew:=⟨rfl,rfl,rfl,ec _,λ_ _=>rfl⟩
def Grow.alloc(w:bI)(o:Obj):Grow w (w.alloc o):=
 ⟨rfl,rfl,rfl,by show w.heap.size<=(w.heap.push o).size;simp,λb hb=>by show(w.heap.push o)[b]?=w.heap[b]?;rw[Array.getElem?_push,bJ (Nat.ne_of_lt hb)]⟩
def Grow.cell{w w':bI}(h:Grow w w'){a:Addr}{v:bH}(b:w.cell? a=some v):w'.cell? a=some v:=by
 unfold World.cell? at b ⊢;cases hb:w.heap[a.block]? with
 |none=>simp[hb]at b
 |some o=>
  have c:a.block<w.heap.size:=by
   rcases hE a.block w.heap.size with h|h;·exact h
   ·simp[xp h]at hb
  rw[h.heap _ c,hb];simpa[hb]using b
def Bs:bA C1->Addr->Nat->cf bH->bI->(cf bH->Prop)->Prop
 |[],_,_,acc,_,f=>f acc
 |c::l,a,i,acc,w,f=>∃x:c.ty,w.cell? (a.add i)=some (c.mk x)/\Bs l a (i+1) (acc.push (c.mk x)) w f
def UA(n:Nat)(k:IntKind)(a:Addr)(w:bI)(f:bH->Prop):Prop:=
 ∃xs:bS,xs.length=n/\(∀i,i<n->w.cell? (a.add i)=some (.int k (xs.getD i 0)))/\f (.agg (xs.map (Value.int k)).toArray)
def Bt(P:cS)(k:K1)(t:bZ)(a:Addr)(w:bI)(f:bH->Prop):Prop:=
 match k with
 |.one c=>match eB P t with
  |some false=>∃x:c.ty,w.cell? a=some (c.mk x)/\f (c.mk x)
  |_=>False
 |.agg l=>match eB P t,iF P t with
  |some true,some n=>bif n==l.length then Bs l a 0 #[] w (λcs=>f (.agg cs))else False
  |_,_=>False
 |.arr n k=>match eB P t,iF P t with
  |some true,some m=>bif m==n then UA n k a w f else False
  |_,_=>False
def HL{P:cS}:∀(l:bA C1) (a:Addr) (i:Nat) (acc:cf bH) (w:bI) (f:cf bH->Prop),Bs l a i acc w f->
  ∃vs,(∀w',Grow w w'->(loadCellsFrom a i l.length acc).run P w'=.ok vs w')/\f vs
 |[],_,_,acc,_,_,h=>⟨acc,λ_ _=>by simp[loadCellsFrom],h⟩
 |c::l,a,i,acc,w,f,⟨x,hx,h⟩=>by
  obtain⟨vs,h1,h2⟩:=HL (P:=P) l a (i+1) _ w f h;exact⟨vs,λw' g=>by simp[loadCellsFrom,g.cell hx,h1 w' g],h2⟩
def HM{P:cS}{k:IntKind}{a:Addr}{w:bI}(xs:bS):∀(m i:Nat) (acc:cf bH),i+m=xs.length->
  (∀j,j<xs.length->w.cell? (a.add j)=some (.int k (xs.getD j 0)))->
  (loadCellsFrom a i m acc).run P w=.ok (acc++((xs.drop i).map (Value.int k)).toArray) w
 |0,i,acc,c,_=>by
  have:xs.drop i= []:=by simp;omega
  simp[loadCellsFrom,this]
 |m+1,i,acc,c,h=>by
  have b:i<xs.length:=by omega
  have d:=HM (P:=P) xs m (i+1) (acc.push (.int k (xs.getD i 0))) bu h;simp only[loadCellsFrom,Sem.run_bind,run_load,h i b,Result.andThen_ok,d];congr 1;rw[show(List.drop i xs).map (Value.int k)=Value.int k (xs.getD i 0)::(List.drop (i+1) xs).map (Value.int k) by
   have e:xs.getD i 0=xs[i]:=by simp[List.getD,b]
   rw[e,kZ b,kB]]
  apply Array.ext';simp only[Array.toList_append,Array.toList_push,dp,List.singleton_append]
def HN{P:cS}{k:K1}{t:bZ}{a:Addr}{w:bI}{f:bH->Prop}(h:Bt P k t a w f):
  ∃v,(∀w',Grow w w'->(loadVar t a).run P w'=.ok v w')/\f v:=by
 unfold Bt at h;cases k with
 |one c=>
  dsimp only at h;split at h
  ·rename_i e;obtain⟨x,hx,hf⟩:=h;exact⟨_,λw' g=>by simp[loadVar,uU e,g.cell hx],hf⟩
  ·exact h.elim
 |agg l=>
  dsimp only at h;split at h
  ·rename_i n b d;cases hn:n==l.length with
   |false=>simp[hn]at h
   |true=>
    rw[hn,hU]at h;simp at hn;subst hn;obtain⟨vs,h1,h2⟩:=HL (P:=P) l a 0 #[] w _ h;exact⟨_,λw' g=>by simp[loadVar,uU b,run_sizeOf d,loadCells,h1 w' g],h2⟩
  ·exact h.elim
 |arr n k=>
  dsimp only at h;split at h
  ·rename_i m b d;cases hn:m==n with
   |false=>simp[hn]at h
   |true=>
    rw[hn,hU]at h;simp at hn;subst hn;obtain⟨xs,h1,h2,i⟩:=h;subst h1;exact⟨_,λw' g=>by simp[loadVar,uU b,run_sizeOf d,loadCells,HM (P:=P) xs xs.length 0 #[] bu (λj o=>g.cell (h2 j o))],i⟩
  ·exact h.elim
def NN(p:cm)(f:Addr->Prop):Prop:=∃a,p=some a/\f a
@[simp] theorem aMw(a:Addr)(f:Addr->Prop):NN (some a) f↔f a:=by simp[NN]
@[simp] theorem aMv(f:Addr->Prop):NN none f↔False:=by simp[NN]
def rz(x:bH)(f:bH->Prop):Prop:=
 match x with
 |.pointer p=>NN p λa=>f (.pointer (some a))
 |.func (.func g) fi ca=>f (.func (.func g) fi ca)
 |_=>False
def rA(P:cS)(s:bZ)(i:Nat):bX Nat:=
 match P.underlying s with
 |some (.struct fs)=>match fs[i]? with
  |some fd=>match iF P fd.type with
   |some (_+1)=>some fd.offset
   |_=>none
  |none=>none
 |_=>none
def Bu(P:cS)(s:bZ)(x:bH)(i:Nat)(f:bH->Prop):Prop:=
 match x with
 |.pointer (some a)=>match rA P s i with
  |some o=>f (.pointer (some (a.add o)))
  |none=>False
 |_=>False
def pS(P:cS)(k:K1)(t:bZ)(x:bH)(w:bI)(f:bH->Prop):Prop:=
 match x with
 |.pointer (some a)=>Bt P k t a w f
 |_=>False
def Bv(c x y:bH)(f:bH->Prop):Prop:=
 match c,x,y with
 |.bool b,.bool p,.bool q=>f (.bool (bif b then p else q))
 |.bool true,x,_=>f x
 |.bool false,_,y=>f y
 |_,_,_=>False
def dy(k:IntKind)(m n:Int):Int:=k.wrap (BitVec.ofInt k.bits m &&& BitVec.ofInt k.bits n).toNat
def ji(k:IntKind)(m n:Int):Int:=k.wrap (BitVec.ofInt k.bits m ||| BitVec.ofInt k.bits n).toNat
def oW(k:IntKind)(m n:Int):Int:=k.wrap (BitVec.ofInt k.bits m ^^^ BitVec.ofInt k.bits n).toNat
def xJ(k:IntKind)(m n:Int):Int:=k.wrap (BitVec.ofInt k.bits m &&& ~~~ BitVec.ofInt k.bits n).toNat
def oX(k:IntKind)(n:Int):Int:=k.wrap (BitVec.ofInt k.bits (if k.signed then -1 else k.max) ^^^ BitVec.ofInt k.bits n).toNat
def rC(op:BinOp)(k:IntKind)(m:Int)(k':IntKind)(n:Int)(f:bH->Prop):Prop:=
 match op with
 |.shl=>0<=n/\f (.int k (k.wrap (m*2^(min n.toNat k.bits))))
 |.shr=>0<=n/\f (.int k (m.fdiv (2^(min n.toNat k.bits))))
 |op=>match decide (k=k')with
  |false=>False
  |true=>match op with
   |.add=>f (.int k (k.wrap (m+n)))
   |.sub=>f (.int k (k.wrap (m-n)))
   |.mul=>f (.int k (k.wrap (m*n)))
   |.quo=>n≠0/\f (.int k (k.wrap (m.tdiv n)))
   |.rem=>n≠0/\f (.int k (m.tmod n))
   |.and=>f (.int k (dy k m n))
   |.or=>f (.int k (ji k m n))
   |.xor=>f (.int k (oW k m n))
   |.andNot=>f (.int k (xJ k m n))
   |.eql=>f (.bool (m==n))
   |.neq=>f (.bool (m !=n))
   |.lss=>f (.bool (m<n))
   |.leq=>f (.bool (m<=n))
   |.gtr=>f (.bool (m>n))
   |.geq=>f (.bool (m≥n))
   |_=>False
def rD(op:BinOp)(s t:ByteArray)(f:bH->Prop):Prop:=
 match op with
 |.add=>s.size+t.size<=9223372036854775807/\f (.string (s++t))
 |.eql=>f (.bool (s.toList==t.toList))
 |.neq=>f (.bool (!(s.toList==t.toList)))
 |.lss=>f (.bool (Op.bytesLess s.toList t.toList))
 |_=>False
def xK(P:cS)(t:bZ):Bool:=match P.underlying t with|some .bool=>true|_=>false
def xL(P:cS)(t:bZ):Bool:=match P.underlying t with|some (.pointer _)=>true|_=>false
def uV(P:cS)(t:bZ):Bool:=match P.underlying t with|some (.slice _)=>true|_=>false
def xM(P:cS)(t:bZ):Bool:=match P.underlying t with|some (.map _ _)=>true|_=>false
def kE(P:cS)(op:BinOp)(t:bZ)(x y:bH)(b:Bool):Prop:=
 (∀a c w,(eqGuard op t a c x y).run P w=.ok () w)/\∀w,(binOp op t x y).run P w=.ok (.bool b) w
def xN(P:cS)(op:BinOp)(t:bZ)(x y:bH)(f:bH->Prop):Prop:=
 match op with
 |.eql=>∃b:Bool,kE P .eql t x y b/\f (.bool b)
 |.neq=>∃b:Bool,kE P .neq t x y b/\f (.bool b)
 |_=>False
def UB(P:cS)(op:BinOp)(t:bZ)(x y:bH)(f:bH->Prop):Prop:=
 match x,y with
 |.int k m,.int k' n=>rC op k m k' n f
 |.string s,.string u=>rD op s u f
 |.bool p,.bool q=>match xK P t,op with
  |true,.eql=>f (.bool (p==q))
  |true,.neq=>f (.bool (!(p==q)))
  |_,_=>False
 |.pointer p,.pointer none=>match xL P t,op with
  |true,.eql=>f (.bool p.isNone)
  |true,.neq=>f (.bool (!p.isNone))
  |_,_=>False
 |.slice p _ _,.slice none _ _=>match uV P t,op with
  |true,.eql=>f (.bool p.isNone)
  |true,.neq=>f (.bool (!p.isNone))
  |_,_=>False
 |.map r,.map none=>match xM P t,op with
  |true,.eql=>f (.bool r.isNone)
  |true,.neq=>f (.bool (!r.isNone))
  |_,_=>False
 |x,y=>xN P op t x y f
def uW(P:cS)(op:BinOp)(t:bZ)(x y:bH)(f:bH->Prop):Prop:=
 match y with
 |.nilFunc=>xN P op t x .nilFunc f
 |y=>UB P op t x y f
def Bw(op:UnOp)(x:bH)(f:bH->Prop):Prop:=
 match op,x with
 |.not,.bool b=>f (.bool !b)
 |.neg,.int k n=>f (.int k (k.wrap (0-n)))
 |.xor,.int k n=>f (.int k (oX k n))
 |_,_=>False
def aMy(P:cS)(d:bZ)(x:bH)(f:bH->Prop):Prop:=
 match P.underlying d,x with
 |some (.int k),.int _ n=>f (.int k (k.wrap n))
 |some .string,.string s=>f (.string s)
 |_,_=>False
def pT(P:cS)(t:bZ):Bool:=match P.underlying t with|some .string=>true|_=>false
def UC(s:ByteArray)(i:Int)(f:Int->Prop):Prop:=0<=i/\∃b:UInt8,s[i.toNat]?=some b/\f (b.toNat:Int)
def Bx(P:cS)(t:bZ)(x i:bH)(f:bH->Prop):Prop:=
 match x,i with
 |.string s,.int _ i=>match pT P t with
  |true=>UC s i λb=>f (.int .u8 b)
  |false=>False
 |_,_=>False
def mA(P:cS)(t:bZ):bX (Nat×Nat):=
 match P.underlying t with
 |some (.array n e)=>match iF P e with
  |some m=>some (n,m)
  |none=>none
 |_=>none
def oY(P:cS)(t:bZ):bX Nat:=
 match P.underlying t with
 |some (.slice e)=>iF P e
 |_=>none
def cF(p:cm)(n:Nat)(i:Int)(m:Nat)(f:Addr->Prop):Prop:=∃a,p=some a/\(0<=i/\i<n)/\f (a.add (i.toNat*m))
def Bz(P:cS)(t:bZ)(x i:bH)(f:bH->Prop):Prop:=
 match x,i with
 |.slice p n _,.int _ i=>match oY P t with
  |some m=>cF p n i m λa=>f (.pointer (some a))
  |none=>False
 |.pointer p,.int _ i=>match mA P t with
  |some (n,m)=>cF p n i m λa=>f (.pointer (some a))
  |none=>False
 |_,_=>False
def BA(P:cS)(t:bZ)(cs:cf bH)(off:Nat):bX bH:=
 match eB P t,iF P t with
 |some true,some n=>some (.agg (cs.extract off (off+n)))
 |some false,_=>cs[off]?
 |_,_=>none
def BB(P:cS)(t:bZ)(x:bH)(i:Nat)(f:bH->Prop):Prop:=
 match P.underlying t,x with
 |some (.struct fs),.agg cs=>match fs[i]? with
  |some fd=>match BA P fd.type cs fd.offset with
   |some v=>f v
   |none=>False
  |none=>False
 |_,_=>False
def BC(x:bH)(i:Nat)(f:bH->Prop):Prop:=
 match x with
 |.tuple vs=>match vs[i]? with
  |some v=>f v
  |none=>False
 |_=>False
def uX(n m:Nat)(b a d:bX bH)(f:Nat->Nat->Nat->Prop):Prop:=
 let low (h c:Nat):Prop:=match b with
  |none=>f 0 h c
  |some (.int _ l)=>(0<=l/\l<=h)/\f l.toNat h c
  |_=>False
 match a,d with
 |none,none=>low n m
 |some (.int _ h),none=>(0<=h/\h<=m)/\low h.toNat m
 |some (.int _ h),some (.int _ c)=>(0<=c/\c<=m)/\(0<=h/\h<=c.toNat)/\low h.toNat c.toNat
 |_,_=>False
def gA(a:cm)(l c m:Nat):cm:=if c=l then a else a.map (·.add (l*m))
def nC(a:Addr)(l c m:Nat):cm:=some (if c=l then a else a.add (l*m))
def BD(P:cS)(t:bZ)(x:bH)(d b e:bX bH)(f:bH->Prop):Prop:=
 match x with
 |.slice p n c=>match oY P t with
  |some m=>uX n c d b e λl h c=>f (.slice (gA p l c m) (h-l) (c-l))
  |none=>False
 |.string s=>match pT P t,e with
  |true,none=>uX s.size s.size d b none λl h _=>f (.string (s.extract l h))
  |_,_=>False
 |.pointer (some a)=>match mA P t with
  |some (n,m)=>uX n n d b e λl h c=>f (.slice (nC a l c m) (h-l) (c-l))
  |none=>False
 |_=>False
def min1(x y:Int):Int:=if y<x then y else x
def eR(x y:Int):Int:=if y>x then y else x
def HO(P:cS)(b:Builtin)(t:bZ)(args:bA bH)(f:bH->Prop):Prop:=
 match b,args with
 |.len,[.slice _ n _]=>match uV P t with|true=>f (.int .i64 n)|false=>False
 |.len,[.string s]=>match pT P t with|true=>f (.int .i64 s.size)|false=>False
 |.len,[.pointer _]=>match P.underlying t with
  |some (.pointer e)=>match mA P e with|some (n,_)=>f (.int .i64 n)|none=>False
  |_=>False
 |.len,[.agg _]=>match mA P t with
  |some (n,_)=>f (.int .i64 n)
  |none=>False
 |.min,[.int k x,.int _ y]=>f (.int k (min1 x y))
 |.max,[.int k x,.int _ y]=>f (.int k (eR x y))
 |_,_=>False
def BE(P:cS)(b:Builtin)(ts:cf bZ)(args:cf bH)(f:bH->Prop):Prop:=
 match ts[0]? with
 |some t=>HO P b t args.toList f
 |none=>False
def HP(P:cS)(t:bZ)(ps:cf (Nat×bH)):bX (cf bH):=
 match pR P t,P.underlying t with
 |some z,some (.struct fs)=>match fs.toList.mapM λf=>(iF P f.type).map λn=>(f.offset,n)with
  |some l=>Instr.fill (λi=>l[i]?) z.cells ps.toList
  |none=>none
 |some z,some (.array _ e)=>match iF P e with
  |some m=>Instr.fill (λi=>some (i*m,m)) z.cells ps.toList
  |none=>none
 |_,_=>none
def uY(P:cS)(t:bZ)(ps:cf (Nat×bH))(f:bH->Prop):Prop:=
 match HP P t ps with
 |some cs=>f (.agg cs)
 |none=>False
def HQ(P:cS)(t:bZ):bX Bool:=match P.underlying t with|some (.interface _)=>some true|some _=>some false|none=>none
def jF:Op->Bool
 |.load .. | .lookup .. | .convert .. =>true
 |_=>false
def gE(P:cS)(t:bZ)(m k:bH)(ok:Bool)(w:bI)(v:bH):Prop:=∀w',Grow w w'->(Instr.lookup t m k ok).run P w'=.ok v w'
def uZ(P:cS)(s d:bZ)(x:bH)(w:bI)(v:bH):Prop:=∀w',Grow w w'->(convert s d x).run P w'=.ok v w'
def BF(P:cS)(s d:bZ)(x:bH)(w:bI)(f:bH->Prop):Prop:=
 match P.underlying d,x with
 |some (.int k),.int _ n=>f (.int k (k.wrap n))
 |some .string,.string t=>f (.string t)
 |some .string,.slice p n c=>∃l:ByteArray,uZ P s d (.slice p n c) w (.string l)/\f (.string l)
 |_,_=>False
def vQ(P:cS)(τ:bZ->K1)(ρ:bZ->Kd)(o:Oper)(ev:Operand->bH)(w:bI)(f:bH->Prop):Prop:=
 match o.op with
 |.move x=>f (ev x)
 |.assign x=>f (ev x)
 |.pick c x y=>Bv (ev c) (ev x) (ev y) f
 |.nilCheck x=>rz (ev x) f
 |.fieldAddr s x i=>Bu P s (ev x) i f
 |.load t x=>pS P (τ t) t (ev x) w f
 |.binOp op t x y _=>uW P op t (ev x) (ev y) f
 |.unOp op _ x=>Bw op (ev x) f
 |.convert s d x=>BF P s d (ev x) w f
 |.index t x i=>Bx P t (ev x) (ev i) f
 |.indexAddr t x i=>Bz P t (ev x) (ev i) f
 |.field t x i=>BB P t (ev x) i f
 |.extract t i=>BC (ev t) i f
 |.slice t x e a g=>BD P t (ev x) (e.map ev) (a.map ev) (g.map ev) f
 |.build t ps=>uY P t (ps.map λ(i,x)=>(i,ev x)) f
 |.makeInterface t x=>match HQ P t with|some false=>f (.iface t (ev x))|_=>False
 |.lookup t m k ok=>(ρ o.type).ex λv=>gE P t (ev m) (ev k) ok w v/\f v
 |.makeFunc fn fi ca=>f (.func fn (fi.map ev) (ca.map ev))
 |.call {callee:=.builtin b,args,argTypes} =>BE P b argTypes (args.map ev) f
 |_=>False
inductive Tr where
 |nil
 |node (v:bH) (l r:Tr)
noncomputable def Tr.get(T:Tr):Nat->bH:=
 Tr.rec (λ_=>undef) (λv _ _ gl gr n=>bif Nat.beq n 0 then v else bif Nat.beq (n%2) 1 then gl (n/2)else gr (n/2-1)) T
noncomputable def Tr.jT(f:Nat):Tr->Nat->bH->Tr:=
 Nat.rec (λT _ _=>T) (λ_ a T n x=>
  Tr.rec (bif Nat.beq n 0 then .node x .nil .nil else bif Nat.beq (n%2) 1 then .node undef (a .nil (n/2) x) .nil else .node undef .nil (a .nil (n/2-1) x))
   (λv l r _ _=>bif Nat.beq n 0 then .node x l r else bif Nat.beq (n%2) 1 then .node v (a l (n/2) x) r else .node v l (a r (n/2-1) x)) T) f
noncomputable def Tr.put(T:Tr)(d:bX Nat)(v:bH):Tr:=match d with|some d=>Tr.jT 13 T d v|none=>T
def Tr.get_nil(n:Nat):Tr.get .nil n=undef:=rfl
def Tr.fE(v:bH)(l r:Tr)(n:Nat):Tr.get (.node v l r) n=bif Nat.beq n 0 then v else bif Nat.beq (n%2) 1 then l.get (n/2)else r.get (n/2-1):=rfl
def Tr.mB(f:Nat)(v:bH)(l r:Tr)(n:Nat)(x:bH):Tr.jT (f+1) (.node v l r) n x=
  bif Nat.beq n 0 then .node x l r else bif Nat.beq (n%2) 1 then .node v (Tr.jT f l (n/2) x) r else .node v l (Tr.jT f r (n/2-1) x):=rfl
def kl(a b:Nat):Nat.beq a b=(a==b):=by rw[Bool.eq_iff_iff];simp
def Tr.iN:∀(f:Nat) (T:Tr) (n m:Nat) (x:bH),n+1<2^f->(Tr.jT f T n x).get m=if m=n then x else T.get m
 |0,_,_,_,_,h=>by simp at h
 |f+1,T,n,m,x,h=>by
  have e:Tr.jT (f+1) T n x=match T with
   |.nil=>Tr.jT (f+1) (.node undef .nil .nil) n x
   |T=>Tr.jT (f+1) T n x:=by cases T<;>rfl
  have g:∀k,(Tr.nil).get k=(Tr.node undef .nil .nil).get k:=by
   intro k;rw[Tr.fE,Tr.get_nil];cases Nat.beq k 0<;>cases Nat.beq (k%2) 1<;>rfl
  have key:∀(v:bH) (l r:Tr),(Tr.jT (f+1) (.node v l r) n x).get m=if m=n then x else(Tr.node v l r).get m:=by
   intro v l r;rw[Tr.mB];have h2:2^(f+1)=2^f+2^f:=by rw[ry];omega
   by_cases hn:n=0
   ·subst hn;simp only[kl,uL,hU];rw[Tr.fE,Tr.fE];by_cases hm:m=0;·subst hm;simp[kl]
    ·have:(m==0)=false:=by simpa using hm
     simp only[kl,this,hF,bJ hm]
   ·have i:Nat.beq n 0=false:=by rw[kl];simpa using hn
    rw[i,hF];by_cases hp:n%2=1
    ·have d:Nat.beq (n%2) 1=true:=by rw[kl];simpa using hp
     rw[d,hU,Tr.fE,Tr.fE,Tr.iN f l (n/2) (m/2) x bu];by_cases hm:m=0;·subst hm;rw[bJ (by omega:¬ 0=n)];rfl
     ·have c:Nat.beq m 0=false:=by rw[kl];simpa using hm
      rw[c,hF,hF];by_cases b:m%2=1
      ·have a:Nat.beq (m%2) 1=true:=by rw[kl];simpa using b
       rw[a,hU,hU];by_cases e:m=n;·subst e;simp
       ·rw[bJ e,bJ (by omega:¬ m/2=n/2)]
      ·have a:Nat.beq (m%2) 1=false:=by rw[kl];simpa using b
       rw[a,hF,hF,bJ (λe:m=n=>b (by rw[e];exact hp))]
    ·have d:Nat.beq (n%2) 1=false:=by rw[kl];simpa using hp
     rw[d,hF,Tr.fE,Tr.fE,Tr.iN f r (n/2-1) (m/2-1) x bu];by_cases hm:m=0;·subst hm;rw[bJ (by omega:¬ 0=n)];rfl
     ·have c:Nat.beq m 0=false:=by rw[kl];simpa using hm
      rw[c,hF,hF];by_cases b:m%2=1
      ·have a:Nat.beq (m%2) 1=true:=by rw[kl];simpa using b
       rw[a,hU,hU,bJ (λe:m=n=>hp (by rw[<- e];exact b))]
      ·have a:Nat.beq (m%2) 1=false:=by rw[kl];simpa using b
       rw[a,hF,hF];by_cases e:m=n;·subst e;simp
       ·rw[bJ e,bJ (by omega:¬ m/2-1=n/2-1)]
  cases T with
  |nil=>rw[g m];exact key _ _ _
  |node v l r=>exact key v l r
def Tr.dT(T:Tr)(d m:Nat)(v:bH)(h:d<8000):(T.put (some d) v).get m=if m=d then v else T.get m:=
 Tr.iN 13 T d m v bu
noncomputable def Tr.ev(T:Tr):Operand->bH
 |.tmp t=>T.get t
 |.const v=>v
 |.global g=>.pointer (some ⟨g,0,none⟩)
 |.func f=>.func (.func f) #[] #[]
end Go.Vc
namespace Go.Vc
open Go
section
variable{P:cS}{w:bI}
def UD{c x y:bH}{f:bH->Prop}(h:Bv c x y f):∃v,(∀w,(do pure (Next.value (if <- asBool c then x else y)):Sem Next).run P w=.ok (.value v) w)/\f v:=by
 unfold Bv at h;split at h;·rename_i b p q;cases b<;>exact⟨_,λw=>by simp[asBool],h⟩
 ·exact⟨_,λw=>by simp[asBool],h⟩
 ·exact⟨_,λw=>by simp[asBool],h⟩
 ·exact h.elim
def UE{op:BinOp}{t:bZ}{k k':IntKind}{m n:Int}{f:bH->Prop}(h:rC op k m k' n f):
  ∃v,(∀w,(binOp op t (.int k m) (.int k' n)).run P w=.ok v w)/\f v:=by
 unfold rC at h;split at h
 ·obtain⟨a,h⟩:=h;refine⟨_,λw=>?_,h⟩;simp[binOp,Op.shift,show ¬ n<0 by omega]
 ·obtain⟨a,h⟩:=h;refine⟨_,λw=>?_,h⟩;simp[binOp,Op.shift,show ¬ n<0 by omega]
 ·split at h;·exact h.elim
  ·rename_i e;simp only[gD]at e;subst e;split at h<;>first
    |exact h.elim
    |(obtain⟨a,h⟩:=h;exact⟨_,λw=>by simp[binOp,Op.intDiv,a],h⟩)
    |exact⟨_,λw=>by simp[binOp,Op.intArith,Op.intBits,Op.intCmp,dy,ji,oW,xJ],h⟩
def UF{op:BinOp}{t:bZ}{s u:ByteArray}{f:bH->Prop}(h:rD op s u f):
  ∃v,(∀w,(binOp op t (.string s) (.string u)).run P w=.ok v w)/\f v:=by
 unfold rD at h;split at h
 ·obtain⟨a,h⟩:=h;refine⟨_,λw=>?_,h⟩;have:¬ ((s.size+u.size:Nat):Int)>i64.max:=by simp[IntKind.max,IntKind.bits,IntKind.signed];omega
  simp only[binOp,Op.stringOp,bJ this,Sem.run_pure]
 ·exact⟨_,λw=>by simp[binOp,Op.stringOp],h⟩
 ·exact⟨_,λw=>by simp[binOp,Op.stringOp],h⟩
 ·exact⟨_,λw=>by simp[binOp,Op.stringOp],h⟩
 ·exact h.elim
def BG(a b:bH):Prop:=match a,b with | .nilIface,.nilIface=>False | .agg _,.agg _=>False|_,_=>True
def sK{op:BinOp}{t:bZ}{x y:Operand}{a b:bH}(h:BG a b):
  (eqGuard op t x y a b).run P w=.ok () w:=by
 unfold eqGuard;cases op<;>cases a<;>cases b<;>first|exact h.elim|simp
def HR{t:bZ}(h:xK P t=true):P.underlying t=some .bool:=by
 unfold xK at h;split at h<;>simp_all
def BH{t:bZ}(h:pT P t=true):P.underlying t=some .string:=by
 unfold pT at h;split at h<;>simp_all
def HS{t:bZ}(h:xL P t=true):∃e,P.underlying t=some (.pointer e):=by
 unfold xL at h;split at h<;>simp_all
def BI{t:bZ}(h:uV P t=true):∃e,P.underlying t=some (.slice e):=by
 unfold uV at h;split at h<;>simp_all
def HT{t:bZ}(h:xM P t=true):∃e e',P.underlying t=some (.map e e'):=by
 unfold xM at h;split at h<;>simp_all
def sL{t:bZ}{x y:bH}{b:Bool}(h:(Op.equalIn 10000 t x y).run P w=.ok b w):(Op.equal t x y).run P w=.ok b w:=h
def run_equal_bool{t:bZ}{p q:Bool}(h:P.underlying t=some .bool):(Op.equal t (.bool p) (.bool q)).run P w=.ok (p==q) w:=by
 apply sL;rw[Op.equalIn];simp[ia h]
def HU{t e:bZ}{p:cm}(h:P.underlying t=some (.pointer e)):(Op.equal t (.pointer p) (.pointer none)).run P w=.ok p.isNone w:=by
 apply sL;rw[Op.equalIn];cases p<;>simp[ia h]
def HV{t e:bZ}{p:cm}{n c n' c':Nat}(h:P.underlying t=some (.slice e)):(Op.equal t (.slice p n c) (.slice none n' c')).run P w=.ok p.isNone w:=by
 apply sL;rw[Op.equalIn];cases p<;>simp[ia h]
def HW{t e e':bZ}{r:bX Nat}(h:P.underlying t=some (.map e e')):(Op.equal t (.map r) (.map none)).run P w=.ok r.isNone w:=by
 apply sL;rw[Op.equalIn];cases r<;>simp[ia h]
def xO{op:BinOp}{t:bZ}{x y:bH}{f:bH->Prop}(h:xN P op t x y f):
  (∀c d w,(eqGuard op t c d x y).run P w=.ok () w)/\∃v,(∀w,(binOp op t x y).run P w=.ok v w)/\f v:=by
 unfold xN at h;split at h;·obtain⟨b,⟨h1,h2⟩,a⟩:=h;exact⟨h1,_,h2,a⟩
 ·obtain⟨b,⟨h1,h2⟩,a⟩:=h;exact⟨h1,_,h2,a⟩
 ·exact h.elim
def UG{op:BinOp}{t:bZ}{x y:bH}{f:bH->Prop}(h:uW P op t x y f):
  (∀a b w,(eqGuard op t a b x y).run P w=.ok () w)/\∃v,(∀w,(binOp op t x y).run P w=.ok v w)/\f v:=by
 cases x<;>cases y<;>try (exact xO h)
 case bool.bool p q=>
  refine⟨λ_ _ _=>sK trivial,?_⟩
  replace h:(match(generalizing:=false) xK P t,op with|true,.eql=>f (.bool (p==q))|true,.neq=>f (.bool (!(p==q)))|_,_=>False):=h
  split at h;·rename_i e;exact⟨_,λw=>by simp[binOp,run_equal_bool (HR e)],h⟩
  ·rename_i e;exact⟨_,λw=>by simp[binOp,run_equal_bool (HR e)],h⟩
  ·exact h.elim
 case int.int k m k' n=>exact⟨λ_ _ _=>sK trivial,UE h⟩
 case string.string s u=>exact⟨λ_ _ _=>sK trivial,UF h⟩
 case pointer.pointer p q=>
  cases q with
  |some q=>exact xO h
  |none=>
   refine⟨λ_ _ _=>sK trivial,?_⟩
   replace h:(match(generalizing:=false) xL P t,op with|true,.eql=>f (.bool p.isNone)|true,.neq=>f (.bool (!p.isNone))|_,_=>False):=h
   split at h;·rename_i e;obtain⟨_,e⟩:=HS e;exact⟨_,λw=>by simp[binOp,HU e],h⟩
   ·rename_i e;obtain⟨_,e⟩:=HS e;exact⟨_,λw=>by simp[binOp,HU e],h⟩
   ·exact h.elim
 case slice.slice p n c q n' c'=>
  cases q with
  |some q=>exact xO h
  |none=>
   refine⟨λ_ _ _=>sK trivial,?_⟩
   replace h:(match(generalizing:=false) uV P t,op with|true,.eql=>f (.bool p.isNone)|true,.neq=>f (.bool (!p.isNone))|_,_=>False):=h
   split at h;·rename_i e;obtain⟨_,e⟩:=BI e;exact⟨_,λw=>by simp[binOp,HV e],h⟩
   ·rename_i e;obtain⟨_,e⟩:=BI e;exact⟨_,λw=>by simp[binOp,HV e],h⟩
   ·exact h.elim
 case map.map r q=>
  cases q with
  |some q=>exact xO h
  |none=>
   refine⟨λ_ _ _=>sK trivial,?_⟩
   replace h:(match(generalizing:=false) xM P t,op with|true,.eql=>f (.bool r.isNone)|true,.neq=>f (.bool (!r.isNone))|_,_=>False):=h
   split at h;·rename_i e;obtain⟨_,_,e⟩:=HT e;exact⟨_,λw=>by simp[binOp,HW e],h⟩
   ·rename_i e;obtain⟨_,_,e⟩:=HT e;exact⟨_,λw=>by simp[binOp,HW e],h⟩
   ·exact h.elim
def UH{op:UnOp}{x:bH}{f:bH->Prop}(h:Bw op x f):∃v,(∀w,(Op.unary op x).run P w=.ok v w)/\f v:=by
 unfold Bw at h;split at h;·exact⟨_,λw=>by simp[Op.unary],h⟩
 ·exact⟨_,λw=>by simp[Op.unary,Op.intArith],h⟩
 ·exact⟨_,λw=>by simp[Op.unary,Op.intBits,oX],h⟩
 ·exact h.elim
def UI{o:Oper}{ev:Operand->bH}{x:Operand}{f:bH->Prop}(ho:o.op=.nilCheck x)(h:rz (ev x) f):
  ∃v,(∀w,(execOp ev o).run P w=.ok (.value v) w)/\f v:=by
 unfold rz at h;split at h
 ·rename_i p e;obtain⟨q,rfl,h⟩:=h;exact⟨_,λw=>by simp[execOp,ho,e],h⟩
 ·rename_i g fi ca e;exact⟨_,λw=>by simp[execOp,ho,e],h⟩
 ·exact h.elim
def UJ{s:bZ}{i o:Nat}(h:rA P s i=some o):∃fs fd n,P.underlying s=some (.struct fs)/\fs[i]?=some fd/\iF P fd.type=some (n+1)/\fd.offset=o:=by
 unfold rA at h;split at h
 ·rename_i fs a;split at h
  ·rename_i fd b;split at h
   ·rename_i n c;exact⟨fs,fd,n,a,b,c,cV h⟩
   ·cases h
  ·cases h
 ·cases h
def UK{s:bZ}{x:bH}{i:Nat}{f:bH->Prop}(h:Bu P s x i f):∃v,(∀w,(Instr.fieldAt s x i).run P w=.ok v w)/\f v:=by
 unfold Bu at h;split at h
 ·rename_i a;split at h
  ·rename_i o e;obtain⟨fs,fd,n,b,c,d,rfl⟩:=UJ e;exact⟨_,λw=>by simp[Instr.fieldAt,ia b,c,Instr.sureAddr,fieldPlace,run_sizeOf d],h⟩
  ·exact h.elim
 ·exact h.elim
def UL{k:K1}{t:bZ}{x:bH}{f:bH->Prop}(h:pS P k t x w f):∃v,(∀w',Grow w w'->(Instr.loadAt t x).run P w'=.ok v w')/\f v:=by
 unfold pS at h;split at h
 ·obtain⟨v,h1,h2⟩:=HN h;exact⟨v,λw' g=>by simp[Instr.loadAt,Instr.sureAddr,h1 w' g],h2⟩
 ·exact h.elim
def UM{s d:bZ}{x:bH}{w:bI}{f:bH->Prop}(a:(P.underlying s).isSome=true)(h:BF P s d x w f):∃v,(∀w',Grow w w'->(convert s d x).run P w'=.ok v w')/\f v:=by
 obtain⟨b,a⟩:=jf.1 a;unfold BF at h;split at h
 ·rename_i k k' n e;exact⟨_,λw _=>by simp[convert,ia a,ia e,Conv.intToInt],h⟩
 ·rename_i s e;exact⟨_,λw _=>by simp[convert,ia a,ia e],h⟩
 ·obtain⟨l,h1,h2⟩:=h;exact⟨_,h1,h2⟩
 ·exact h.elim
def UN{t:bZ}{x i:bH}{f:bH->Prop}(h:Bx P t x i f):∃v,(∀w,(Instr.index t x i).run P w=.ok v w)/\f v:=by
 unfold Bx at h;split at h
 ·rename_i s k i;split at h
  ·rename_i e;obtain⟨a,b,hb,h⟩:=h;exact⟨_,λw=>by simp[Instr.index,asIntOf,ia (BH e),a,hb],h⟩
  ·exact h.elim
 ·exact h.elim
def HX{t:bZ}{m:Nat}(h:oY P t=some m):∃e,P.underlying t=some (.slice e)/\iF P e=some m:=by
 unfold oY at h;split at h;·rename_i e he;exact⟨e,he,h⟩
 ·cases h
def xP{t:bZ}{n m:Nat}(h:mA P t=some (n,m)):∃e,P.underlying t=some (.array n e)/\iF P e=some m:=by
 unfold mA at h;split at h
 ·rename_i n' e he;split at h
  ·rename_i a hm;injection h with h;injection h with h1 h2;subst h1;subst h2
   exact⟨e,he,hm⟩
  ·cases h
 ·cases h
def UO{t:bZ}{x i:bH}{f:bH->Prop}(h:Bz P t x i f):∃v,(∀w,(Instr.indexAt t x i).run P w=.ok v w)/\f v:=by
 unfold Bz at h;split at h
 ·rename_i p n c k i;split at h
  ·rename_i m e;obtain⟨e,b,d⟩:=HX e;obtain⟨a,rfl,hb,h⟩:=h;exact⟨_,λw=>by simp[Instr.indexAt,asIntOf,ia b,hb,run_sizeOf d],h⟩
  ·exact h.elim
 ·rename_i p k i;split at h
  ·rename_i n m e;obtain⟨e,b,d⟩:=xP e;obtain⟨a,rfl,hb,h⟩:=h;exact⟨_,λw=>by simp[Instr.indexAt,asIntOf,ia b,hb,run_sizeOf d,Instr.sureAddr],h⟩
  ·exact h.elim
 ·exact h.elim
def UP{t:bZ}{cs:cf bH}{off:Nat}{v:bH}(h:BA P t cs off=some v):(part t cs off).run P w=.ok v w:=by
 unfold BA at h;split at h
 ·rename_i n a b;injection h with h;subst h
  simp[part,uU a,run_sizeOf b]
 ·rename_i a;simp[part,uU a,h]
 ·cases h
def UQ{t:bZ}{x:bH}{i:Nat}{f:bH->Prop}(h:BB P t x i f):∃v,(∀w,(Instr.field t x i).run P w=.ok v w)/\f v:=by
 unfold BB at h;split at h
 ·rename_i fs cs e;split at h
  ·rename_i fd a;split at h
   ·rename_i v b;exact⟨v,λw=>by simp[Instr.field,ia e,a,asAgg,UP b],h⟩
   ·exact h.elim
  ·exact h.elim
 ·exact h.elim
def UR{x:bH}{i:Nat}{f:bH->Prop}(h:BC x i f):∃v,(∀w,(Instr.extract x i).run P w=.ok v w)/\f v:=by
 unfold BC at h;split at h
 ·split at h;·rename_i v e;exact⟨v,λw=>by simp[Instr.extract,e],h⟩
  ·exact h.elim
 ·exact h.elim
def BJ{s:Bool}{n m:Nat}{e d g:bX bH}{f:Nat->Nat->Nat->Prop}(h:uX n m e d g f):
  ∃l k c,(∀w,(Instr.sliceBounds s n m e d g).run P w=.ok (l,k,c) w)/\f l k c:=by
 have bound:∀(w:bI) (k:IntKind) (i:Int) (y:Nat) (code:BoundsCode),0<=i/\i<=y->(Instr.sliceBound (.int k i) y code).run P w=.ok i.toNat w:=by
  intro w k i y code hb;simp[Instr.sliceBound,asIntOf,hb]
 unfold uX at h;dsimp only at h;split at h
 ·split at h;·exact⟨_,_,_,λw=>by simp[Instr.sliceBounds],h⟩
  ·obtain⟨hb,h⟩:=h;exact⟨_,_,_,λw=>by simp[Instr.sliceBounds,bound _ _ _ _ _ hb],h⟩
  ·exact h.elim
 ·obtain⟨hb,h⟩:=h;split at h;·exact⟨_,_,_,λw=>by simp[Instr.sliceBounds,bound _ _ _ _ _ hb],h⟩
  ·obtain⟨a,h⟩:=h;exact⟨_,_,_,λw=>by simp[Instr.sliceBounds,bound _ _ _ _ _ hb,bound _ _ _ _ _ a],h⟩
  ·exact h.elim
 ·obtain⟨hb,b,h⟩:=h;split at h;·exact⟨_,_,_,λw=>by simp[Instr.sliceBounds,bound _ _ _ _ _ hb,bound _ _ _ _ _ b],h⟩
  ·obtain⟨a,h⟩:=h;exact⟨_,_,_,λw=>by simp[Instr.sliceBounds,bound _ _ _ _ _ hb,bound _ _ _ _ _ b,bound _ _ _ _ _ a],h⟩
  ·exact h.elim
 ·exact h.elim
def US{t:bZ}{x:bH}{i g j:bX bH}{f:bH->Prop}(h:BD P t x i g j f):
  ∃v,(∀w,(Instr.sliceAt t x i g j).run P w=.ok v w)/\f v:=by
 unfold BD at h;split at h
 ·rename_i p n c;split at h
  ·rename_i m e;obtain⟨e,b,d⟩:=HX e;obtain⟨l,k,c',hr,h⟩:=BJ (P:=P) (s:=true) h;exact⟨_,λw=>by simp only[Instr.sliceAt,Instr.slice,Sem.run_bind,ia b,Result.andThen_ok,hr,run_sizeOf d,Sem.run_pure,gA],h⟩
  ·exact h.elim
 ·rename_i s;split at h
  ·rename_i e;obtain⟨l,k,c',hr,h⟩:=BJ (P:=P) (s:=false) h;exact⟨_,λw=>by simp only[Instr.sliceAt,Instr.slice,Sem.run_bind,ia (BH e),Result.andThen_ok,hr,Sem.run_pure,Uo,lZ,gU],h⟩
  ·exact h.elim
 ·rename_i a;split at h
  ·rename_i n m e;obtain⟨e,b,d⟩:=xP e;obtain⟨l,k,c',hr,h⟩:=BJ (P:=P) (s:=false) h;exact⟨_,λw=>by simp only[Instr.sliceAt,Instr.sureAddr,Sem.run_bind,ia b,Result.andThen_ok,hr,run_sizeOf d,Sem.run_pure,nC],h⟩
  ·exact h.elim
 ·exact h.elim
def UT{b:Builtin}{ts:cf bZ}{t:bZ}{args:cf bH}{f:bH->Prop}(h:BE P b ts args f):
  ∃v,(∀cs w,(builtin b ts t cs args).run P w=.ok (.value v) w)/\f v:=by
 unfold BE at h;split at h
 ·rename_i t0 d;obtain⟨args⟩:=args;unfold HO at h;split at h
  ·split at h;·rename_i e;obtain⟨_,e⟩:=BI e;exact⟨_,by intro cs w;simp_all[builtin,Builtin.len_,ia e,goInt],h⟩
   ·exact h.elim
  ·split at h;·rename_i e;exact⟨_,by intro cs w;simp_all[builtin,Builtin.len_,ia (BH e),goInt],h⟩
   ·exact h.elim
  ·split at h
   ·rename_i c e;split at h;·rename_i n m a;obtain⟨_,a,_⟩:=xP a;exact⟨_,by intro cs w;simp_all[builtin,Builtin.len_,ia e,ia a,goInt],h⟩
    ·exact h.elim
   ·exact h.elim
  ·split at h;·rename_i e;obtain⟨_,e,_⟩:=xP e;exact⟨_,by intro cs w;simp_all[builtin,Builtin.len_,ia e,goInt],h⟩
   ·exact h.elim
  ·exact⟨_,by intro cs w;simp_all[builtin,Builtin.min_,Builtin.min2,min1],h⟩
  ·exact⟨_,by intro cs w;simp_all[builtin,Builtin.max_,Builtin.max2,eR],h⟩
  ·exact h.elim
 ·exact h.elim
def HY:∀(l:bA Field) (r:bA (Nat×Nat)),(l.mapM λf=>(iF P f.type).map λn=>(f.offset,n))=some r->
  (l.mapM λf=>(do pure (f.offset,<- sizeOf f.type):Sem (Nat×Nat))).run P w=.ok r w
 |[],r,h=>by simp at h;subst h;simp
 |f::l,r,h=>by
  rw[Hy]at h;cases a:iF P f.type with
  |none=>simp[a]at h
  |some n=>
   cases hl:l.mapM λf=>(iF P f.type).map λn=>(f.offset,n)with
   |none=>simp[a,hl]at h
   |some r'=>
    simp[a,hl]at h;subst h;have b:=HY l r' hl;simp only[Sem.run_bind,Sem.run_pure,Hy]at b ⊢;simp only[run_sizeOf a,Result.andThen_ok,b]
def UU{t:bZ}{ps:cf (Nat×bH)}{f:bH->Prop}(h:uY P t ps f):∃v,(∀w,(Instr.build t ps).run P w=.ok v w)/\f v:=by
 unfold uY at h;split at h
 ·rename_i cs e;refine⟨_,λw=>?_,h⟩;unfold HP at e;split at e
  ·rename_i z fs a hu;split at e
   ·rename_i l hl;have hm:=HY (w:=w) _ _ hl;simp only[Instr.build,Sem.run_bind,xI a,Result.andThen_ok,ia hu,Array.mapM_eq_mapM_toList,Sem.run_map,hm];simp[e]
   ·cases e
  ·rename_i z n el a hu;split at e
   ·rename_i m hm;simp[Instr.build,xI a,ia hu,run_sizeOf hm,e]
   ·cases e
  ·cases e
 ·exact h.elim
def u0{τ:bZ->K1}{ρ:bZ->Kd}{o:Oper}{ev:Operand->bH}{f:bH->Prop}(a:∀s d x,o.op=.convert s d x->(P.underlying s).isSome=true)(h:vQ P τ ρ o ev w f):
  ∃v,(∀w',(jF o.op=true->Grow w w')->(execOp ev o).run P w'=.ok (.value v) w')/\f v:=by
 unfold vQ at h;split at h;·rename_i x ho;exact⟨_,λw' _=>by simp[execOp,ho],h⟩
 ·rename_i x ho;exact⟨_,λw' _=>by simp[execOp,ho],h⟩
 ·rename_i c x y ho;obtain⟨v,h1,h2⟩:=UD (P:=P) h;exact⟨v,λw' _=>by simpa[execOp,ho]using h1 w',h2⟩
 ·rename_i x ho;obtain⟨v,h1,h2⟩:=UI (P:=P) ho h;exact⟨v,λw' _=>h1 w',h2⟩
 ·rename_i s x i ho;obtain⟨v,h1,h2⟩:=UK h;exact⟨v,λw' _=>by simp[execOp,ho,h1],h2⟩
 ·rename_i t x ho;obtain⟨v,h1,h2⟩:=UL h;exact⟨v,λw' g=>by simp[execOp,ho,h1 w' (g (by rw[ho];rfl))],h2⟩
 ·rename_i op t x y q ho;obtain⟨j,v,h1,h2⟩:=UG h;exact⟨v,λw' _=>by simp[execOp,ho,j,h1],h2⟩
 ·rename_i op t x ho;obtain⟨v,h1,h2⟩:=UH (P:=P) h;exact⟨v,λw' _=>by simp[execOp,ho,h1],h2⟩
 ·rename_i s d x ho;obtain⟨v,h1,h2⟩:=UM (a s d x ho) h;exact⟨v,λw' g=>by simp[execOp,ho,h1 w' (g (by rw[ho];rfl))],h2⟩
 ·rename_i t x i ho;obtain⟨v,h1,h2⟩:=UN h;exact⟨v,λw' _=>by simp[execOp,ho,h1],h2⟩
 ·rename_i t x i ho;obtain⟨v,h1,h2⟩:=UO h;exact⟨v,λw' _=>by simp[execOp,ho,h1],h2⟩
 ·rename_i t x i ho;obtain⟨v,h1,h2⟩:=UQ h;exact⟨v,λw' _=>by simp[execOp,ho,h1],h2⟩
 ·rename_i t i ho;obtain⟨v,h1,h2⟩:=UR (P:=P) h;exact⟨v,λw' _=>by simp[execOp,ho,h1],h2⟩
 ·rename_i t x n l p ho;obtain⟨v,h1,h2⟩:=US h;exact⟨v,λw' _=>by simp[execOp,ho,h1],h2⟩
 ·rename_i t ps ho;obtain⟨v,h1,h2⟩:=UU h;exact⟨v,λw' _=>by simp[execOp,ho,h1],h2⟩
 ·rename_i t x ho;split at h
  ·rename_i e;refine⟨_,λw' _=>?_,h⟩;unfold HQ at e;split at e;·cases e
   ·rename_i d hn hu;simp only[execOp,ho,Instr.makeInterface,Sem.run_bind,ia hu,Result.andThen_ok];cases d<;>first|rfl|exact(hn _ rfl).elim
   ·cases e
  ·exact h.elim
 ·rename_i t m k ok ho;obtain⟨v,h1,h2⟩:=Kd.e5 h;exact⟨v,λw' g=>by simp[execOp,ho,h1 w' (g (by rw[ho];rfl))],h2⟩
 ·rename_i fn fi ca ho;exact⟨_,λw' _=>by simp[execOp,ho,Instr.makeFunc],h⟩
 ·rename_i b args ts ho;obtain⟨v,h1,h2⟩:=UT (t:=o.type) h;exact⟨v,λw' _=>by simp[execOp,ho,resolve,invoke,h1],h2⟩
 ·exact h.elim
end
end Go.Vc
namespace Go.Vc
open Go
def e1(w:bI)(a:Addr):Prop:=(∃v,w.cell? a=some v)/\w.frozen? a=false
def sM:bA bH->Addr->Nat->bI->(bi9)->Prop
 |[],_,_,w,f=>f w
 |v::l,a,i,w,f=>e1 w (a.add i)/\sM l a (i+1) (w.setCell (a.add i) v) f
def sN(w:bI)(a:Addr)(i:Nat):bA bH->bI
 |[]=>w
 |v::l=>sN (w.setCell (a.add i) v) a (i+1) l
def u1(n:Nat)(k:IntKind)(v:bH)(a:Addr)(w:bI)(f:bi9):Prop:=
 ∃b:bS,v=.agg (b.map (Value.int k)).toArray/\b.length=n/\(∀i,i<n->e1 w (a.add i))/\f (sN w a 0 (b.map (Value.int k)))
def St(a:Addr)(v:bH)(f:bi9)(w:bI):Prop:=e1 w a/\f (w.setCell a v)
def k5(vs:bA bH)(a:Addr)(f:bi9)(w:bI):Prop:=sM vs a 0 w f
def sO(P:cS)(k:K1)(t:bZ)(x v:bH)(w:bI)(f:bi9):Prop:=
 match x with
 |.pointer (some a)=>match k with
  |.one _=>match iF P t with
   |some 1=>match v.oneCell' with
    |true=>St a v f w
    |false=>False
   |_=>False
  |.agg _=>match v with
   |.agg cs=>match iF P t with
    |some n=>bif n==cs.size&&cs.toList.all (·.oneCell')then k5 cs.toList a f w else False
    |none=>False
   |_=>False
  |.arr n k=>match iF P t with
   |some m=>bif m==n then u1 n k v a w f else False
   |none=>False
 |_=>False
def Al(o:Obj)(f:Addr->bi9)(w:bI):Prop:=f ⟨w.heap.size,0,none⟩ (w.alloc o)
def m0(f:Nat->bi9)(w:bI):Prop:=f w.heap.size (w.alloc (.map #[] 0))
def HZ(P:cS)(t:bZ)(n:Nat)(ps:bA (Nat×bH)):bX (bZ×cf bH):=
 match P.underlying t with
 |some (.slice e)=>match iF P e,pR P e with
  |some m,some z=>match decide (n*m<=2^24)&&(decide (0<n*m)||Nat.beq n 0),Instr.fill (λi=>some (i*m,m)) (((List.replicate n z.cells.toList).flatten).toArray) ps with
   |true,some cs=>bif m==z.cells.size then some (e,cs)else none
   |_,_=>none
  |_,_=>none
 |_=>none
def H0(P:cS)(t:bZ)(n:Nat)(ps:cf (Nat×bH))(f:bj0)(w:bI):Prop:=
 match HZ P t n ps.toList with
 |some (e,cs)=>Al (.cells cs e) (λq=>f (.slice (some q) n n)) w
 |none=>False
def UW(P:cS)(g:bj6)(args:cf bH)(k:Kd)(w:bI)(f:bj0):Prop:=
 Calls P g args w λe w'=>k.ex λv=>e=.returned v/\f v w'
def UX(P:cS)(g:bj6)(args:cf bH)(k:Kd)(w:bI)(f:bj0)(p:bA PanicEntry->bi9):Prop:=
 Calls P g args w λe w'=>(k.ex λv=>e=.returned v/\f v w')\/∃a,e=.panicked a/\p a w'
def BK(P:cS)(cD:bj6->Bool)(g:bH)(args:cf bH)(k:Kd)(w:bI)(f:bj0)(p:bA PanicEntry->bi9):Prop:=
 match g with
 |.func (.func g) fi ca=>match P.funcs[g]? with
  |some fn=>match fn.body.isSome&& !(fn.name== "runtime.NumGoroutine")with
   |true=>bif cD g then UX P g (fi++args++ca) k w f p else UW P g (fi++args++ca) k w f
   |false=>False
  |none=>False
 |_=>False
def k6(P:cS)(g:bj6):Bool:=match P.funcs[g]? with
 |some fn=>fn.body.isSome&& !(fn.name== "runtime.NumGoroutine")
 |none=>false
def fe(P:cS)(g:bH)(args:cf bH)(w:bI)(R:Ending->bi9):Prop:=
 ∃(h:bj6) (ca:cf bH),g=.func (.func h) #[] ca/\k6 P h=true/\Calls P h (args++ca) w R
def H2(P:cS)(g:bH)(args:cf bH)(k:Kd)(w:bI)(f:bj0):Prop:=
 fe P g args w λe w'=>k.ex λv=>e=.returned v/\f v w'
def ef(P:cS)(s:Sem bH)(k:Kd)(w:bI)(f:bj0):Prop:=k.ex λv=>∃w',s.run P w=.ok v w'/\f v w'
def UY(P:cS)(it:bH)(str:Bool)(t:bZ)(w:bI)(f:bj0):Prop:=
 (∃w',(Instr.next it str t).run P w=.ok (.tuple #[.bool false]) w'/\f (.tuple #[.bool false]) w')\/
 (match str with
  |true=>∃k c:Int,∃w',(Instr.next it true t).run P w=.ok (.tuple #[.bool true,.int .i64 k,.int .i32 c]) w'/\f (.tuple #[.bool true,.int .i64 k,.int .i32 c]) w'
  |false=>∃k v:bH,∃w',(Instr.next it false t).run P w=.ok (.tuple #[.bool true,k,v]) w'/\f (.tuple #[.bool true,k,v]) w')
def oZ(P:cS)(s:Sem Unit)(w:bI)(f:bi9):Prop:=∃w',s.run P w=.ok () w'/\f w'
structure dU where
 quiet:Nat->Bool:=λ_=>false
 dyn:Nat->Bool:=λ_=>false
 BL:Nat->bA K1:=λ_=>[.one .raw,.one .raw]
 calm:Nat->Bool:=λ_=>false
 sig:Nat->bX (bA (bA Nat)×bA Nat):=λ_=>none
 fork:Nat->Bool:=λ_=>false
 head:Nat->Nat:=λ_=>0
 loop:Nat->bA (Nat×C1):=λ_=>[]
 goto:Nat->bX (bA (Nat×C1)):=λ_=>none
 brk:bX Nat:=none
 join:Nat->bX (bA (Nat×C1)):=λ_=>none
def u2(A:dU)(o:Oper):Bool:=match o.dst with|some d=>A.dyn d|none=>false
def UZ:Op->Bool
 |.move _ | .assign _ | .pick .. | .nilCheck _ | .fieldAddr .. | .load .. | .unOp .. | .indexAddr .. | .field .. | .extract .. | .slice .. | .makeFunc .. | .build .. | .makeInterface .. | .lookup .. =>true
 |_=>false
def vE(P:cS)(τ:bZ->K1)(ρ:bZ->Kd)(cD:bj6->Bool)(A:dU)(o:Oper)(ev:Operand->bH)(w:bI)(f:bj0)(p:bA PanicEntry->bi9):Prop:=
 match o.op with
 |.store t x v=>sO P (τ t) t (ev x) (ev v) w (f undef)
 |.box t x=>Al (.cells (ev x).cells t) (λq=>f (.pointer (some q))) w
 |.alloc t=>match pR P t with
  |some z=>Al (.cells z.cells t) (λq=>f (.pointer (some q))) w
  |none=>False
 |.call {callee:=.value g,args,.. } =>bif u2 A o then H2 P (ev g) (args.map ev) (ρ o.type) w f else BK P cD (ev g) (args.map ev) (ρ o.type) w f p
 |.call {callee:=.builtin .append,args,argTypes} =>ef P (Builtin.append_ argTypes o.type (args.map ev)) (ρ o.type) w f
 |.call {callee:=.builtin .copy,args,argTypes} =>ef P (Builtin.copy_ argTypes o.type (args.map ev)) (ρ o.type) w f
 |.call {callee:=.builtin .delete,args,argTypes} =>ef P (Builtin.delete_ argTypes o.type (args.map ev)) (ρ o.type) w f
 |.call {callee:=.builtin .clear,args,argTypes} =>ef P (Builtin.clear_ argTypes o.type (args.map ev)) (ρ o.type) w f
 |.call {callee:=.builtin .len,args,argTypes} =>ef P (Builtin.len_ argTypes o.type (args.map ev)) (ρ o.type) w f
 |.call {callee:=.builtin .cap,args,argTypes} =>ef P (Builtin.cap_ argTypes o.type (args.map ev)) (ρ o.type) w f
 |.buildSlice t n ps=>H0 P t n (ps.map λ(i,x)=>(i,ev x)) f w
 |.makeSlice t l c=>ef P (Instr.makeSlice t (ev l) (ev c)) (ρ o.type) w f
 |.makeMap _ none=>m0 (λq=>f (.map (some q))) w
 |.mapUpdate t m k x=>oZ P (Instr.mapUpdate t (ev m) (ev k) (ev x)) w (f undef)
 |.insert t m k x=>oZ P (Instr.mapUpdate t (ev m) (ev k) (ev x)) w (f undef)
 |.mapEntry t m k=>ef P (Instr.mapEntry t (ev m) (ev k)) (ρ o.type) w f
 |.entryStore t m s x=>oZ P (Instr.entryStore t (ev m) (ev s) (ev x)) w (f undef)
 |.range t x=>ef P (Instr.range t (ev x)) (.k (.one .ptr)) w f
 |.next it s=>UY P (ev it) s o.type w f
 |.entry it=>match o.dst with
  |some d=>xH (A.BL d) #[] λvs=>∃w',(Instr.entry (ev it)).run P w=.ok (.tuple vs) w'/\f (.tuple vs) w'
  |none=>False
 |.convert s d x=>ef P (convert s d (ev x)) (ρ o.type) w f
 |.index t x i=>ef P (Instr.index t (ev x) (ev i)) (ρ o.type) w f
 |.binOp op t x y _=>ef P (do eqGuard op t x y (ev x) (ev y);binOp op t (ev x) (ev y)) (ρ o.type) w f
 |.typeAssert x t u ok=>ef P (Instr.typeAssert (ev x) t u ok) (ρ o.type) w f
 |.panic x=>match ev x with
  |.iface t v=>p [{v:=.iface t v,recovered:=false}] w
  |_=>False
 |_=>False
def H3(A:dU)(o:Oper):Bool:=UZ o.op||(match o.dst with|some d=>A.quiet d|none=>false)
def nD(P:cS)(τ:bZ->K1)(ρ:bZ->Kd)(cD:bj6->Bool)(A:dU)(o:Oper)(T:Tr)(w:bI)(next:Tr->bi9)(Q:Exit->Tr->bi9):Prop:=
 bif H3 A o then vQ P τ ρ o T.ev w (λv=>next (T.put o.dst v) w)
 else vE P τ ρ cD A o T.ev w (λv w'=>next (T.put o.dst v) w') (λa w'=>Q (.panic a) T w')
def kF(ops:cf Oper)(o:Oper)(T:Tr)(yes no:Tr->Prop):Prop:=
 match o.guard with
 |none=>yes T
 |some (j,want)=>match(ops[j]?).bind (·.dst)with
  |none=>False
  |some d=>match T.get d with
   |.bool b=>bif b then(bif want then yes (T.put (some d) (.bool true))else no (T.put (some d) (.bool true)))
     else(bif want then no (T.put (some d) (.bool false))else yes (T.put (some d) (.bool false)))
   |.tuple _=>no T
   |_=>False
def lx(P:cS)(τ:bZ->K1)(ρ:bZ->Kd)(cD:bj6->Bool)(A:dU)(ops:cf Oper)(Q:Exit->Tr->bi9):bA Oper->Tr->bi9
 |[],T,w=>Q .normal T w
 |o::rest,T,w=>kF ops o T (λT=>nD P τ ρ cD A o T w (lx P τ ρ cD A ops Q rest) Q) (λT=>lx P τ ρ cD A ops Q rest (T.put o.dst undef) w)
def u3(P:cS)(τ:bZ->K1)(ρ:bZ->Kd)(ops:cf Oper)(w:bI)(Q:Tr->Prop):bA Oper->Tr->Prop
 |[],T=>Q T
 |o::rest,T=>kF ops o T (λT=>vQ P τ ρ o T.ev w (λv=>u3 P τ ρ ops w Q rest (T.put o.dst v))) (λT=>u3 P τ ρ ops w Q rest (T.put o.dst undef))
def U0(P:cS)(g:bj6)(args:cf bH)(k:Kd)(w:bI)(f:bH->Prop):Prop:=
 k.ex λv=>(∀a,Grow w a->Calls P g args a λe w2=>e=.returned v/\Grow a w2)/\f v
def H4(P:cS)(g:bH)(args:cf bH)(k:Kd)(w:bI)(f:bH->Prop):Prop:=
 match g with
 |.func (.func g) fi ca=>match k6 P g with
  |true=>U0 P g (fi++args++ca) k w f
  |false=>False
 |_=>False
def BM(P:cS)(τ:bZ->K1)(ρ:bZ->Kd)(o:Oper)(ev:Operand->bH)(w:bI)(f:bH->Prop):Prop:=
 match o.op with
 |.call {callee:=.value g,args,.. } =>H4 P (ev g) (args.map ev) (ρ o.type) w f
 |_=>vQ P τ ρ o ev w f
def o0(P:cS)(τ:bZ->K1)(ρ:bZ->Kd)(ops:cf Oper)(w:bI)(Q:Tr->Prop):bA Oper->Tr->Prop
 |[],T=>Q T
 |o::rest,T=>kF ops o T (λT=>BM P τ ρ o T.ev w (λv=>o0 P τ ρ ops w Q rest (T.put o.dst v))) (λT=>o0 P τ ρ ops w Q rest (T.put o.dst undef))
def H5(ops:cf Oper)(j:Nat)(sub:Nat->Nat):Nat:=match ops[j]? with
 |none=>0
 |some o=>o.after.toList.foldl (λs e=>bif Region.binds .any e then s ||| 2^e.on ||| sub e.on else s) 0
def m1(ops:cf Oper):Nat->Nat->Nat
 |0,_=>0
 |f+1,j=>H5 ops j (m1 ops f)
def rE(P:cS)(τ:bZ->K1)(ρ:bZ->Kd)(ops:cf Oper)(T:Tr)(w:bI)(next:Prop):bA Nat->Prop
 |[]=>next
 |j::l=>match ops[j]? with
  |none=>False
  |some o=>kF ops o T (λT=>vQ P τ ρ o T.ev w λv=>v=(match o.dst with|some d=>T.get d|none=>v)/\rE P τ ρ ops T w next l) (λT=>rE P τ ρ ops T w next l)
def rF(Q:Exit->Tr->bi9):Exit->Tr->bi9
 |.panic a,_,w=>∀T:Tr,Q (.panic a) T w
 |_,_,_=>False
def sP:bA (bA Nat)->bA Nat->bA Nat
 |[],_=>[]
 |[]::C,s=>sP C s
 |(a::_)::C,s=>bif s.contains a then sP C s else a::sP C (a::s)
def kG(h:Nat):bA (bA Nat)->bA (bA Nat)
 |[]=>[]
 |[]::C=>kG h C
 |(a::r)::C=>bif Nat.beq a h then r::kG h C else kG h C
def rG(f:Nat->Prop):bA Nat->Prop
 |[]=>True
 |[i]=>f i
 |i::j::l=>f i/\rG f (j::l)
def gK(P:cS)(τ:bZ->K1)(ρ:bZ->Kd)(cD:bj6->Bool)(A:dU)(ops:cf Oper)(cv:bA Nat)(Q:Exit->Tr->bi9):Nat->bA (bA Nat)->bA Nat->Tr->bi9
 |0,_,_,T,w=>Q .normal T w
 |n+1,C,done,T,w=>rG (λi=>match ops[i]? with
  |none=>False
  |some o=>bif cv.contains i
    then kF ops o T (λT=>nD P τ ρ cD A o T w (λT' w'=>rE P τ ρ ops T' w' (gK P τ ρ cD A ops cv Q n (kG i C) done T' w') (done.filter λj=> !(m1 ops ops.size i).testBit j)) (rF Q))
     (λT=>gK P τ ρ cD A ops cv Q n (kG i C) done (T.put o.dst undef) w)
    else kF ops o T (λT=>vQ P τ ρ o T.ev w λv=>gK P τ ρ cD A ops cv Q n (kG i C) (bif jF o.op then i::done else done) (T.put o.dst v) w)
     (λT=>gK P τ ρ cD A ops cv Q n (kG i C) done (T.put o.dst undef) w)) (sP C [])
def Dr(f:bi9)(w:bI):Prop:=f w.drew
def BN(f:bi9)(w:bI):Prop:=∀w',Grow w w'->f w'
def u4(f:Nat->Prop):bA Nat->Prop
 |[]=>True
 |i::l=>f i/\u4 f l
def g5(P:cS)(τ:bZ->K1)(ρ:bZ->Kd)(cD:bj6->Bool)(A:dU)(ops:cf Oper)(Q:Exit->Tr->bi9):Nat->cf Bool->Tr->bi9
 |0,listed,T,w=>match Region.ready .any ops listed with
  |[]=>Q .normal T w
  |_=>False
 |fuel+1,listed,T,w=>match Region.ready .any ops listed with
  |[]=>Q .normal T w
  |i::l=>u4 (λi=>match ops[i]? with
   |none=>False
   |some o=>kF ops o T (λT=>nD P τ ρ cD A o T w (g5 P τ ρ cD A ops Q fuel (listed.setIfInBounds i true)) Q) (λT=>g5 P τ ρ cD A ops Q fuel (listed.setIfInBounds i true) (T.put o.dst undef) w)) (i::l)
def u5(P:cS)(τ:bZ->K1)(ρ:bZ->Kd)(cD:bj6->Bool)(A:dU)(id:Nat)(ops:cf Oper)(draw:Bool)(Q:Exit->Tr->bi9)(T:Tr)(w:bI):Prop:=
 match draw with
 |false=>lx P τ ρ cD A ops Q ops.toList T w
 |true=>match A.sig id with
  |some (C,cv)=>Dr (λw'=>gK P τ ρ cD A ops cv Q ops.size C [] T w') w
  |none=>bif A.fork id then Dr (λw'=>g5 P τ ρ cD A ops Q ops.size (Array.replicate ops.size false) T w') w
  else bif A.calm id then o0 P τ ρ ops w (λT'=>BN (λw'=>Q .normal T' w') w) ops.toList T
  else Dr (λw'=>u3 P τ ρ ops w' (λT'=>lx P τ ρ cD A ops Q (ops.toList.drop (A.head id)) T' w') (ops.toList.take (A.head id)) T) w
def eS(l:bA Oper):bA Nat:=l.filterMap (·.dst)
def wr:Code->bA Nat
 |.region _ ops _=>eS ops.toList
 |.seq x y=>wr x++wr y
 |.cond _ x y=>wr x++wr y
 |.block _ c=>wr c
 |.loop c=>wr c
 |.scope c=>wr c
 |.rangeFunc _ ps x y=>ps.toList++wr x++wr y
 |_=>[]
def mC:Code->bX Nat
 |.region id _ _=>some id
 |.seq x y=>(mC x).or (mC y)
 |.cond _ x y=>(mC x).or (mC y)
 |.block _ c=>mC c
 |.loop c=>mC c
 |.scope c=>mC c
 |_=>none
def hX:bA (Nat×C1)->Type
 |[]=>bi9
 |(_,c)::l=>c.ty->hX l
def iv:bA (Nat×C1)->Type
 |[]=>bI->Nat
 |(_,c)::l=>c.ty->iv l
def nE:(l:bA (Nat×C1))->hX l->Tr->bi9
 |[],a,_,w=>a w
 |(s,c)::l,a,T,w=>match c.un (T.get s)with
  |some x=>nE l (a x) T w
  |none=>False
def sQ:(l:bA (Nat×C1))->hX l->iv l->Nat->Tr->bi9
 |[],a,b,m,_,w=>a w/\b w<m
 |(s,c)::l,a,b,m,T,w=>match c.un (T.get s)with
  |some x=>sQ l (a x) (b x) m T w
  |none=>False
def nF:(l:bA (Nat×C1))->hX l->iv l->Tr->(Tr->(bi9)->(bI->Nat)->Prop)->Prop
 |[],a,b,T,K=>K T a b
 |(s,c)::l,a,b,T,K=>∀x:c.ty,nF l (a x) (b x) (T.put (some s) (c.mk x)) K
def m2(W:bA Nat)(l:bA (Nat×C1)):bA Nat:=W.filter λs=> !(l.map (·.1)).contains s
noncomputable def m3(u:Nat->bH):bA Nat->Tr->Tr
 |[],T=>T
 |s::l,T=>m3 u l (T.put (some s) (u s))
def xQ(l:bA (Nat×C1))(W:bA Nat)(body:(Tr->bi9)->Tr->bi9)(T:Tr)(w:bI):Prop:=
 ∃(a:hX l) (d:iv l),nE l a T w/\∀u:Nat->bH,nF l a d (m3 u (m2 W l) T) λT' b c=>∀w',b w'->body (sQ l a d (c w')) T' w'
def xR:(l:bA (Nat×C1))->iv l
 |[]=> λ_=>0
 |(_,_)::l=> λ_=>xR l
def U1(l:bA (Nat×C1))(W:bA Nat)(first:(Tr->bi9)->Tr->bi9)(rest:Tr->bi9)(T:Tr)(w:bI):Prop:=
 ∃J:hX l,first (nE l J) T w/\∀u:Nat->bH,nF l J (xR l) (m3 u (m2 W l) T) λT' a _=>∀w',a w'->rest T' w'
def u6(A:dU)(y:Code):bX (bA (Nat×C1)):=match mC y with
 |some r=>A.join r
 |none=>none
def m4(next:Tr->bi9)(Q:Exit->Tr->bi9):Exit->Tr->bi9
 |.normal,T,w=>next T w
 |e,T,w=>Q e T w
def U2(id:Nat)(Q:Exit->Tr->bi9):Exit->Tr->bi9
 |.exit a,T,w=>bif Nat.beq a id then Q .normal T w else Q (.exit a) T w
 |e,T,w=>Q e T w
def BO(Q:Exit->Tr->bi9):Exit->Tr->bi9
 |.goto _,_,_=>False
 |e,T,w=>Q e T w
def H6(l:Nat)(J:Tr->bi9)(Q:Exit->Tr->bi9):Exit->Tr->bi9
 |.goto l',T,w=>bif Nat.beq l' l then J T w else False
 |e,T,w=>Q e T w
def xS:Code->bX Nat
 |.label l=>some l
 |.seq x y=>(xS x).or (xS y)
 |_=>none
def H7(l:bA (Nat×C1))(W:bA Nat)(first pass:(Tr->bi9)->Tr->bi9)(T:Tr)(w:bI):Prop:=
 ∃(a:hX l) (d:iv l),first (nE l a) T w/\∀u:Nat->bH,nF l a d (m3 u (m2 W l) T) λT' b c=>∀w',b w'->pass (sQ l a d (c w')) T' w'
def vc(P:cS)(τ:bZ->K1)(ρ:bZ->Kd)(cD:bj6->Bool)(A:dU):Nat->Code->(Exit->Tr->bi9)->Tr->bi9
 |0,_,_,_,_=>False
 |n+1,c,Q,T,w=>match c with
  |.skip=>Q .normal T w
  |.label _=>Q .normal T w
  |.exit id=>Q (.exit id) T w
  |.goto l=>Q (.goto l) T w
  |.ret=>Q .ret T w
  |.region id ops draw=>u5 P τ ρ cD A id ops draw Q T w
  |.seq x y=>match u6 A y with
   |none=>vc P τ ρ cD A n x (m4 (vc P τ ρ cD A n y Q) Q) T w
   |some ks=>U1 ks (wr x) (λJ=>vc P τ ρ cD A n x (m4 J Q)) (vc P τ ρ cD A n y Q) T w
  |.cond c x y=>match T.ev c with
   |.bool t=>bif t then vc P τ ρ cD A n x Q T w else vc P τ ρ cD A n y Q T w
   |_=>False
  |.block id c=>vc P τ ρ cD A n c (U2 id Q) T w
  |.scope c=>match xS c with
   |none=>vc P τ ρ cD A n c (BO Q) T w
   |some l=>match A.goto l with
    |none=>vc P τ ρ cD A n c (BO Q) T w
    |some ks=>match findLabel c l with
     |some rest=>H7 ks (wr c) (λJ=>vc P τ ρ cD A n c (H6 l J Q)) (λJ=>vc P τ ρ cD A n rest (H6 l J Q)) T w
     |none=>False
  |.loop c=>xQ (A.loop ((mC c).getD 0)) (wr c) (λnext=>vc P τ ρ cD A n c (m4 next Q)) T w
  |_=>False
section
variable{P:cS}
def U3{w:bI}{a b:Addr}{v:bH}(h:e1 w a):e1 (w.setCell b v) a:=by
 obtain⟨⟨x,hx⟩,hf⟩:=h;constructor
 ·unfold World.cell? at hx ⊢;unfold World.setCell;simp only[G8];cases d:w.heap[a.block]? with
  |none=>simp[d]at hx
  |some o=>
   simp only[d]at hx;by_cases e:b.block=a.block
   ·simp only[e,g4,fC];cases o with
    |cells c t fr=>
     simp only at hx ⊢;split at hx;·cases hx
     ·rename_i g;simp only[g,gU,lZ];have f:a.off<c.size:=by
       rcases hE a.off c.size with h|h;·exact h
       ·simp[xp h]at hx
      split;·exact⟨x,hx⟩
      ·exact⟨_,oQ (by simpa using f)⟩
    |_=>simp at hx
   ·simp only[e,gU];cases o with
    |cells c t fr=>exact⟨x,hx⟩
    |_=>simp at hx
 ·unfold World.frozen? at hf ⊢;unfold World.setCell;simp only[G8];cases d:w.heap[a.block]? with
  |none=>simp
  |some o=>
   simp only[d]at hf;by_cases e:b.block=a.block
   ·simp only[e,g4,fC];cases o<;>simp_all
   ·simp only[e,gU];cases o<;>simp_all
def BP{w:bI}{a:Addr}{v:bH}(b:v.oneCell'=true)(h:e1 w a):(store a v).run P w=.ok () (w.setCell a v):=by
 obtain⟨⟨x,hx⟩,hf⟩:=h;rw[run_store P w a v .plain b];simp[hx,hf]
def H8:∀(l:bA bH) (a:Addr) (i:Nat) (w:bI) (f:bi9),l.all (·.oneCell')=true->sM l a i w f->
  ∃w',(storeCells a l i).run P w=.ok () w'/\f w'
 |[],_,_,w,_,_,h=>⟨w,rfl,h⟩
 |v::l,a,i,w,f,hl,⟨h1,h2⟩=>by
  simp only[Bl,dF]at hl;obtain⟨w',b,c⟩:=H8 l a (i+1) _ f hl.2 h2;exact⟨w',by simp[storeCells,BP hl.1 h1,b],c⟩
def H9:∀(l:bA bH) (a:Addr) (i:Nat) (w:bI),l.all (·.oneCell')=true->(∀j,i<=j->j<i+l.length->e1 w (a.add j))->
  (storeCells a l i).run P w=.ok () (sN w a i l)
 |[],_,_,_,_,_=>rfl
 |v::l,a,i,w,hl,h=>by
  simp only[Bl,dF]at hl;have h1:=h i (ec _) (by simp);have h2:=H9 l a (i+1) (w.setCell (a.add i) v) hl.2 (λj b c=>U3 (h j bu (by simp;omega)));simp[storeCells,BP hl.1 h1,h2,sN]
def U4{k:K1}{t:bZ}{x v:bH}{w:bI}{f:bi9}(h:sO P k t x v w f):
  ∃w',(Instr.storeAt t x v).run P w=.ok () w'/\f w':=by
 unfold sO at h;split at h
 ·rename_i a;split at h
  ·split at h
   ·rename_i e;split at h
    ·rename_i c;obtain⟨h1,h2⟩:=h;have d:v.cells= #[v]:=by cases v<;>first|rfl|simp[Value.oneCell']at c
     exact⟨_,by simp[Instr.storeAt,Instr.sureAddr,storeVar,d,run_sizeOf e,storeCells,Addr.add,BP c h1],h2⟩
    ·exact h.elim
   ·exact h.elim
  ·split at h
   ·rename_i cs;split at h
    ·rename_i n e;cases hb:(n==cs.size&&cs.toList.all (·.oneCell'))with
     |false=>rw[hb,hF]at h;exact h.elim
     |true=>
      rw[hb,hU]at h;simp only[dF,oV]at hb;obtain⟨w',h1,h2⟩:=H8 (P:=P) _ _ _ _ _ hb.2 h;refine⟨w',?_,h2⟩;have:¬ (Value.agg cs).cells.size≠n:=by simp[Value.cells,hb.1]
      simp only[Instr.storeAt,Instr.sureAddr,storeVar,Sem.run_bind,Sem.run_pure,Result.andThen_ok,run_sizeOf e];simp[Value.cells,hb.1,h1]
    ·exact h.elim
   ·exact h.elim
  ·split at h
   ·rename_i n k _ m e;cases hb:(m==n)with
    |false=>rw[hb,hF]at h;exact h.elim
    |true=>
     rw[hb,hU]at h;simp only[oV]at hb;subst hb;obtain⟨i,rfl,hl,b,hf⟩:=h;have:=H9 (P:=P) (i.map (Value.int k)) a 0 w (by simp[Value.oneCell']) (λj _ g=>b j (by simp at g;omega));refine⟨_,?_,hf⟩;simp[Instr.storeAt,Instr.sureAddr,storeVar,Value.cells,run_sizeOf e,hl,this]
   ·exact h.elim
 ·exact h.elim
def U5{cD:bj6->Bool}{o:Oper}{a:Act}{w:bI}{g:Operand}{args:cf Operand}{ts:cf bZ}{k:Kd}{f:bj0}{p:bA PanicEntry->bi9}{next:Act->bi9}{Q:Exit->Act->bi9}(ho:o.op=.call {callee:=.value g,args,argTypes:=ts})(h:BK P cD (a.eval g) (args.map a.eval) k w f p)(hf:∀v w',f v w'->next (a.put o.dst v) w')(hp:∀d w',p d w'->Q (.panic d) a w'):o.wp P a w next Q:=by
 unfold BK at h;split at h
 ·rename_i i fi ca q;split at h
  ·rename_i fn n;split at h
   ·rename_i hb;simp only[dF,ir,xv]at hb;obtain⟨l,m⟩:=hb;have hr:(execOp a.eval o).run P w=.ok (.enter i (fi++args.map a.eval++ca)) w:=by
     have c:¬ fn.body=none:=by intro hx;simp[hx]at l
     simp[execOp,ho,resolve,q,Deferred.ofValue,invoke,callFunc,n,m,c]
    unfold Oper.wp;rw[hr];show Calls P i (fi++args.map a.eval++ca) w _;cases b:cD i with
    |false=>
     rw[b,hF]at h;refine Calls.mono h λe w' he=>?_;obtain⟨v,rfl,j⟩:=Kd.e5 he;exact hf _ _ j
    |true=>
     rw[b,hU]at h;refine Calls.mono h λe w' he=>?_;rcases he with he|⟨d,rfl,he⟩
     ·obtain⟨v,rfl,j⟩:=Kd.e5 he;exact hf _ _ j
     ·exact hp _ _ he
   ·exact h.elim
  ·exact h.elim
 ·exact h.elim
def U6{o:Oper}{a:Act}{w:bI}{g:Operand}{args:cf Operand}{ts:cf bZ}{k:Kd}{f:bj0}{next:Act->bi9}{Q:Exit->Act->bi9}(ho:o.op=.call {callee:=.value g,args,argTypes:=ts})(h:H2 P (a.eval g) (args.map a.eval) k w f)(hf:∀v w',f v w'->next (a.put o.dst v) w'):o.wp P a w next Q:=by
 obtain⟨c,ca,l,hb,h⟩:=h;unfold k6 at hb;split at hb
 ·rename_i fn j;simp only[dF,ir,xv]at hb;obtain⟨d,i⟩:=hb;have hr:(execOp a.eval o).run P w=.ok (.enter c (args.map a.eval++ca)) w:=by
   have b:¬ fn.body=none:=by intro hx;simp[hx]at d
   simp[execOp,ho,resolve,l,Deferred.ofValue,invoke,callFunc,j,i,b]
  unfold Oper.wp;rw[hr];show Calls P c (args.map a.eval++ca) w _;refine Calls.mono h λe w' he=>?_;obtain⟨v,rfl,m⟩:=Kd.e5 he;exact hf _ _ m
 ·cases hb
def Ia{s:Sem bH}{k:Kd}{w:bI}{f:bj0}(h:ef P s k w f):∃v w',s.run P w=.ok v w'/\f v w':=by
 obtain⟨v,w',h⟩:=Kd.e5 h;exact⟨v,w',h⟩
def nG(z:bA bH)(n j:Nat)(h:j<n*z.length):((List.replicate n z).flatten)[j]?=z[j%z.length]? :=by
 induction n generalizing j with
 |zero=>simp at h
 |succ n c=>
  rw[oS,uI];by_cases b:j<z.length;·rw[eQ b,mZ b]
  ·have a:z.length<=j:=Us b;rw[fL a,c (j-z.length) (by rw[xF]at h;omega)];rw[<- Nat.mod_eq_sub_mod a]
def U7(z:cf bH)(n m:Nat)(hm:m=z.size)(d:0<n*m):(Array.range (n*m)).map (λi=>z[i%z.size]!)=((List.replicate n z.toList).flatten).toArray:=by
 subst hm;have c:0<z.size:=by
  rcases k3 z.size with h|h;·simp[h]at d
  ·exact h
 apply Array.ext_getElem?;intro j;by_cases a:j<n*z.size
 ·have:=nG z.toList n j (by simpa using a);simp only[List.getElem?_toArray,this];have b:j%z.size<z.size:=k4 _ c;simp[a,b]
 ·have h1:((List.replicate n z.toList).flatten).length<=j:=by simp;omega
  simp only[List.getElem?_toArray,gI h1];simp;omega
def U8{τ:bZ->K1}{ρ:bZ->Kd}{cD:bj6->Bool}{A:dU}{o:Oper}{a:Act}{w:bI}{f:bj0}{p:bA PanicEntry->bi9}{next:Act->bi9}{Q:Exit->Act->bi9}(h:vE P τ ρ cD A o a.eval w f p)(hf:∀v w',f v w'->next (a.put o.dst v) w')(hp:∀C w',p C w'->Q (.panic C) a w'):
  o.wp P a w next Q:=by
 have val:∀ {s:Sem bH} {k:Kd},ef P s k w f->execOp a.eval o=(do pure (.value (<- s)))->o.wp P a w next Q:=by
  intro s k h e;obtain⟨v,w',h1,h2⟩:=Ia h;unfold Oper.wp;rw[e];simp only[Sem.run_bind,h1,Result.andThen_ok,Sem.run_pure,Oper.upon_value];exact hf _ _ h2
 have i:∀ {b:Builtin} {args:cf Operand} {ts:cf bZ} {k:Kd} {s:Sem bH},ef P s k w f->o.op=.call {callee:=.builtin b,args,argTypes:=ts} ->
   (∀cs,builtin b ts o.type cs (args.map a.eval)=(do pure (.value (<- s))))->o.wp P a w next Q:=by
  intro b args ts k s h ho e;obtain⟨v,w',h1,h2⟩:=Ia h;unfold Oper.wp;have:(execOp a.eval o).run P w=.ok (.value v) w':=by
   simp[execOp,ho,resolve,invoke,e,h1]
  rw[this];exact hf _ _ h2
 have l:∀ {s:Sem Unit},oZ P s w (f undef)->execOp a.eval o=(do s;pure .skip)->o.wp P a w next Q:=by
  intro s h e;obtain⟨w',h1,h2⟩:=h;unfold Oper.wp;rw[e];simp only[Sem.run_bind,h1,Result.andThen_ok,Sem.run_pure,Oper.upon_skip];exact hf _ _ h2
 unfold vE at h;split at h
 ·rename_i t x v ho;obtain⟨w',h1,h2⟩:=U4 h;refine l (s:=Instr.storeAt t (a.eval x) (a.eval v)) ⟨w',h1,h2⟩ (by simp[execOp,ho])
 ·rename_i t x ho;unfold Oper.wp;have:(execOp a.eval o).run P w=.ok (.value (.pointer (some ⟨w.heap.size,0,none⟩))) (w.alloc (.cells (a.eval x).cells t)):=by
   simp[execOp,ho,Instr.box,newVar,newRow]
  rw[this];exact hf _ _ h
 ·rename_i t ho;split at h
  ·rename_i z B;unfold Oper.wp;have:(execOp a.eval o).run P w=.ok (.value (.pointer (some ⟨w.heap.size,0,none⟩))) (w.alloc (.cells z.cells t)):=by
    simp[execOp,ho,Instr.alloc,newVar,newRow,xI B]
   rw[this];exact hf _ _ h
  ·exact h.elim
 ·rename_i g args ts ho;cases q:u2 A o with
  |true=>rw[q,hU]at h;exact U6 ho h hf
  |false=>rw[q,hF]at h;exact U5 ho h hf hp
 ·rename_i args ts ho;exact i h ho (λcs=>by simp[builtin])
 ·rename_i args ts ho;exact i h ho (λcs=>by simp[builtin])
 ·rename_i args ts ho;exact i h ho (λcs=>by simp[builtin])
 ·rename_i args ts ho;exact i h ho (λcs=>by simp[builtin])
 ·rename_i args ts ho;exact i h ho (λcs=>by simp[builtin])
 ·rename_i args ts ho;exact i h ho (λcs=>by simp[builtin])
 ·rename_i t n ps ho;unfold H0 at h;split at h
  ·rename_i e cs d;unfold HZ at d;split at d
   ·rename_i e' hu;split at d
    ·rename_i m z hm B;split at d
     ·rename_i D q j;cases hb:(m==z.cells.size)with
      |false=>rw[hb,hF]at d;cases d
      |true=>
       rw[hb,hU]at d;injection d with d;injection d with h1 h2;subst h1;subst h2
       simp only[oV]at hb;simp only[dF,jS,gD]at q;unfold Oper.wp;have hr:(execOp a.eval o).run P w=.ok (.value (.slice (some ⟨w.heap.size,0,none⟩) n n)) (w.alloc (.cells D e')):=by
        have hle:¬ n*m>2^24:=by omega
        simp only[execOp,ho,Instr.buildSlice,Sem.run_bind,ia hu,Result.andThen_ok,run_sizeOf hm,bJ hle,Sem.run_pure];rcases q.2 with y|r
        ·have u:=U7 z.cells n m hb y;simp only[bJ (Nat.ne_of_gt y),Sem.run_bind,xI B,Result.andThen_ok,Sem.run_pure,u,j];simp[newRow]
        ·have r:n=0:=kz r;subst r;have E:Array.range 0= #[]:=rfl;simp only[Hc,Bf,Array.toList_map]at j;simp[newRow,E,j]
       rw[hr];exact hf _ _ h
     ·cases d
    ·cases d
   ·cases d
  ·exact h.elim
 ·rename_i ho;exact val h (by simp[execOp,ho])
 ·rename_i ho;unfold Oper.wp;have hr:(execOp a.eval o).run P w=.ok (.value (.map (some w.heap.size))) (w.alloc (.map #[] 0)):=by simp[execOp,ho,Instr.makeMap]
  rw[hr];exact hf _ _ h
 ·rename_i ho;exact l h (by simp[execOp,ho])
 ·rename_i ho;exact l h (by simp[execOp,ho])
 ·rename_i ho;exact val h (by simp[execOp,ho])
 ·rename_i ho;exact l h (by simp[execOp,ho])
 ·rename_i ho;exact val h (by simp[execOp,ho])
 ·rename_i it s ho;have hx:∃v w',(Instr.next (a.eval it) s o.type).run P w=.ok v w'/\f v w':=by
   rcases h with⟨w',h1,h2⟩|h;·exact⟨_,w',h1,h2⟩
   ·cases s with
    |true=>obtain⟨k,c,w',h1,h2⟩:=h;exact⟨_,w',h1,h2⟩
    |false=>obtain⟨k,v,w',h1,h2⟩:=h;exact⟨_,w',h1,h2⟩
  obtain⟨v,w',h1,h2⟩:=hx;unfold Oper.wp;have hr:(execOp a.eval o).run P w=.ok (.value v) w':=by simp[execOp,ho,h1]
  rw[hr];exact hf _ _ h2
 ·rename_i it ho;split at h
  ·obtain⟨vs,w',h1,h2⟩:=Br _ _ _ h;unfold Oper.wp;have hr:(execOp a.eval o).run P w=.ok (.value (.tuple vs)) w':=by simp[execOp,ho,h1]
   rw[hr];exact hf _ _ h2
  ·exact h.elim
 ·rename_i ho;exact val h (by simp[execOp,ho])
 ·rename_i ho;exact val h (by simp[execOp,ho])
 ·rename_i ho;exact val h (by simp[execOp,ho])
 ·rename_i ho;exact val h (by simp[execOp,ho])
 ·rename_i x ho;split at h
  ·rename_i t v hx;unfold Oper.wp;have:(execOp a.eval o).run P w=.halt (.panic (.iface t v)) w:=by simp[execOp,ho,hx,Instr.panic]
   rw[this];exact hp _ _ h
  ·exact h.elim
 ·exact h.elim
end
end Go.Vc
namespace Go.Vc
open Go
section
variable{P:cS}{τ:bZ->K1}{ρ:bZ->Kd}{cD:bj6->Bool}{A:dU}
structure Rel(N:Nat)(T:Tr)(a:Act):Prop where
 defers:a.defers= []
 size:a.tmps.size=N
 get:∀t,a.tmps.getD t undef=T.get t
def Rel.ev{N:Nat}{T:Tr}{a:Act}(h:Rel N T a):a.eval=T.ev:=by
 funext x;cases x with
 |tmp t=>exact h.get t
 |const v=>rfl
 |global g=>rfl
 |func f=>rfl
def Rel.at{N:Nat}{T:Tr}{a:Act}(h:Rel N T a){d:Nat}(c:d<N):a.tmps[d]?=some (T.get d):=by
 have b:d<a.tmps.size:=by rw[h.size];exact c
 rw[oQ b,<- h.get d];simp[Array.getD,b]
def Rel.put{N:Nat}{T:Tr}{a:Act}(h:Rel N T a)(g:N<=8000){d:bX Nat}(c:∀t,d=some t->t<N)(v:bH):Rel N (T.put d v) (a.put d v):=by
 cases d with
 |none=>exact h
 |some d=>
  have b:=c d rfl;refine⟨h.defers,by simp[Act.put,h.size],λt=>?_⟩;rw[Tr.dT T d t v bu,<- h.get t];have f:d<a.tmps.size:=by rw[h.size];exact b
  simp only[Act.put,je,oP];by_cases e:d=t;·subst e;simp[f]
  ·rw[bJ e,bJ (λe'=>e e'.symm)]
def Rel.same{N:Nat}{T T':Tr}{a:Act}(h:Rel N T a)(b:∀t,T'.get t=T.get t):Rel N T' a:=⟨h.defers,h.size,λt=>(h.get t).trans (b t).symm⟩
def Fr(W:bA Nat)(T T':Tr):Prop:=∀t,t∉W->T'.get t=T.get t
def Fr.refl(W:bA Nat)(T:Tr):Fr W T T:=λ_ _=>rfl
def Fr.trans{W:bA Nat}{a b c:Tr}(h:Fr W a b)(h':Fr W b c):Fr W a c:=λt d=>(h' t d).trans (h t d)
def Fr.mono{W c:bA Nat}{a b:Tr}(h:Fr W a b)(d:∀t,t∈W->t∈c):Fr c a b:=λt e=>h t (λh'=>e (d t h'))
def Fr.put(W:bA Nat)(T:Tr)(d:bX Nat)(v:bH)(h:∀t,d=some t->t∈W/\t<8000):Fr W T (T.put d v):=by
 cases d with
 |none=>exact .refl _ _
 |some d=>
  intro t a;rw[Tr.dT T d t v (h d rfl).2,bJ (λe=>a (by rw[e];exact(h d rfl).1))]
def hi(P:cS)(N:Nat)(l:bA Oper):Bool:=l.all λo=>(match o.op with
 |.convert s _ _=>(P.underlying s).isSome
 |_=>true)&&(match o.dst with|some d=>Nat.blt d N|none=>true)
def pU(l:bA (Nat×C1)):Prop:=∀x∈l,x.1<8000
def okW(c:Code):Bool:=(wr c).all λt=>Nat.blt t 8000
def u7{c:Code}(h:okW c=true):∀t∈wr c,t<8000:=λt a=>by simpa using fM.1 h t a
def nH(l:bA (Nat×C1)):Bool:=l.all λx=>Nat.blt x.1 8000
def xT{l:bA (Nat×C1)}(h:nH l=true):pU l:=λx hx=>by simpa using fM.1 h x hx
def o1{N:Nat}{l:bA Oper}(h:hi P N l=true){o:Oper}(ho:o∈l):∀s d x,o.op=.convert s d x->(P.underlying s).isSome=true:=by
 intro s d x e;have:=fM.1 h o ho;simp only[dF,e]at this;exact this.1
def mD{N:Nat}{l:bA Oper}(h:hi P N l=true){o:Oper}(ho:o∈l):∀t,o.dst=some t->t<N:=by
 intro t e;have:=fM.1 h o ho;simp only[dF,e]at this;simpa using this.2
def xU{N:Nat}{o:Oper}{l:bA Oper}(h:hi P N (o::l)=true):hi P N l=true:=by
 unfold hi at h ⊢;rw[Bl,dF]at h;exact h.2
def U9(want:Bool):bH->Bool
 |.bool b=>b==want
 |_=>false
def Va{ops:cf Oper}{o:Oper}{a:Act}{j d:Nat}{want:Bool}{v:bH}(e:o.guard=some (j,want))(c:(ops[j]?).bind (·.dst)=some d)(hb:a.tmps[d]?=some v):
  Region.wanted o (yielded ops a.tmps)=U9 want v:=by
 unfold Region.wanted yielded;simp only[e,c,Hq,hb];cases v
 case bool b=>cases b<;>cases want<;>rfl
 all_goals rfl
def pV{N:Nat}{ops:cf Oper}{o:Oper}{T:Tr}{a:Act}{yes no:Tr->Prop}{B:Prop}(p:N<=8000)(l:hi P N ops.toList=true)(hr:Rel N T a)(h:kF ops o T yes no)(m:∀T',(∀t,T'.get t=T.get t)->yes T'->Region.wanted o (yielded ops a.tmps)=true->B)(hn:∀T',(∀t,T'.get t=T.get t)->no T'->Region.wanted o (yielded ops a.tmps)=false->B):B:=by
 unfold kF at h;split at h
 ·rename_i i;exact m T (λ_=>rfl) h (by simp[Region.wanted,i])
 ·rename_i j want i;split at h;·exact h.elim
  ·rename_i d g;have f:d<N:=by
    cases k:ops[j]? with
    |none=>simp[k]at g
    |some oj=>
     have hm:oj∈ops.toList:=by rw[pH];exact lp k
     exact mD l hm d (by simpa[k]using g)
   have n:=hr.at f;have hw:=Va i g n;split at h
   ·rename_i b hb;rw[hb]at hw;have c:∀t,(T.put (some d) (.bool b)).get t=T.get t:=by
     intro t;rw[Tr.dT T d t _ (lr f p)];split;·rename_i e;subst e;exact hb.symm
     ·rfl
    cases b with
    |true=>
     rw[hU]at h;cases want with
     |true=>exact m _ c h hw
     |false=>exact hn _ c h hw
    |false=>
     rw[hF]at h;cases want with
     |true=>exact hn _ c h hw
     |false=>exact m _ c h hw
   ·rename_i vs hb;rw[hb]at hw;exact hn T (λ_=>rfl) h hw
   ·exact h.elim
def xV{N:Nat}{o:Oper}{T:Tr}{a:Act}{w:bI}{next:Tr->bi9}{next':Act->bi9}{Q:Exit->Tr->bi9}{Q':Exit->Act->bi9}(hr:Rel N T a)(e:∀s d x,o.op=.convert s d x->(P.underlying s).isSome=true)(h:nD P τ ρ cD A o T w next Q)(hn:∀v w',next (T.put o.dst v) w'->next' (a.put o.dst v) w')(hp:∀b w',Q (.panic b) T w'->Q' (.panic b) a w'):o.wp P a w next' Q':=by
 unfold nD at h;cases c:H3 A o with
 |true=>
  rw[c,hU]at h;rw[<- hr.ev]at h;obtain⟨v,h1,h2⟩:=u0 e h;unfold Oper.wp;rw[h1 w (λ_=>.refl w)];exact hn _ _ h2
 |false=>
  rw[c,hF]at h;rw[<- hr.ev]at h;exact U8 h (λv w' f=>hn v w' f) hp
end
end Go.Vc
