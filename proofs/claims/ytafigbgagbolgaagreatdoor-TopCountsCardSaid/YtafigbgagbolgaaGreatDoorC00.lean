/- Part of a proof about the core: of its walks and plain laws. -/
import Derived.Tactics
import Derived.Still
import Derived.Laws.World
import Derived.KernelRfl
import Derived.Scope
import Derived.ScopeJumps
import Derived.StillTail
import Derived.Deep.LoopGhost
import Derived.Deep.Quiet
set_option linter.all false
open Go.IntKind(i64 u64)
open Go in abbrev bh6:=World->Prop
open Go in abbrev bh7:=Value->World->Prop
open Go in abbrev cg:=Option Addr
universe u
def bJ:=@if_neg
def dD:=@List.getElem?_eq_getElem
def bM:=@if_pos
def cT:=@List.getElem?_eq_some_iff
def dK:=@List.getD_eq_getElem?_getD
def cQ:=@Option.some.inj
def da:=@List.length_append
def dc:=@List.append_assoc
def c4:=@decide_eq_false
def dk:=@Int.toNat_natCast
def eE:=@List.getElem?_append_left
def dh:=@decide_eq_true
def dG:=@Bool.and_eq_true
def dA:=@List.length_set
def eu:=@List.mem_of_getElem?
def fo:=@List.getElem?_append_right
def eb:=@List.length_map
def ew:=@List.getElem?_map
def eF:=@Option.some.injEq
def fA:=@List.take_append_drop
def fH:=@List.getElem?_eq_none
def fj:=@List.mem_cons_self
def fI:=@List.mem_cons_of_mem
def dN:=@Nat.le_refl
def ey:=@List.mem_cons
def ec:=@Nat.zero_le
def fB:=@List.all_eq_true
def fN:=@List.take_length
def iC:=@Array.getD_eq_getD_getElem?
def gj:=@decide_eq_true_eq
def e4:=@List.mem_map
def e5:=@Nat.zero_add
def hE:=@List.take_of_length_le
def fO:=@List.mem_filter
def g5:=@List.pairwise_cons
def e7:=@Int.le_refl
def fW:=@List.mem_range
def g6:=@List.ext_getElem?
def ik:=@List.set_append_right
def h4:=@List.getElem?_set_ne
def h5:=@List.mem_iff_getElem
def g7:=@List.length_take
def iM:=@List.getElem?_set_self
def fC:=@Nat.mul_one
def je:=@Nat.eq_of_beq_eq_true
def hR:=@Bool.not_eq_true'
def kH:=@List.perm_append_comm_assoc
def eO:=@congrArg
def jJ:=@List.drop_of_length_le
def jf:=@List.pairwise_append
def hS:=@List.length_cons
def kq:=@Option.isSome_iff_exists
def iD:=@List.mem_singleton
def hF:=@List.append_nil
def gS:=@Nat.lt_or_ge
def ln:=@List.drop_eq_getElem_cons
def il:=@List.perm_middle
def h6:=@List.mem_append
def ku:=@Array.mem_of_getElem?
def jo:=@of_decide_eq_false
def jg:=@List.getElem?_set
def lo:=@List.getElem?_cons_zero
def hq:=@List.map_set
def kv:=@Nat.mul_le_mul_right
def kI:=@List.contains_iff_mem
def kJ:=@List.length_replicate
def lN:=@List.getElem?_replicate
def jK:=@List.pairwise_map
def jL:=@of_decide_eq_true
def lp:=@List.length_filter_le
def hG:=@Nat.sub_self
def jq:=@List.filter_cons
def jh:=@Option.map_some
def m5:=@List.pairwise_iff_getElem
def g8:=@cond_false
def jr:=@Bool.or_eq_true
def lO:=@List.perm_append_comm
def lP:=@List.length_singleton
def nT:=@List.nodup_iff_pairwise_ne
def oG:=@Array.getElem?_setIfInBounds
def kK:=@Bool.false_eq_true
def gq:=@if_false
def mu:=@List.Perm.append_left
def lq:=@Nat.eq_zero_or_pos
def fP:=@if_true
def m6:=@Nat.div_div_eq_div_mul
def jV:=@List.map_append
def mw:=@List.mem_append_left
def mx:=@List.mem_of_mem_take
def oH:=@Array.getElem?_eq_getElem
def hr:=@cond_true
def q5:=@Nat.and_two_pow_sub_one_eq_mod
def my:=@List.getElem?_range
def pv:=@Array.getElem?_eq_some_iff
def mz:=@Nat.lt_of_lt_of_le
def nU:=@List.mem_append_right
def lQ:=@Nat.mod_eq_of_lt
def mA:=@List.take_add_one
def sE:=@List.take_append_of_le_length
def nV:=@List.replicate_succ
def lR:=@List.nil_append
def mB:=@Option.getD_some
def pw:=@List.mem_iff_getElem?
def jW:=@Nat.add_mul
def lr:=@Bool.true_and
def m7:=@List.getElem_mem
def nX:=@List.flatMap_cons
def uG:=@List.eq_nil_of_length_eq_zero
def px:=@Array.mem_toList_iff
def lu:=@Nat.add_zero
def nY:=@List.length_drop
def oI:=@List.take_sublist
def sF:=@Nat.add_sub_cancel_left
def mC:=@List.map_cons
def kx:=@Nat.mod_lt
def py:=@List.getElem?_drop
def q6:=@BitVec.ofInt_natCast
def pz:=@List.getElem?_take
def oJ:=@List.cons_append
def sG:=@List.Perm.append_right
def pA:=@List.filter_congr
def m8:=@Bool.toNat_le
def mD:=@Nat.le_trans
def n0:=@List.drop_drop
def q7:=@List.find?_eq_none
def q8:=@BitVec.toNat_ofNat
def uH:=@decide_eq_false_iff_not
def sH:=@List.set_append_left
def pC:=@decide_eq_decide
def m9:=@Nat.pow_succ
def sI:=@Nat.testBit_two_pow
def pD:=@List.nodup_cons
def xu:=@List.mem_of_find?_eq_some
def pE:=@Nat.min_eq_left
def pF:=@Int.natCast_add
def n1:=@Nat.zero_mul
def ra:=@List.not_mem_nil
def sJ:=@List.filter_append
def na:=@Nat.mul_add
def uI:=@Bool.or_eq_false_iff
def uJ:=@Nat.pow_le_pow_right
def uK:=@Nat.eq_of_testBit_eq
def uL:=@List.mem_of_mem_drop
def rb:=@List.length_nil
def uM:=@beq_eq_false_iff_ne
def uN:=@Array.length_toList
def xv:=@Array.getElem?_eq_none
def pG:=@Bool.or_false
def sK:=@List.any_eq_true
def sL:=@Nat.and_le_right
def AV:=@Classical.byContradiction
def GH:=@Int.mul_le_mul_of_nonneg_right
def uO:=@List.flatten_cons
def uP:=@Bool.eq_false_iff
def TN:=@Array.getElem?_setIfInBounds_self_of_lt
def AW:=@List.length_eq_zero_iff
def uQ:=@beq_self_eq_true
def sM:=@List.drop_zero
def sN:=@Bool.and_false
def uR:=@BitVec.toNat_and
def xw:=@List.mem_filterMap
def rf:=@Nat.add_comm
def rh:=@List.map_map
def GI:=@Nat.two_pow_add_eq_or_of_lt
def xx:=@List.set_cons_zero
def lS:=@Iff.rfl
def uS:=@Int.natCast_mul
def pH:=@beq_iff_eq
def GJ:=@List.getElem?_eq_none_iff
def sO:=@Nat.mul_comm
def GK:=@List.Pairwise.imp_of_mem
def xy:=@List.drop_length
def sP:=@Bool.or_true
def AX:=@List.filter_eq_self
def AY:=@List.mergeSort_perm
def TO:=@Array.getElem?_setIfInBounds_ne
def GL:=@List.pairwise_singleton
def uT:=@Nat.lt_irrefl
def uU:=@Bool.false_or
def uV:=@Nat.add_assoc
def AZ:=@Nat.lt_of_le_of_lt
def GM:=@List.pairwise_lt_range
def TP:=@List.drop_append_of_le_length
def A0:=@List.nodup_append
def A1:=@List.foldl_append
def GN:=@Array.getElem?_modify
def xz:=@Bool.false_and
def xA:=@List.take_zero
def GO:=@List.getElem?_zipWith
def A2:=@List.flatten_nil
def A3:=@List.mem_flatMap
def GP:=@Nat.pow_lt_pow_right
def A4:=@Nat.div_eq_of_lt
def xB:=@Prod.mk.injEq
def TQ:=@Int.fdiv_eq_ediv_of_nonneg
def GQ:=@List.replicate_zero
def GR:=@List.getElem_of_mem
def GS:=@List.filterMap_cons
def GU:=@List.map_congr_left
def GV:=@List.flatten_append
def GW:=@Array.toList_filter
def A5:=@Nat.two_pow_pos
def TR:=@Option.isNone_iff_eq_none
def A6:=@Int.ediv_nonneg
def xC:=@Nat.succ_mul
def TT:=@Array.getElem?_replicate
def GX:=@Bool.true_eq_false
def GY:=@Nat.xor_lt_two_pow
def GZ:=@Option.isSome_some
def ri:=@or_false
def A7:=@Int.mul_nonneg
def pI:=@eq_self
def TU:=@List.filter_cons_of_neg
def G0:=@List.idxOf_append
def G1:=@Nat.lt_trichotomy
def G2:=@List.size_toArray
def G3:=@List.length_range
def G4:=@List.drop_sublist
def bd0:=@List.set_eq_take_append_cons_drop
def A8:=@List.all_cons
def A9:=@Bool.and_true
def G5:=@Option.bind_some
def G6:=@List.countP_cons
def G7:=@List.getElem_set
def bd6:=@Nat.testBit_eq_decide_div_mod_eq
def TV:=@Nat.le_of_ble_eq_true
def TW:=@List.countP_le_length
def bd9:=@List.eraseIdx_eq_take_drop_succ
def G8:=@Bool.eq_iff_iff
def G9:=@List.foldl_cons
def Ha:=@List.find?_some
def Hb:=@List.range_succ
def Ba:=@Nat.pow_zero
def Hc:=@Nat.testBit_and
def Bb:=@List.map_nil
def Hd:=@Nat.div_le_self
def He:=@List.any_append
def TX:=@List.mem_of_getLast?
def TY:=@List.contains_append
def Hf:=@Int.emod_nonneg
def Bc:=@Int.zero_add
def TZ:=@List.count_le_length
def bf4:=@List.mem_eraseIdx_iff_getElem
def bf5:=@Int.mul_le_mul_of_nonneg_left
def T0:=@List.take_set_of_le
def T1:=@List.drop_set_of_lt
def T2:=@List.flatMap_append
def Hg:=@List.mapM_cons
def Hh:=@Nat.mul_le_mul
def uW:=@true_and
def Hi:=@List.Perm.refl
def Bd:=@Nat.div_one
def T3:=@Option.isSome_none
def T4:=@List.set_cons_succ
def T5:=@List.map_replicate
def T6:=@List.mem_replicate
def Hj:=@Nat.mul_assoc
def Hk:=@Int.add_assoc
def Hl:=@Int.lt_irrefl
def T7:=@Nat.le_of_not_lt
def Hm:=@Nat.lt_trans
def Hn:=@Nat.sub_zero
def T8:=@List.drop_append
def Ho:=@Nat.le_of_eq
abbrev bU:=List Int
theorem cM{c:Prop}{h:Decidable c}(k:¬c:=by omega){α:Sort u}{a b:α}:(ite c a b)=b:=if_neg k
theorem eG{c:Prop}{h:Decidable c}(k:c:=by omega){α:Sort u}{a b:α}:(ite c a b)=a:=if_pos k
theorem dL{α:Type u}{l:List α}{i:Nat}(h:i<l.length:=by omega):l[i]?=some l[i]:=List.getElem?_eq_getElem h
theorem bA{p:Prop}(h:p:=by omega):p:=h
theorem bO{p:Prop}[Decidable p](h:p:=by decide):p:=h
namespace Go.Kt
structure G where
 up:Int
 live:Bool
def dw(l:List G)(g:Int):Bool:=decide (0<=g)&&(match l[g.toNat]? with|some x=>x.live|none=>false)
structure WF(l:List G):Prop where
 pos:0<l.length
 fq:l.length<=64
 root:l[0]?=some ⟨-1,true⟩
 up:∀(i:Nat) x,l[i]?=some x->0<i->0<=x.up/\x.up<i
 live:∀(i:Nat) x y,l[i]?=some x->0<i->x.live=true->l[x.up.toNat]?=some y->y.live=true
def iE{l:List G}{g:Int}:dw l g=true↔∃n:Nat,g=n/\∃x,l[n]?=some x/\x.live=true:=by
 unfold dw;rw[dG,gj];constructor
 ·rintro⟨b,h⟩;refine⟨g.toNat,bA,?_⟩;split at h;·next x hx=>exact⟨x,hx,h⟩
  ·cases h
 ·rintro⟨n,rfl,x,hx,a⟩;refine⟨bA,?_⟩;rw[dk,hx];exact a
def nb{l:List G}{g:Int}(h:dw l g=true):0<=g/\g<l.length:=by
 obtain⟨n,rfl,x,hx,_⟩:=iE.1 h;have:=(cT.1 hx).1;omega
def chain(l:List G)(g:Nat):List Nat:=
 if h:0<g/\0<=((l[g]?).map G.up).getD (-1)/\((l[g]?).map G.up).getD (-1)<g then g::chain l (((l[g]?).map G.up).getD (-1)).toNat else[g]
termination_by g
decreasing_by omega
def uX(l:List G):chain l 0= [0]:=by rw[chain,dif_neg bA]
def sQ{l:List G}{g:Nat}{x:G}(h:WF l)(hx:l[g]?=some x)(a:0<g):chain l g=g::chain l x.up.toNat:=by
 have:=h.up g x hx a;rw[chain];rw[hx];simp only[jh,mB];rw[dif_pos ⟨a,this.1,this.2⟩]
def Hp(l:List G)(g:Nat):∃r,chain l g=g::r:=by
 rw[chain];split<;>exact⟨_,rfl⟩
def Be{l:List G}(h:WF l):∀(g:Nat),g<l.length->(∀x∈chain l g,x<=g)/\(chain l g).length<=g+1:=by
 intro g;induction g using Nat.strongRecOn with
 |_ g d=>
  intro c;rcases lq g with a|a;·subst a;rw[uX];simp
  ·obtain⟨x,hx⟩:∃x,l[g]?=some x:=⟨_,dD c⟩
   have hu:=h.up g x hx a;rw[sQ h hx a];have:=d x.up.toNat bA bA;refine⟨λy b=>?_,by rw[hS];omega⟩;rcases ey.1 b with rfl|b;·omega
   ·have:=this.1 y b;omega
def T9{l:List G}(h:WF l):∀(g:Nat),g<l.length->(chain l g).Nodup:=by
 intro g;induction g using Nat.strongRecOn with
 |_ g c=>
  intro b;rcases lq g with a|a;·subst a;rw[uX];simp
  ·obtain⟨x,hx⟩:∃x,l[g]?=some x:=⟨_,dD b⟩
   have hu:=h.up g x hx a;rw[sQ h hx a,pD];refine⟨λhm=>?_,c _ bA bA⟩;have:=(Be h x.up.toNat bA).1 g hm;omega
def Ua{l:List G}(h:WF l):∀(g:Nat),g<l.length->0∈chain l g:=by
 intro g;induction g using Nat.strongRecOn with
 |_ g c=>
  intro b;rcases lq g with a|a;·subst a;rw[uX];simp
  ·obtain⟨x,hx⟩:∃x,l[g]?=some x:=⟨_,dD b⟩
   have hu:=h.up g x hx a;rw[sQ h hx a];exact fI _ (c _ bA bA)
def c8(l:List G)(g:Int):bU:=if dw l g=true then(chain l g.toNat).map Int.ofNat else[]
def Hq(l:List G)(g:Int):Int:=((c8 l g).length:Int)-1
def lT(l:List G)(g:Int):Int:=if dw l g=true then((l[g.toNat]?).map G.up).getD (-1)else -1
def n2(l:List G)(is:Nat->Bool):bU:=((List.range l.length).filter λi:Nat=>dw l (i:Int)&&is i).map Int.ofNat
def hT(l:List G)(g:Int):bU:=if dw l g=true then n2 l (λi=>(c8 l i).contains g)else[]
def jX(l:List G)(g:Int):bU:=if dw l g=true then n2 l (λi=>((l[i]?).map G.up).getD (-1)==g)else[]
def gr(l:List G)(p:Int):List G×Int×Int:=
 if dw l p=false then(l, -1,2)else if Hq l p≥7 then(l, -1,21)else if l.length≥64 then(l, -1,3)else(l++[⟨p,true⟩],l.length,0)
def iF(l:List G)(g:Int):List G×Int:=
 if g=0 then(l,1)else if dw l g=false then(l,2)else if jX l g≠ []then(l,4)else(l.set g.toNat ⟨((l[g.toNat]?).map G.up).getD (-1),false⟩,0)
def new:List G:=[⟨-1,true⟩]
def Ub:WF new:=⟨bO,bO,rfl,λi x hx a=>by
 match i,hx with
 |0,_=>omega
 |i+1,hx=>simp[new]at hx,λi x y hx a=>by
 match i,hx with
 |0,_=>omega
 |i+1,hx=>simp[new]at hx⟩
def Uc{l:List G}(h:WF l)(p:Int):WF (gr l p).1:=by
 unfold gr;split;·exact h
 split;·exact h
 split;·exact h
 next f _ m=>
  have f:dw l p=true:=by simpa using f
  obtain⟨n,rfl,x,hx,j⟩:=iE.1 f;have g:=(cT.1 hx).1;refine⟨by simp,by simp;omega,?_,λi y a d=>?_,λi y z a d k c=>?_⟩;·rw[eE h.pos];exact h.root
  ·rcases gS i l.length with b|b;·rw[eE b]at a;exact h.up i y a d
   ·rw[fo b]at a;have:i-l.length=0:=by
     rcases lq (i-l.length)with h' | h';·exact h'
     ·rw[fH (by simp;omega)]at a;cases a
    rw[this]at a;have:=cQ a;subst this;exact⟨by show(0:Int)<=(n:Int);omega,by show(n:Int)<i;omega⟩
  ·rcases gS i l.length with b|b
   ·rw[eE b]at a;have hu:=h.up i y a d;rw[eE bA]at c;exact h.live i y z a d k c
   ·rw[fo b]at a;have:i-l.length=0:=by
     rcases lq (i-l.length)with h' | h';·exact h'
     ·rw[fH (by simp;omega)]at a;cases a
    rw[this]at a;have:=cQ a;subst this;have e:((n:Int)).toNat=n:=by omega
    simp only[e]at c;rw[eE g,hx]at c;rw[<- cQ c];exact j
def Ud{l:List G}(h:WF l)(g:Int):WF (iF l g).1:=by
 unfold iF;split;·exact h
 split;·exact h
 split;·exact h
 next p d j=>
  have d:dw l g=true:=by simpa using d
  have j:jX l g= []:=by simpa using j
  obtain⟨n,rfl,x,hx,r⟩:=iE.1 d;have f:=(cT.1 hx).1;rw[dk,hx];simp only[jh,mB];have k:n≠0:=λe=>p (by rw[e];rfl);refine⟨by rw[dA];exact h.pos,by rw[dA];exact h.fq,?_,λi y a b=>?_,λi y z a b c m=>?_⟩;·rw[h4 k];exact h.root
  ·by_cases e:n=i
   ·subst e;rw[iM f]at a;have:=cQ a;subst this;exact h.up n x hx b
   ·rw[h4 e]at a;exact h.up i y a b
  ·by_cases e:n=i
   ·subst e;rw[iM f]at a;have:=cQ a;subst this;cases c
   ·rw[h4 e]at a;by_cases o:n=y.up.toNat
    ·exfalso;have hu:=h.up i y a b;have q:=(cT.1 a).1;have:(i:Int)∈jX l n:=by
      unfold jX n2;rw[bM d];refine e4.2 ⟨i,fO.2 ⟨fW.2 q,?_⟩,rfl⟩;rw[dG];refine⟨iE.2 ⟨i,rfl,y,a,c⟩,?_⟩;show(((l[i]?).map G.up).getD (-1)==(n:Int))=true;rw[a];simp only[jh,mB,pH];omega
     rw[j]at this;cases this
    ·rw[h4 o]at m;exact h.live i y z a b c m
end Go.Kt
namespace Go.Vc
open Go
structure Sl where
 p:cg
 n:Nat
 c:Nat
inductive C1 where
 |int (k:IntKind)|bool|str|ptr|slice|map|raw|addr
def C1.ty:C1->Type
 |.int _=>Int | .bool=>Bool | .str=>ByteArray | .ptr=>cg | .slice=>Sl | .map=>Option Nat | .raw=>Value | .addr=>Addr
def C1.mk:(c:C1)->c.ty->Value
 |.int k,n=>.int k n
 |.bool,b=>.bool b
 |.str,s=>.string s
 |.ptr,p=>.pointer p
 |.slice,s=>.slice s.p s.n s.c
 |.map,r=>.map r
 |.raw,v=>v
 |.addr,a=>.pointer (some a)
def C1.un:(c:C1)->Value->Option c.ty
 |.int k,.int k' n=>match decide (k=k')with|true=>some n|false=>none
 |.bool,.bool b=>some b
 |.str,.string s=>some s
 |.ptr,.pointer p=>some p
 |.slice,.slice p n c=>some ⟨p,n,c⟩
 |.map,.map r=>some r
 |.raw,v=>some v
 |.addr,.pointer (some a)=>some a
 |_,_=>none
def C1.lv{c:C1}{v:Value}{x:c.ty}(h:c.un v=some x):v=c.mk x:=by
 cases c<;>cases v<;>simp only[C1.un,reduceCtorEq]at h
 case int.int k k' n=>
  split at h;·rename_i e;simp only[gj]at e;subst e;exact eO (Value.int k) (cQ h)
  ·cases h
 case bool.bool=>exact eO Value.bool (cQ h)
 case str.string=>exact eO Value.string (cQ h)
 case ptr.pointer=>exact eO Value.pointer (cQ h)
 case map.map=>exact eO Value.map (cQ h)
 case slice.slice p n c=>have h':(⟨p,n,c⟩:Sl)=x:=cQ h;subst h';rfl
 case addr.pointer p=>cases p with|none=>cases h|some a=>exact eO (λa=>Value.pointer (some a)) (cQ h)
 all_goals exact cQ h
inductive K1 where
 |one (c:C1)|agg (l:List C1)|arr (n:Nat) (k:IntKind)
inductive Kd where
 |k (x:K1)|iN (l:List K1)
def Bf:List C1->Array Value->(Array Value->Prop)->Prop
 |[],acc,f=>f acc
 |c::l,acc,f=>∃x:c.ty,Bf l (acc.push (c.mk x)) f
def K1.ex:K1->(Value->Prop)->Prop
 |.one c,f=>∃x:c.ty,f (c.mk x)
 |.agg l,f=>Bf l #[] (λcs=>f (.agg cs))
 |.arr n k,f=>∃xs:bU,xs.length=n/\f (.agg (xs.map (Value.int k)).toArray)
def xD:List K1->Array Value->(Array Value->Prop)->Prop
 |[],acc,f=>f acc
 |k::l,acc,f=>k.ex λv=>xD l (acc.push v) f
def Kd.ex:Kd->(Value->Prop)->Prop
 |.k x,f=>x.ex f
 |.iN l,f=>xD l #[] (λvs=>f (.tuple vs))
def Hr:∀(l:List C1) (acc:Array Value) (f:Array Value->Prop),Bf l acc f->∃vs,f vs
 |[],acc,_,h=>⟨acc,h⟩
 |_::l,_,f,⟨_,h⟩=>Hr l _ f h
def K1.eT{k:K1}{f:Value->Prop}(h:k.ex f):∃v,f v:=by
 cases k with
 |one c=>obtain⟨x,h⟩:=h;exact⟨_,h⟩
 |agg l=>obtain⟨v,h⟩:=Hr l _ _ h;exact⟨_,h⟩
 |arr n k=>obtain⟨x,_,h⟩:=h;exact⟨_,h⟩
def Bg:∀(l:List K1) (acc:Array Value) (f:Array Value->Prop),xD l acc f->∃vs,f vs
 |[],acc,_,h=>⟨acc,h⟩
 |_::l,_,f,h=>let ⟨_,h⟩:=K1.eT h;Bg l _ f h
def Kd.eT{k:Kd}{f:Value->Prop}(h:k.ex f):∃v,f v:=by
 cases k with
 |k x=>exact K1.eT h
 |iN l=>obtain⟨v,h⟩:=Bg l _ _ h;exact⟨_,h⟩
def dW(P:Program)(t:TypeId):Option Bool:=
 match P.underlying t with
 |some (.struct _)=>some true
 |some (.array _ _)=>some true
 |some _=>some false
 |none=>none
def h7(P:Program)(t:TypeId):Option Nat:=
 match P.info? t with
 |some i=>some i.size
 |none=>none
def pJ(P:Program)(t:TypeId):Option Value:=
 match P.info? t with
 |some i=>i.zero
 |none=>none
section
variable{P:Program}{w:World}
def xE{t:TypeId}{z:Value}(h:pJ P t=some z):(zeroValue t).run P w=.ok z w:=by
 unfold pJ at h;split at h;·rename_i i a;simp[zeroValue,typeInfo,a,h]
 ·cases h
def hH{t:TypeId}{d:TypeDesc}(h:P.underlying t=some d):(underlying t).run P w=.ok d w:=by
 simp[underlying,h]
def uY{t:TypeId}{b:Bool}(h:dW P t=some b):(isAgg t).run P w=.ok b w:=by
 unfold dW at h;cases hu:P.underlying t with
 |none=>simp[hu]at h
 |some d=>cases d<;>simp[hu]at h<;>subst h<;>simp[isAgg,hH hu]
def run_sizeOf{t:TypeId}{n:Nat}(h:h7 P t=some n):(sizeOf t).run P w=.ok n w:=by
 unfold h7 at h;cases hu:P.info? t with
 |none=>simp[hu]at h
 |some i=>simp[hu]at h;subst h;simp[sizeOf,typeInfo,hu]
end
structure Grow(w w':World):Prop where
 os:w'.os=w.os
 tape:w'.tape=w.tape
 output:w'.output=w.output
 size:w.heap.size<=w'.heap.size
 heap:∀b,b<w.heap.size->w'.heap[b]?=w.heap[b]?
def Grow.refl(w:World):Grow w w:=⟨rfl,rfl,rfl,dN _,λ_ _=>rfl⟩
def Grow.trans{a b c:World}(h:Grow a b)(h':Grow b c):Grow a c:=
 ⟨h'.os.trans h.os,h'.tape.trans h.tape,h'.output.trans h.output,mD h.size h'.size,λx hx=>(h'.heap x (mz hx h.size)).trans (h.heap x hx)⟩
def Grow.drew(w:World):Grow w w.drew:=⟨rfl,rfl,rfl,dN _,λ_ _=>rfl⟩
def Grow.alloc(w:World)(o:Obj):Grow w (w.alloc o):=
 ⟨rfl,rfl,rfl,by show w.heap.size<=(w.heap.push o).size;simp,λb a=>by show(w.heap.push o)[b]?=w.heap[b]?;rw[Array.getElem?_push,bJ (Nat.ne_of_lt a)]⟩
def Grow.cell{w w':World}(h:Grow w w'){a:Addr}{v:Value}(c:w.cell? a=some v):w'.cell? a=some v:=by
 unfold World.cell? at c ⊢;cases b:w.heap[a.block]? with
 |none=>simp[b]at c
 |some o=>
  have d:a.block<w.heap.size:=by
   rcases gS a.block w.heap.size with h|h;·exact h
   ·simp[xv h]at b
  rw[h.heap _ d,b];simpa[b]using c
def Bh:List C1->Addr->Nat->Array Value->World->(Array Value->Prop)->Prop
 |[],_,_,acc,_,f=>f acc
 |c::l,a,i,acc,w,f=>∃x:c.ty,w.cell? (a.add i)=some (c.mk x)/\Bh l a (i+1) (acc.push (c.mk x)) w f
def Ue(n:Nat)(k:IntKind)(a:Addr)(w:World)(f:Value->Prop):Prop:=
 ∃xs:bU,xs.length=n/\(∀i,i<n->w.cell? (a.add i)=some (.int k (xs.getD i 0)))/\f (.agg (xs.map (Value.int k)).toArray)
def Bi(P:Program)(k:K1)(t:TypeId)(a:Addr)(w:World)(f:Value->Prop):Prop:=
 match k with
 |.one c=>match dW P t with
  |some false=>∃x:c.ty,w.cell? a=some (c.mk x)/\f (c.mk x)
  |_=>False
 |.agg l=>match dW P t,h7 P t with
  |some true,some n=>bif n==l.length then Bh l a 0 #[] w (λcs=>f (.agg cs))else False
  |_,_=>False
 |.arr n k=>match dW P t,h7 P t with
  |some true,some m=>bif m==n then Ue n k a w f else False
  |_,_=>False
def Hs{P:Program}:∀(l:List C1) (a:Addr) (i:Nat) (acc:Array Value) (w:World) (f:Array Value->Prop),Bh l a i acc w f->
  ∃vs,(∀w',Grow w w'->(loadCellsFrom a i l.length acc).run P w'=.ok vs w')/\f vs
 |[],_,_,acc,_,_,h=>⟨acc,λ_ _=>by simp[loadCellsFrom],h⟩
 |c::l,a,i,acc,w,f,⟨x,hx,h⟩=>by
  obtain⟨vs,h1,b⟩:=Hs (P:=P) l a (i+1) _ w f h;exact⟨vs,λw' g=>by simp[loadCellsFrom,g.cell hx,h1 w' g],b⟩
def Ht{P:Program}{k:IntKind}{a:Addr}{w:World}(xs:bU):∀(m i:Nat) (acc:Array Value),i+m=xs.length->
  (∀j,j<xs.length->w.cell? (a.add j)=some (.int k (xs.getD j 0)))->
  (loadCellsFrom a i m acc).run P w=.ok (acc++((xs.drop i).map (Value.int k)).toArray) w
 |0,i,acc,c,_=>by
  have:xs.drop i= []:=by simp;omega
  simp[loadCellsFrom,this]
 |m+1,i,acc,c,h=>by
  have b:i<xs.length:=by omega
  have d:=Ht (P:=P) xs m (i+1) (acc.push (.int k (xs.getD i 0))) bA h;simp only[loadCellsFrom,Sem.run_bind,run_load,h i b,Result.andThen_ok,d];congr 1;rw[show(List.drop i xs).map (Value.int k)=Value.int k (xs.getD i 0)::(List.drop (i+1) xs).map (Value.int k) by
   have e:xs.getD i 0=xs[i]:=by simp[List.getD,b]
   rw[e,ln b,mC]]
  apply Array.ext';simp only[Array.toList_append,Array.toList_push,dc,List.singleton_append]
def Hu{P:Program}{k:K1}{t:TypeId}{a:Addr}{w:World}{f:Value->Prop}(h:Bi P k t a w f):
  ∃v,(∀w',Grow w w'->(loadVar t a).run P w'=.ok v w')/\f v:=by
 unfold Bi at h;cases k with
 |one c=>
  dsimp only at h;split at h
  ·rename_i e;obtain⟨x,hx,hf⟩:=h;exact⟨_,λw' g=>by simp[loadVar,uY e,g.cell hx],hf⟩
  ·exact h.elim
 |agg l=>
  dsimp only at h;split at h
  ·rename_i n d i;cases b:n==l.length with
   |false=>simp[b]at h
   |true=>
    rw[b,hr]at h;simp at b;subst b;obtain⟨vs,h1,o⟩:=Hs (P:=P) l a 0 #[] w _ h;exact⟨_,λw' g=>by simp[loadVar,uY d,run_sizeOf i,loadCells,h1 w' g],o⟩
  ·exact h.elim
 |arr n k=>
  dsimp only at h;split at h
  ·rename_i m d i;cases b:m==n with
   |false=>simp[b]at h
   |true=>
    rw[b,hr]at h;simp at b;subst b;obtain⟨xs,h1,o,p⟩:=h;subst h1;exact⟨_,λw' g=>by simp[loadVar,uY d,run_sizeOf i,loadCells,Ht (P:=P) xs xs.length 0 #[] bA (λj q=>g.cell (o j q))],p⟩
  ·exact h.elim
def NN(p:cg)(f:Addr->Prop):Prop:=∃a,p=some a/\f a
@[simp] theorem aMO(a:Addr)(f:Addr->Prop):NN (some a) f↔f a:=by simp[NN]
@[simp] theorem aMN(f:Addr->Prop):NN none f↔False:=by simp[NN]
def rj(x:Value)(f:Value->Prop):Prop:=
 match x with
 |.pointer p=>NN p λa=>f (.pointer (some a))
 |.func (.func g) fi ca=>f (.func (.func g) fi ca)
 |_=>False
def rk(P:Program)(s:TypeId)(i:Nat):Option Nat:=
 match P.underlying s with
 |some (.struct fs)=>match fs[i]? with
  |some fd=>match h7 P fd.type with
   |some (_+1)=>some fd.offset
   |_=>none
  |none=>none
 |_=>none
def Bj(P:Program)(s:TypeId)(x:Value)(i:Nat)(f:Value->Prop):Prop:=
 match x with
 |.pointer (some a)=>match rk P s i with
  |some o=>f (.pointer (some (a.add o)))
  |none=>False
 |_=>False
def pK(P:Program)(k:K1)(t:TypeId)(x:Value)(w:World)(f:Value->Prop):Prop:=
 match x with
 |.pointer (some a)=>Bi P k t a w f
 |_=>False
def Bk(c x y:Value)(f:Value->Prop):Prop:=
 match c,x,y with
 |.bool b,.bool p,.bool q=>f (.bool (bif b then p else q))
 |.bool true,x,_=>f x
 |.bool false,_,y=>f y
 |_,_,_=>False
def bV(k:IntKind)(m n:Int):Int:=k.wrap (BitVec.ofInt k.bits m &&& BitVec.ofInt k.bits n).toNat
def iG(k:IntKind)(m n:Int):Int:=k.wrap (BitVec.ofInt k.bits m ||| BitVec.ofInt k.bits n).toNat
def oK(k:IntKind)(m n:Int):Int:=k.wrap (BitVec.ofInt k.bits m ^^^ BitVec.ofInt k.bits n).toNat
def xF(k:IntKind)(m n:Int):Int:=k.wrap (BitVec.ofInt k.bits m &&& ~~~ BitVec.ofInt k.bits n).toNat
def oL(k:IntKind)(n:Int):Int:=k.wrap (BitVec.ofInt k.bits (if k.signed then -1 else k.max) ^^^ BitVec.ofInt k.bits n).toNat
def rl(op:BinOp)(k:IntKind)(m:Int)(k':IntKind)(n:Int)(f:Value->Prop):Prop:=
 match op with
 |.shl=>0<=n/\f (.int k (k.wrap (m*2^(min n.toNat k.bits))))
 |.shr=>0<=n/\f (.int k (m.fdiv (2^(min n.toNat k.bits))))
 |op=>match decide (k=k')with
  |false=>False
  |true=>match op with
   |.add=>f (.int k (k.wrap (m+n)))
   |.sub=>f (.int k (k.wrap (m-n)))
   |.mul=>f (.int k (k.wrap (m*n)))
   |.quo=>n≠0/\f (.int k (k.wrap (m.tdiv n)))
   |.rem=>n≠0/\f (.int k (m.tmod n))
   |.and=>f (.int k (bV k m n))
   |.or=>f (.int k (iG k m n))
   |.xor=>f (.int k (oK k m n))
   |.andNot=>f (.int k (xF k m n))
   |.eql=>f (.bool (m==n))
   |.neq=>f (.bool (m !=n))
   |.lss=>f (.bool (m<n))
   |.leq=>f (.bool (m<=n))
   |.gtr=>f (.bool (m>n))
   |.geq=>f (.bool (m≥n))
   |_=>False
def rm(op:BinOp)(s t:ByteArray)(f:Value->Prop):Prop:=
 match op with
 |.add=>s.size+t.size<=9223372036854775807/\f (.string (s++t))
 |.eql=>f (.bool (s.toList==t.toList))
 |.neq=>f (.bool (!(s.toList==t.toList)))
 |.lss=>f (.bool (Op.bytesLess s.toList t.toList))
 |_=>False
def xG(P:Program)(t:TypeId):Bool:=match P.underlying t with|some .bool=>true|_=>false
def xH(P:Program)(t:TypeId):Bool:=match P.underlying t with|some (.pointer _)=>true|_=>false
def uZ(P:Program)(t:TypeId):Bool:=match P.underlying t with|some (.slice _)=>true|_=>false
def xI(P:Program)(t:TypeId):Bool:=match P.underlying t with|some (.map _ _)=>true|_=>false
def jY(P:Program)(op:BinOp)(t:TypeId)(x y:Value)(b:Bool):Prop:=
 (∀a c w,(eqGuard op t a c x y).run P w=.ok () w)/\∀w,(binOp op t x y).run P w=.ok (.bool b) w
def xJ(P:Program)(op:BinOp)(t:TypeId)(x y:Value)(f:Value->Prop):Prop:=
 match op with
 |.eql=>∃b:Bool,jY P .eql t x y b/\f (.bool b)
 |.neq=>∃b:Bool,jY P .neq t x y b/\f (.bool b)
 |_=>False
def Uf(P:Program)(op:BinOp)(t:TypeId)(x y:Value)(f:Value->Prop):Prop:=
 match x,y with
 |.int k m,.int k' n=>rl op k m k' n f
 |.string s,.string u=>rm op s u f
 |.bool p,.bool q=>match xG P t,op with
  |true,.eql=>f (.bool (p==q))
  |true,.neq=>f (.bool (!(p==q)))
  |_,_=>False
 |.pointer p,.pointer none=>match xH P t,op with
  |true,.eql=>f (.bool p.isNone)
  |true,.neq=>f (.bool (!p.isNone))
  |_,_=>False
 |.slice p _ _,.slice none _ _=>match uZ P t,op with
  |true,.eql=>f (.bool p.isNone)
  |true,.neq=>f (.bool (!p.isNone))
  |_,_=>False
 |.map r,.map none=>match xI P t,op with
  |true,.eql=>f (.bool r.isNone)
  |true,.neq=>f (.bool (!r.isNone))
  |_,_=>False
 |x,y=>xJ P op t x y f
def u0(P:Program)(op:BinOp)(t:TypeId)(x y:Value)(f:Value->Prop):Prop:=
 match y with
 |.nilFunc=>xJ P op t x .nilFunc f
 |y=>Uf P op t x y f
def Bl(op:UnOp)(x:Value)(f:Value->Prop):Prop:=
 match op,x with
 |.not,.bool b=>f (.bool !b)
 |.neg,.int k n=>f (.int k (k.wrap (0-n)))
 |.xor,.int k n=>f (.int k (oL k n))
 |_,_=>False
def aMQ(P:Program)(d:TypeId)(x:Value)(f:Value->Prop):Prop:=
 match P.underlying d,x with
 |some (.int k),.int _ n=>f (.int k (k.wrap n))
 |some .string,.string s=>f (.string s)
 |_,_=>False
def pM(P:Program)(t:TypeId):Bool:=match P.underlying t with|some .string=>true|_=>false
def Ug(s:ByteArray)(i:Int)(f:Int->Prop):Prop:=0<=i/\∃b:UInt8,s[i.toNat]?=some b/\f (b.toNat:Int)
def Bm(P:Program)(t:TypeId)(x i:Value)(f:Value->Prop):Prop:=
 match x,i with
 |.string s,.int _ i=>match pM P t with
  |true=>Ug s i λb=>f (.int .u8 b)
  |false=>False
 |_,_=>False
def lU(P:Program)(t:TypeId):Option (Nat×Nat):=
 match P.underlying t with
 |some (.array n e)=>match h7 P e with
  |some m=>some (n,m)
  |none=>none
 |_=>none
def oM(P:Program)(t:TypeId):Option Nat:=
 match P.underlying t with
 |some (.slice e)=>h7 P e
 |_=>none
def cx(p:cg)(n:Nat)(i:Int)(m:Nat)(f:Addr->Prop):Prop:=∃a,p=some a/\(0<=i/\i<n)/\f (a.add (i.toNat*m))
def Bn(P:Program)(t:TypeId)(x i:Value)(f:Value->Prop):Prop:=
 match x,i with
 |.slice p n _,.int _ i=>match oM P t with
  |some m=>cx p n i m λa=>f (.pointer (some a))
  |none=>False
 |.pointer p,.int _ i=>match lU P t with
  |some (n,m)=>cx p n i m λa=>f (.pointer (some a))
  |none=>False
 |_,_=>False
def Bo(P:Program)(t:TypeId)(cs:Array Value)(off:Nat):Option Value:=
 match dW P t,h7 P t with
 |some true,some n=>some (.agg (cs.extract off (off+n)))
 |some false,_=>cs[off]?
 |_,_=>none
def Bp(P:Program)(t:TypeId)(x:Value)(i:Nat)(f:Value->Prop):Prop:=
 match P.underlying t,x with
 |some (.struct fs),.agg cs=>match fs[i]? with
  |some fd=>match Bo P fd.type cs fd.offset with
   |some v=>f v
   |none=>False
  |none=>False
 |_,_=>False
def Bq(x:Value)(i:Nat)(f:Value->Prop):Prop:=
 match x with
 |.tuple vs=>match vs[i]? with
  |some v=>f v
  |none=>False
 |_=>False
def u1(n m:Nat)(b a d:Option Value)(f:Nat->Nat->Nat->Prop):Prop:=
 let low (h c:Nat):Prop:=match b with
  |none=>f 0 h c
  |some (.int _ l)=>(0<=l/\l<=h)/\f l.toNat h c
  |_=>False
 match a,d with
 |none,none=>low n m
 |some (.int _ h),none=>(0<=h/\h<=m)/\low h.toNat m
 |some (.int _ h),some (.int _ c)=>(0<=c/\c<=m)/\(0<=h/\h<=c.toNat)/\low h.toNat c.toNat
 |_,_=>False
def gb(a:cg)(l c m:Nat):cg:=if c=l then a else a.map (·.add (l*m))
def nc(a:Addr)(l c m:Nat):cg:=some (if c=l then a else a.add (l*m))
def Br(P:Program)(t:TypeId)(x:Value)(d b e:Option Value)(f:Value->Prop):Prop:=
 match x with
 |.slice p n c=>match oM P t with
  |some m=>u1 n c d b e λl h c=>f (.slice (gb p l c m) (h-l) (c-l))
  |none=>False
 |.string s=>match pM P t,e with
  |true,none=>u1 s.size s.size d b none λl h _=>f (.string (s.extract l h))
  |_,_=>False
 |.pointer (some a)=>match lU P t with
  |some (n,m)=>u1 n n d b e λl h c=>f (.slice (nc a l c m) (h-l) (c-l))
  |none=>False
 |_=>False
def min1(x y:Int):Int:=if y<x then y else x
def dy(x y:Int):Int:=if y>x then y else x
def Hv(P:Program)(b:Builtin)(t:TypeId)(args:List Value)(f:Value->Prop):Prop:=
 match b,args with
 |.len,[.slice _ n _]=>match uZ P t with|true=>f (.int .i64 n)|false=>False
 |.len,[.string s]=>match pM P t with|true=>f (.int .i64 s.size)|false=>False
 |.len,[.pointer _]=>match P.underlying t with
  |some (.pointer e)=>match lU P e with|some (n,_)=>f (.int .i64 n)|none=>False
  |_=>False
 |.len,[.agg _]=>match lU P t with
  |some (n,_)=>f (.int .i64 n)
  |none=>False
 |.min,[.int k x,.int _ y]=>f (.int k (min1 x y))
 |.max,[.int k x,.int _ y]=>f (.int k (dy x y))
 |_,_=>False
def Bs(P:Program)(b:Builtin)(ts:Array TypeId)(args:Array Value)(f:Value->Prop):Prop:=
 match ts[0]? with
 |some t=>Hv P b t args.toList f
 |none=>False
def Hw(P:Program)(t:TypeId)(ps:Array (Nat×Value)):Option (Array Value):=
 match pJ P t,P.underlying t with
 |some z,some (.struct fs)=>match fs.toList.mapM λf=>(h7 P f.type).map λn=>(f.offset,n)with
  |some l=>Instr.fill (λi=>l[i]?) z.cells ps.toList
  |none=>none
 |some z,some (.array _ e)=>match h7 P e with
  |some m=>Instr.fill (λi=>some (i*m,m)) z.cells ps.toList
  |none=>none
 |_,_=>none
def u2(P:Program)(t:TypeId)(ps:Array (Nat×Value))(f:Value->Prop):Prop:=
 match Hw P t ps with
 |some cs=>f (.agg cs)
 |none=>False
def Hx(P:Program)(t:TypeId):Option Bool:=match P.underlying t with|some (.interface _)=>some true|some _=>some false|none=>none
def ji:Op->Bool
 |.load .. | .lookup .. | .convert .. =>true
 |_=>false
def gk(P:Program)(t:TypeId)(m k:Value)(ok:Bool)(w:World)(v:Value):Prop:=∀w',Grow w w'->(Instr.lookup t m k ok).run P w'=.ok v w'
def u3(P:Program)(s d:TypeId)(x:Value)(w:World)(v:Value):Prop:=∀w',Grow w w'->(convert s d x).run P w'=.ok v w'
def Bt(P:Program)(s d:TypeId)(x:Value)(w:World)(f:Value->Prop):Prop:=
 match P.underlying d,x with
 |some (.int k),.int _ n=>f (.int k (k.wrap n))
 |some .string,.string t=>f (.string t)
 |some .string,.slice p n c=>∃l:ByteArray,u3 P s d (.slice p n c) w (.string l)/\f (.string l)
 |_,_=>False
def vQ(P:Program)(τ:TypeId->K1)(ρ:TypeId->Kd)(o:Oper)(ev:Operand->Value)(w:World)(f:Value->Prop):Prop:=
 match o.op with
 |.move x=>f (ev x)
 |.assign x=>f (ev x)
 |.pick c x y=>Bk (ev c) (ev x) (ev y) f
 |.nilCheck x=>rj (ev x) f
 |.fieldAddr s x i=>Bj P s (ev x) i f
 |.load t x=>pK P (τ t) t (ev x) w f
 |.binOp op t x y _=>u0 P op t (ev x) (ev y) f
 |.unOp op _ x=>Bl op (ev x) f
 |.convert s d x=>Bt P s d (ev x) w f
 |.index t x i=>Bm P t (ev x) (ev i) f
 |.indexAddr t x i=>Bn P t (ev x) (ev i) f
 |.field t x i=>Bp P t (ev x) i f
 |.extract t i=>Bq (ev t) i f
 |.slice t x e a g=>Br P t (ev x) (e.map ev) (a.map ev) (g.map ev) f
 |.build t ps=>u2 P t (ps.map λ(i,x)=>(i,ev x)) f
 |.makeInterface t x=>match Hx P t with|some false=>f (.iface t (ev x))|_=>False
 |.lookup t m k ok=>(ρ o.type).ex λv=>gk P t (ev m) (ev k) ok w v/\f v
 |.makeFunc fn fi ca=>f (.func fn (fi.map ev) (ca.map ev))
 |.call {callee:=.builtin b,args,argTypes} =>Bs P b argTypes (args.map ev) f
 |_=>False
inductive Tr where
 |nil
 |node (v:Value) (l r:Tr)
noncomputable def Tr.get(T:Tr):Nat->Value:=
 Tr.rec (λ_=>undef) (λv _ _ gl a n=>bif Nat.beq n 0 then v else bif Nat.beq (n%2) 1 then gl (n/2)else a (n/2-1)) T
noncomputable def Tr.js(f:Nat):Tr->Nat->Value->Tr:=
 Nat.rec (λT _ _=>T) (λ_ a T n x=>
  Tr.rec (bif Nat.beq n 0 then .node x .nil .nil else bif Nat.beq (n%2) 1 then .node undef (a .nil (n/2) x) .nil else .node undef .nil (a .nil (n/2-1) x))
   (λv l r _ _=>bif Nat.beq n 0 then .node x l r else bif Nat.beq (n%2) 1 then .node v (a l (n/2) x) r else .node v l (a r (n/2-1) x)) T) f
noncomputable def Tr.put(T:Tr)(d:Option Nat)(v:Value):Tr:=match d with|some d=>Tr.js 13 T d v|none=>T
def Tr.get_nil(n:Nat):Tr.get .nil n=undef:=rfl
def Tr.fk(v:Value)(l r:Tr)(n:Nat):Tr.get (.node v l r) n=bif Nat.beq n 0 then v else bif Nat.beq (n%2) 1 then l.get (n/2)else r.get (n/2-1):=rfl
def Tr.lV(f:Nat)(v:Value)(l r:Tr)(n:Nat)(x:Value):Tr.js (f+1) (.node v l r) n x=
  bif Nat.beq n 0 then .node x l r else bif Nat.beq (n%2) 1 then .node v (Tr.js f l (n/2) x) r else .node v l (Tr.js f r (n/2-1) x):=rfl
def jM(a b:Nat):Nat.beq a b=(a==b):=by rw[G8];simp
def Tr.im:∀(f:Nat) (T:Tr) (n m:Nat) (x:Value),n+1<2^f->(Tr.js f T n x).get m=if m=n then x else T.get m
 |0,_,_,_,_,h=>by simp at h
 |f+1,T,n,m,x,h=>by
  have e:Tr.js (f+1) T n x=match T with
   |.nil=>Tr.js (f+1) (.node undef .nil .nil) n x
   |T=>Tr.js (f+1) T n x:=by cases T<;>rfl
  have g:∀k,(Tr.nil).get k=(Tr.node undef .nil .nil).get k:=by
   intro k;rw[Tr.fk,Tr.get_nil];cases Nat.beq k 0<;>cases Nat.beq (k%2) 1<;>rfl
  have key:∀(v:Value) (l r:Tr),(Tr.js (f+1) (.node v l r) n x).get m=if m=n then x else(Tr.node v l r).get m:=by
   intro v l r;rw[Tr.lV];have o:2^(f+1)=2^f+2^f:=by rw[m9];omega
   by_cases i:n=0
   ·subst i;simp only[jM,uQ,hr];rw[Tr.fk,Tr.fk];by_cases hm:m=0;·subst hm;simp[jM]
    ·have:(m==0)=false:=by simpa using hm
     simp only[jM,this,g8,bJ hm]
   ·have j:Nat.beq n 0=false:=by rw[jM];simpa using i
    rw[j,g8];by_cases hp:n%2=1
    ·have d:Nat.beq (n%2) 1=true:=by rw[jM];simpa using hp
     rw[d,hr,Tr.fk,Tr.fk,Tr.im f l (n/2) (m/2) x bA];by_cases hm:m=0;·subst hm;rw[bJ (by omega:¬ 0=n)];rfl
     ·have c:Nat.beq m 0=false:=by rw[jM];simpa using hm
      rw[c,g8,g8];by_cases b:m%2=1
      ·have a:Nat.beq (m%2) 1=true:=by rw[jM];simpa using b
       rw[a,hr,hr];by_cases e:m=n;·subst e;simp
       ·rw[bJ e,bJ (by omega:¬ m/2=n/2)]
      ·have a:Nat.beq (m%2) 1=false:=by rw[jM];simpa using b
       rw[a,g8,g8,bJ (λe:m=n=>b (by rw[e];exact hp))]
    ·have d:Nat.beq (n%2) 1=false:=by rw[jM];simpa using hp
     rw[d,g8,Tr.fk,Tr.fk,Tr.im f r (n/2-1) (m/2-1) x bA];by_cases hm:m=0;·subst hm;rw[bJ (by omega:¬ 0=n)];rfl
     ·have c:Nat.beq m 0=false:=by rw[jM];simpa using hm
      rw[c,g8,g8];by_cases b:m%2=1
      ·have a:Nat.beq (m%2) 1=true:=by rw[jM];simpa using b
       rw[a,hr,hr,bJ (λe:m=n=>hp (by rw[<- e];exact b))]
      ·have a:Nat.beq (m%2) 1=false:=by rw[jM];simpa using b
       rw[a,g8,g8];by_cases e:m=n;·subst e;simp
       ·rw[bJ e,bJ (by omega:¬ m/2-1=n/2-1)]
  cases T with
  |nil=>rw[g m];exact key _ _ _
  |node v l r=>exact key v l r
def Tr.dM(T:Tr)(d m:Nat)(v:Value)(h:d<8000):(T.put (some d) v).get m=if m=d then v else T.get m:=
 Tr.im 13 T d m v bA
noncomputable def Tr.ev(T:Tr):Operand->Value
 |.tmp t=>T.get t
 |.const v=>v
 |.global g=>.pointer (some ⟨g,0,none⟩)
 |.func f=>.func (.func f) #[] #[]
end Go.Vc
namespace Go.Vc
open Go
section
variable{P:Program}{w:World}
def Uh{c x y:Value}{f:Value->Prop}(h:Bk c x y f):∃v,(∀w,(do pure (Next.value (if <- asBool c then x else y)):Sem Next).run P w=.ok (.value v) w)/\f v:=by
 unfold Bk at h;split at h;·rename_i b p q;cases b<;>exact⟨_,λw=>by simp[asBool],h⟩
 ·exact⟨_,λw=>by simp[asBool],h⟩
 ·exact⟨_,λw=>by simp[asBool],h⟩
 ·exact h.elim
def Ui{op:BinOp}{t:TypeId}{k k':IntKind}{m n:Int}{f:Value->Prop}(h:rl op k m k' n f):
  ∃v,(∀w,(binOp op t (.int k m) (.int k' n)).run P w=.ok v w)/\f v:=by
 unfold rl at h;split at h
 ·obtain⟨a,h⟩:=h;refine⟨_,λw=>?_,h⟩;simp[binOp,Op.shift,show ¬ n<0 by omega]
 ·obtain⟨a,h⟩:=h;refine⟨_,λw=>?_,h⟩;simp[binOp,Op.shift,show ¬ n<0 by omega]
 ·split at h;·exact h.elim
  ·rename_i e;simp only[gj]at e;subst e;split at h<;>first
    |exact h.elim
    |(obtain⟨a,h⟩:=h;exact⟨_,λw=>by simp[binOp,Op.intDiv,a],h⟩)
    |exact⟨_,λw=>by simp[binOp,Op.intArith,Op.intBits,Op.intCmp,bV,iG,oK,xF],h⟩
def Uj{op:BinOp}{t:TypeId}{s u:ByteArray}{f:Value->Prop}(h:rm op s u f):
  ∃v,(∀w,(binOp op t (.string s) (.string u)).run P w=.ok v w)/\f v:=by
 unfold rm at h;split at h
 ·obtain⟨a,h⟩:=h;refine⟨_,λw=>?_,h⟩;have:¬ ((s.size+u.size:Nat):Int)>i64.max:=by simp[IntKind.max,IntKind.bits,IntKind.signed];omega
  simp only[binOp,Op.stringOp,bJ this,Sem.run_pure]
 ·exact⟨_,λw=>by simp[binOp,Op.stringOp],h⟩
 ·exact⟨_,λw=>by simp[binOp,Op.stringOp],h⟩
 ·exact⟨_,λw=>by simp[binOp,Op.stringOp],h⟩
 ·exact h.elim
def Bu(a b:Value):Prop:=match a,b with | .nilIface,.nilIface=>False | .agg _,.agg _=>False|_,_=>True
def sR{op:BinOp}{t:TypeId}{x y:Operand}{a b:Value}(h:Bu a b):
  (eqGuard op t x y a b).run P w=.ok () w:=by
 unfold eqGuard;cases op<;>cases a<;>cases b<;>first|exact h.elim|simp
def Hy{t:TypeId}(h:xG P t=true):P.underlying t=some .bool:=by
 unfold xG at h;split at h<;>simp_all
def Bv{t:TypeId}(h:pM P t=true):P.underlying t=some .string:=by
 unfold pM at h;split at h<;>simp_all
def Hz{t:TypeId}(h:xH P t=true):∃e,P.underlying t=some (.pointer e):=by
 unfold xH at h;split at h<;>simp_all
def Bw{t:TypeId}(h:uZ P t=true):∃e,P.underlying t=some (.slice e):=by
 unfold uZ at h;split at h<;>simp_all
def HA{t:TypeId}(h:xI P t=true):∃e e',P.underlying t=some (.map e e'):=by
 unfold xI at h;split at h<;>simp_all
def sS{t:TypeId}{x y:Value}{b:Bool}(h:(Op.equalIn 10000 t x y).run P w=.ok b w):(Op.equal t x y).run P w=.ok b w:=h
def run_equal_bool{t:TypeId}{p q:Bool}(h:P.underlying t=some .bool):(Op.equal t (.bool p) (.bool q)).run P w=.ok (p==q) w:=by
 apply sS;rw[Op.equalIn];simp[hH h]
def HB{t e:TypeId}{p:cg}(h:P.underlying t=some (.pointer e)):(Op.equal t (.pointer p) (.pointer none)).run P w=.ok p.isNone w:=by
 apply sS;rw[Op.equalIn];cases p<;>simp[hH h]
def HC{t e:TypeId}{p:cg}{n c n' c':Nat}(h:P.underlying t=some (.slice e)):(Op.equal t (.slice p n c) (.slice none n' c')).run P w=.ok p.isNone w:=by
 apply sS;rw[Op.equalIn];cases p<;>simp[hH h]
def HD{t e e':TypeId}{r:Option Nat}(h:P.underlying t=some (.map e e')):(Op.equal t (.map r) (.map none)).run P w=.ok r.isNone w:=by
 apply sS;rw[Op.equalIn];cases r<;>simp[hH h]
def xK{op:BinOp}{t:TypeId}{x y:Value}{f:Value->Prop}(h:xJ P op t x y f):
  (∀d e w,(eqGuard op t d e x y).run P w=.ok () w)/\∃v,(∀w,(binOp op t x y).run P w=.ok v w)/\f v:=by
 unfold xJ at h;split at h;·obtain⟨b,⟨h1,a⟩,c⟩:=h;exact⟨h1,_,a,c⟩
 ·obtain⟨b,⟨h1,a⟩,c⟩:=h;exact⟨h1,_,a,c⟩
 ·exact h.elim
def Uk{op:BinOp}{t:TypeId}{x y:Value}{f:Value->Prop}(h:u0 P op t x y f):
  (∀a b w,(eqGuard op t a b x y).run P w=.ok () w)/\∃v,(∀w,(binOp op t x y).run P w=.ok v w)/\f v:=by
 cases x<;>cases y<;>try (exact xK h)
 case bool.bool p q=>
  refine⟨λ_ _ _=>sR trivial,?_⟩
  replace h:(match(generalizing:=false) xG P t,op with|true,.eql=>f (.bool (p==q))|true,.neq=>f (.bool (!(p==q)))|_,_=>False):=h
  split at h;·rename_i e;exact⟨_,λw=>by simp[binOp,run_equal_bool (Hy e)],h⟩
  ·rename_i e;exact⟨_,λw=>by simp[binOp,run_equal_bool (Hy e)],h⟩
  ·exact h.elim
 case int.int k m k' n=>exact⟨λ_ _ _=>sR trivial,Ui h⟩
 case string.string s u=>exact⟨λ_ _ _=>sR trivial,Uj h⟩
 case pointer.pointer p q=>
  cases q with
  |some q=>exact xK h
  |none=>
   refine⟨λ_ _ _=>sR trivial,?_⟩
   replace h:(match(generalizing:=false) xH P t,op with|true,.eql=>f (.bool p.isNone)|true,.neq=>f (.bool (!p.isNone))|_,_=>False):=h
   split at h;·rename_i e;obtain⟨_,e⟩:=Hz e;exact⟨_,λw=>by simp[binOp,HB e],h⟩
   ·rename_i e;obtain⟨_,e⟩:=Hz e;exact⟨_,λw=>by simp[binOp,HB e],h⟩
   ·exact h.elim
 case slice.slice p n c q n' c'=>
  cases q with
  |some q=>exact xK h
  |none=>
   refine⟨λ_ _ _=>sR trivial,?_⟩
   replace h:(match(generalizing:=false) uZ P t,op with|true,.eql=>f (.bool p.isNone)|true,.neq=>f (.bool (!p.isNone))|_,_=>False):=h
   split at h;·rename_i e;obtain⟨_,e⟩:=Bw e;exact⟨_,λw=>by simp[binOp,HC e],h⟩
   ·rename_i e;obtain⟨_,e⟩:=Bw e;exact⟨_,λw=>by simp[binOp,HC e],h⟩
   ·exact h.elim
 case map.map r q=>
  cases q with
  |some q=>exact xK h
  |none=>
   refine⟨λ_ _ _=>sR trivial,?_⟩
   replace h:(match(generalizing:=false) xI P t,op with|true,.eql=>f (.bool r.isNone)|true,.neq=>f (.bool (!r.isNone))|_,_=>False):=h
   split at h;·rename_i e;obtain⟨_,_,e⟩:=HA e;exact⟨_,λw=>by simp[binOp,HD e],h⟩
   ·rename_i e;obtain⟨_,_,e⟩:=HA e;exact⟨_,λw=>by simp[binOp,HD e],h⟩
   ·exact h.elim
def Ul{op:UnOp}{x:Value}{f:Value->Prop}(h:Bl op x f):∃v,(∀w,(Op.unary op x).run P w=.ok v w)/\f v:=by
 unfold Bl at h;split at h;·exact⟨_,λw=>by simp[Op.unary],h⟩
 ·exact⟨_,λw=>by simp[Op.unary,Op.intArith],h⟩
 ·exact⟨_,λw=>by simp[Op.unary,Op.intBits,oL],h⟩
 ·exact h.elim
def Um{o:Oper}{ev:Operand->Value}{x:Operand}{f:Value->Prop}(ho:o.op=.nilCheck x)(h:rj (ev x) f):
  ∃v,(∀w,(execOp ev o).run P w=.ok (.value v) w)/\f v:=by
 unfold rj at h;split at h
 ·rename_i p e;obtain⟨q,rfl,h⟩:=h;exact⟨_,λw=>by simp[execOp,ho,e],h⟩
 ·rename_i g fi ca e;exact⟨_,λw=>by simp[execOp,ho,e],h⟩
 ·exact h.elim
def Un{s:TypeId}{i o:Nat}(h:rk P s i=some o):∃fs fd n,P.underlying s=some (.struct fs)/\fs[i]?=some fd/\h7 P fd.type=some (n+1)/\fd.offset=o:=by
 unfold rk at h;split at h
 ·rename_i fs a;split at h
  ·rename_i fd b;split at h
   ·rename_i n c;exact⟨fs,fd,n,a,b,c,cQ h⟩
   ·cases h
  ·cases h
 ·cases h
def Uo{s:TypeId}{x:Value}{i:Nat}{f:Value->Prop}(h:Bj P s x i f):∃v,(∀w,(Instr.fieldAt s x i).run P w=.ok v w)/\f v:=by
 unfold Bj at h;split at h
 ·rename_i a;split at h
  ·rename_i o e;obtain⟨fs,fd,n,b,c,d,rfl⟩:=Un e;exact⟨_,λw=>by simp[Instr.fieldAt,hH b,c,Instr.sureAddr,fieldPlace,run_sizeOf d],h⟩
  ·exact h.elim
 ·exact h.elim
def Up{k:K1}{t:TypeId}{x:Value}{f:Value->Prop}(h:pK P k t x w f):∃v,(∀w',Grow w w'->(Instr.loadAt t x).run P w'=.ok v w')/\f v:=by
 unfold pK at h;split at h
 ·obtain⟨v,h1,a⟩:=Hu h;exact⟨v,λw' g=>by simp[Instr.loadAt,Instr.sureAddr,h1 w' g],a⟩
 ·exact h.elim
def Uq{s d:TypeId}{x:Value}{w:World}{f:Value->Prop}(a:(P.underlying s).isSome=true)(h:Bt P s d x w f):∃v,(∀w',Grow w w'->(convert s d x).run P w'=.ok v w')/\f v:=by
 obtain⟨c,a⟩:=kq.1 a;unfold Bt at h;split at h
 ·rename_i k k' n e;exact⟨_,λw _=>by simp[convert,hH a,hH e,Conv.intToInt],h⟩
 ·rename_i s e;exact⟨_,λw _=>by simp[convert,hH a,hH e],h⟩
 ·obtain⟨l,h1,b⟩:=h;exact⟨_,h1,b⟩
 ·exact h.elim
def Ur{t:TypeId}{x i:Value}{f:Value->Prop}(h:Bm P t x i f):∃v,(∀w,(Instr.index t x i).run P w=.ok v w)/\f v:=by
 unfold Bm at h;split at h
 ·rename_i s k i;split at h
  ·rename_i e;obtain⟨a,b,c,h⟩:=h;exact⟨_,λw=>by simp[Instr.index,asIntOf,hH (Bv e),a,c],h⟩
  ·exact h.elim
 ·exact h.elim
def HE{t:TypeId}{m:Nat}(h:oM P t=some m):∃e,P.underlying t=some (.slice e)/\h7 P e=some m:=by
 unfold oM at h;split at h;·rename_i e he;exact⟨e,he,h⟩
 ·cases h
def xL{t:TypeId}{n m:Nat}(h:lU P t=some (n,m)):∃e,P.underlying t=some (.array n e)/\h7 P e=some m:=by
 unfold lU at h;split at h
 ·rename_i n' e he;split at h
  ·rename_i b hm;injection h with h;injection h with h1 a;subst h1;subst a
   exact⟨e,he,hm⟩
  ·cases h
 ·cases h
def Us{t:TypeId}{x i:Value}{f:Value->Prop}(h:Bn P t x i f):∃v,(∀w,(Instr.indexAt t x i).run P w=.ok v w)/\f v:=by
 unfold Bn at h;split at h
 ·rename_i p n c k i;split at h
  ·rename_i m e;obtain⟨e,b,d⟩:=HE e;obtain⟨a,rfl,g,h⟩:=h;exact⟨_,λw=>by simp[Instr.indexAt,asIntOf,hH b,g,run_sizeOf d],h⟩
  ·exact h.elim
 ·rename_i p k i;split at h
  ·rename_i n m e;obtain⟨e,b,d⟩:=xL e;obtain⟨a,rfl,g,h⟩:=h;exact⟨_,λw=>by simp[Instr.indexAt,asIntOf,hH b,g,run_sizeOf d,Instr.sureAddr],h⟩
  ·exact h.elim
 ·exact h.elim
def Ut{t:TypeId}{cs:Array Value}{off:Nat}{v:Value}(h:Bo P t cs off=some v):(part t cs off).run P w=.ok v w:=by
 unfold Bo at h;split at h
 ·rename_i n a b;injection h with h;subst h
  simp[part,uY a,run_sizeOf b]
 ·rename_i a;simp[part,uY a,h]
 ·cases h
def Uu{t:TypeId}{x:Value}{i:Nat}{f:Value->Prop}(h:Bp P t x i f):∃v,(∀w,(Instr.field t x i).run P w=.ok v w)/\f v:=by
 unfold Bp at h;split at h
 ·rename_i fs cs e;split at h
  ·rename_i fd a;split at h
   ·rename_i v b;exact⟨v,λw=>by simp[Instr.field,hH e,a,asAgg,Ut b],h⟩
   ·exact h.elim
  ·exact h.elim
 ·exact h.elim
def Uv{x:Value}{i:Nat}{f:Value->Prop}(h:Bq x i f):∃v,(∀w,(Instr.extract x i).run P w=.ok v w)/\f v:=by
 unfold Bq at h;split at h
 ·split at h;·rename_i v e;exact⟨v,λw=>by simp[Instr.extract,e],h⟩
  ·exact h.elim
 ·exact h.elim
def Bx{s:Bool}{n m:Nat}{g e j:Option Value}{f:Nat->Nat->Nat->Prop}(h:u1 n m g e j f):
  ∃l k c,(∀w,(Instr.sliceBounds s n m g e j).run P w=.ok (l,k,c) w)/\f l k c:=by
 have bound:∀(w:World) (k:IntKind) (i:Int) (y:Nat) (code:BoundsCode),0<=i/\i<=y->(Instr.sliceBound (.int k i) y code).run P w=.ok i.toNat w:=by
  intro w k i y code a;simp[Instr.sliceBound,asIntOf,a]
 unfold u1 at h;dsimp only at h;split at h
 ·split at h;·exact⟨_,_,_,λw=>by simp[Instr.sliceBounds],h⟩
  ·obtain⟨a,h⟩:=h;exact⟨_,_,_,λw=>by simp[Instr.sliceBounds,bound _ _ _ _ _ a],h⟩
  ·exact h.elim
 ·obtain⟨a,h⟩:=h;split at h;·exact⟨_,_,_,λw=>by simp[Instr.sliceBounds,bound _ _ _ _ _ a],h⟩
  ·obtain⟨b,h⟩:=h;exact⟨_,_,_,λw=>by simp[Instr.sliceBounds,bound _ _ _ _ _ a,bound _ _ _ _ _ b],h⟩
  ·exact h.elim
 ·obtain⟨a,d,h⟩:=h;split at h;·exact⟨_,_,_,λw=>by simp[Instr.sliceBounds,bound _ _ _ _ _ a,bound _ _ _ _ _ d],h⟩
  ·obtain⟨b,h⟩:=h;exact⟨_,_,_,λw=>by simp[Instr.sliceBounds,bound _ _ _ _ _ a,bound _ _ _ _ _ d,bound _ _ _ _ _ b],h⟩
  ·exact h.elim
 ·exact h.elim
def Uw{t:TypeId}{x:Value}{j i o:Option Value}{f:Value->Prop}(h:Br P t x j i o f):
  ∃v,(∀w,(Instr.sliceAt t x j i o).run P w=.ok v w)/\f v:=by
 unfold Br at h;split at h
 ·rename_i p n c;split at h
  ·rename_i m e;obtain⟨e,d,g⟩:=HE e;obtain⟨l,k,c',b,h⟩:=Bx (P:=P) (s:=true) h;exact⟨_,λw=>by simp only[Instr.sliceAt,Instr.slice,Sem.run_bind,hH d,Result.andThen_ok,b,run_sizeOf g,Sem.run_pure,gb],h⟩
  ·exact h.elim
 ·rename_i s;split at h
  ·rename_i e;obtain⟨l,k,c',b,h⟩:=Bx (P:=P) (s:=false) h;exact⟨_,λw=>by simp only[Instr.sliceAt,Instr.slice,Sem.run_bind,hH (Bv e),Result.andThen_ok,b,Sem.run_pure,T3,kK,gq],h⟩
  ·exact h.elim
 ·rename_i a;split at h
  ·rename_i n m e;obtain⟨e,d,g⟩:=xL e;obtain⟨l,k,c',b,h⟩:=Bx (P:=P) (s:=false) h;exact⟨_,λw=>by simp only[Instr.sliceAt,Instr.sureAddr,Sem.run_bind,hH d,Result.andThen_ok,b,run_sizeOf g,Sem.run_pure,nc],h⟩
  ·exact h.elim
 ·exact h.elim
def Ux{b:Builtin}{ts:Array TypeId}{t:TypeId}{args:Array Value}{f:Value->Prop}(h:Bs P b ts args f):
  ∃v,(∀cs w,(builtin b ts t cs args).run P w=.ok (.value v) w)/\f v:=by
 unfold Bs at h;split at h
 ·rename_i t0 d;obtain⟨args⟩:=args;unfold Hv at h;split at h
  ·split at h;·rename_i e;obtain⟨_,e⟩:=Bw e;exact⟨_,by intro cs w;simp_all[builtin,Builtin.len_,hH e,goInt],h⟩
   ·exact h.elim
  ·split at h;·rename_i e;exact⟨_,by intro cs w;simp_all[builtin,Builtin.len_,hH (Bv e),goInt],h⟩
   ·exact h.elim
  ·split at h
   ·rename_i c e;split at h;·rename_i n m a;obtain⟨_,a,_⟩:=xL a;exact⟨_,by intro cs w;simp_all[builtin,Builtin.len_,hH e,hH a,goInt],h⟩
    ·exact h.elim
   ·exact h.elim
  ·split at h;·rename_i e;obtain⟨_,e,_⟩:=xL e;exact⟨_,by intro cs w;simp_all[builtin,Builtin.len_,hH e,goInt],h⟩
   ·exact h.elim
  ·exact⟨_,by intro cs w;simp_all[builtin,Builtin.min_,Builtin.min2,min1],h⟩
  ·exact⟨_,by intro cs w;simp_all[builtin,Builtin.max_,Builtin.max2,dy],h⟩
  ·exact h.elim
 ·exact h.elim
def HF:∀(l:List Field) (r:List (Nat×Nat)),(l.mapM λf=>(h7 P f.type).map λn=>(f.offset,n))=some r->
  (l.mapM λf=>(do pure (f.offset,<- sizeOf f.type):Sem (Nat×Nat))).run P w=.ok r w
 |[],r,h=>by simp at h;subst h;simp
 |f::l,r,h=>by
  rw[Hg]at h;cases a:h7 P f.type with
  |none=>simp[a]at h
  |some n=>
   cases b:l.mapM λf=>(h7 P f.type).map λn=>(f.offset,n)with
   |none=>simp[a,b]at h
   |some r'=>
    simp[a,b]at h;subst h;have c:=HF l r' b;simp only[Sem.run_bind,Sem.run_pure,Hg]at c ⊢;simp only[run_sizeOf a,Result.andThen_ok,c]
def Uy{t:TypeId}{ps:Array (Nat×Value)}{f:Value->Prop}(h:u2 P t ps f):∃v,(∀w,(Instr.build t ps).run P w=.ok v w)/\f v:=by
 unfold u2 at h;split at h
 ·rename_i cs e;refine⟨_,λw=>?_,h⟩;unfold Hw at e;split at e
  ·rename_i z fs a hu;split at e
   ·rename_i l b;have hm:=HF (w:=w) _ _ b;simp only[Instr.build,Sem.run_bind,xE a,Result.andThen_ok,hH hu,Array.mapM_eq_mapM_toList,Sem.run_map,hm];simp[e]
   ·cases e
  ·rename_i z n el a hu;split at e
   ·rename_i m hm;simp[Instr.build,xE a,hH hu,run_sizeOf hm,e]
   ·cases e
  ·cases e
 ·exact h.elim
def u4{τ:TypeId->K1}{ρ:TypeId->Kd}{o:Oper}{ev:Operand->Value}{f:Value->Prop}(j:∀s d x,o.op=.convert s d x->(P.underlying s).isSome=true)(h:vQ P τ ρ o ev w f):
  ∃v,(∀w',(ji o.op=true->Grow w w')->(execOp ev o).run P w'=.ok (.value v) w')/\f v:=by
 unfold vQ at h;split at h;·rename_i x ho;exact⟨_,λw' _=>by simp[execOp,ho],h⟩
 ·rename_i x ho;exact⟨_,λw' _=>by simp[execOp,ho],h⟩
 ·rename_i c x y ho;obtain⟨v,h1,a⟩:=Uh (P:=P) h;exact⟨v,λw' _=>by simpa[execOp,ho]using h1 w',a⟩
 ·rename_i x ho;obtain⟨v,h1,a⟩:=Um (P:=P) ho h;exact⟨v,λw' _=>h1 w',a⟩
 ·rename_i s x i ho;obtain⟨v,h1,a⟩:=Uo h;exact⟨v,λw' _=>by simp[execOp,ho,h1],a⟩
 ·rename_i t x ho;obtain⟨v,h1,a⟩:=Up h;exact⟨v,λw' g=>by simp[execOp,ho,h1 w' (g (by rw[ho];rfl))],a⟩
 ·rename_i op t x y u ho;obtain⟨l,v,h1,a⟩:=Uk h;exact⟨v,λw' _=>by simp[execOp,ho,l,h1],a⟩
 ·rename_i op t x ho;obtain⟨v,h1,a⟩:=Ul (P:=P) h;exact⟨v,λw' _=>by simp[execOp,ho,h1],a⟩
 ·rename_i s d x ho;obtain⟨v,h1,a⟩:=Uq (j s d x ho) h;exact⟨v,λw' g=>by simp[execOp,ho,h1 w' (g (by rw[ho];rfl))],a⟩
 ·rename_i t x i ho;obtain⟨v,h1,a⟩:=Ur h;exact⟨v,λw' _=>by simp[execOp,ho,h1],a⟩
 ·rename_i t x i ho;obtain⟨v,h1,a⟩:=Us h;exact⟨v,λw' _=>by simp[execOp,ho,h1],a⟩
 ·rename_i t x i ho;obtain⟨v,h1,a⟩:=Uu h;exact⟨v,λw' _=>by simp[execOp,ho,h1],a⟩
 ·rename_i t i ho;obtain⟨v,h1,a⟩:=Uv (P:=P) h;exact⟨v,λw' _=>by simp[execOp,ho,h1],a⟩
 ·rename_i t x q p r ho;obtain⟨v,h1,a⟩:=Uw h;exact⟨v,λw' _=>by simp[execOp,ho,h1],a⟩
 ·rename_i t ps ho;obtain⟨v,h1,a⟩:=Uy h;exact⟨v,λw' _=>by simp[execOp,ho,h1],a⟩
 ·rename_i t x ho;split at h
  ·rename_i e;refine⟨_,λw' _=>?_,h⟩;unfold Hx at e;split at e;·cases e
   ·rename_i d n hu;simp only[execOp,ho,Instr.makeInterface,Sem.run_bind,hH hu,Result.andThen_ok];cases d<;>first|rfl|exact(n _ rfl).elim
   ·cases e
  ·exact h.elim
 ·rename_i t m k ok ho;obtain⟨v,h1,a⟩:=Kd.eT h;exact⟨v,λw' g=>by simp[execOp,ho,h1 w' (g (by rw[ho];rfl))],a⟩
 ·rename_i fn fi ca ho;exact⟨_,λw' _=>by simp[execOp,ho,Instr.makeFunc],h⟩
 ·rename_i b args ts ho;obtain⟨v,h1,a⟩:=Ux (t:=o.type) h;exact⟨v,λw' _=>by simp[execOp,ho,resolve,invoke,h1],a⟩
 ·exact h.elim
end
end Go.Vc
namespace Go.Vc
open Go
def eP(w:World)(a:Addr):Prop:=(∃v,w.cell? a=some v)/\w.frozen? a=false
def sT:List Value->Addr->Nat->World->(bh6)->Prop
 |[],_,_,w,f=>f w
 |v::l,a,i,w,f=>eP w (a.add i)/\sT l a (i+1) (w.setCell (a.add i) v) f
def sU(w:World)(a:Addr)(i:Nat):List Value->World
 |[]=>w
 |v::l=>sU (w.setCell (a.add i) v) a (i+1) l
def u5(n:Nat)(k:IntKind)(v:Value)(a:Addr)(w:World)(f:bh6):Prop:=
 ∃b:bU,v=.agg (b.map (Value.int k)).toArray/\b.length=n/\(∀i,i<n->eP w (a.add i))/\f (sU w a 0 (b.map (Value.int k)))
def St(a:Addr)(v:Value)(f:bh6)(w:World):Prop:=eP w a/\f (w.setCell a v)
def jt(vs:List Value)(a:Addr)(f:bh6)(w:World):Prop:=sT vs a 0 w f
def sV(P:Program)(k:K1)(t:TypeId)(x v:Value)(w:World)(f:bh6):Prop:=
 match x with
 |.pointer (some a)=>match k with
  |.one _=>match h7 P t with
   |some 1=>match v.oneCell' with
    |true=>St a v f w
    |false=>False
   |_=>False
  |.agg _=>match v with
   |.agg cs=>match h7 P t with
    |some n=>bif n==cs.size&&cs.toList.all (·.oneCell')then jt cs.toList a f w else False
    |none=>False
   |_=>False
  |.arr n k=>match h7 P t with
   |some m=>bif m==n then u5 n k v a w f else False
   |none=>False
 |_=>False
def Al(o:Obj)(f:Addr->bh6)(w:World):Prop:=f ⟨w.heap.size,0,none⟩ (w.alloc o)
def mE(f:Nat->bh6)(w:World):Prop:=f w.heap.size (w.alloc (.map #[] 0))
def HG(P:Program)(t:TypeId)(n:Nat)(ps:List (Nat×Value)):Option (TypeId×Array Value):=
 match P.underlying t with
 |some (.slice e)=>match h7 P e,pJ P e with
  |some m,some z=>match decide (n*m<=2^24)&&(decide (0<n*m)||Nat.beq n 0),Instr.fill (λi=>some (i*m,m)) (((List.replicate n z.cells.toList).flatten).toArray) ps with
   |true,some cs=>bif m==z.cells.size then some (e,cs)else none
   |_,_=>none
  |_,_=>none
 |_=>none
def HH(P:Program)(t:TypeId)(n:Nat)(ps:Array (Nat×Value))(f:bh7)(w:World):Prop:=
 match HG P t n ps.toList with
 |some (e,cs)=>Al (.cells cs e) (λq=>f (.slice (some q) n n)) w
 |none=>False
def Uz(P:Program)(g:FuncId)(args:Array Value)(k:Kd)(w:World)(f:bh7):Prop:=
 Calls P g args w λe w'=>k.ex λv=>e=.returned v/\f v w'
def UA(P:Program)(g:FuncId)(args:Array Value)(k:Kd)(w:World)(f:bh7)(p:List PanicEntry->bh6):Prop:=
 Calls P g args w λe w'=>(k.ex λv=>e=.returned v/\f v w')\/∃a,e=.panicked a/\p a w'
def Bz(P:Program)(cz:FuncId->Bool)(g:Value)(args:Array Value)(k:Kd)(w:World)(f:bh7)(p:List PanicEntry->bh6):Prop:=
 match g with
 |.func (.func g) fi ca=>match P.funcs[g]? with
  |some fn=>match fn.body.isSome&& !(fn.name== "runtime.NumGoroutine")with
   |true=>bif cz g then UA P g (fi++args++ca) k w f p else Uz P g (fi++args++ca) k w f
   |false=>False
  |none=>False
 |_=>False
def ky(P:Program)(g:FuncId):Bool:=match P.funcs[g]? with
 |some fn=>fn.body.isSome&& !(fn.name== "runtime.NumGoroutine")
 |none=>false
def eX(P:Program)(g:Value)(args:Array Value)(w:World)(R:Ending->bh6):Prop:=
 ∃(h:FuncId) (ca:Array Value),g=.func (.func h) #[] ca/\ky P h=true/\Calls P h (args++ca) w R
def HI(P:Program)(g:Value)(args:Array Value)(k:Kd)(w:World)(f:bh7):Prop:=
 eX P g args w λe w'=>k.ex λv=>e=.returned v/\f v w'
def dU(P:Program)(s:Sem Value)(k:Kd)(w:World)(f:bh7):Prop:=k.ex λv=>∃w',s.run P w=.ok v w'/\f v w'
def UB(P:Program)(it:Value)(str:Bool)(t:TypeId)(w:World)(f:bh7):Prop:=
 (∃w',(Instr.next it str t).run P w=.ok (.tuple #[.bool false]) w'/\f (.tuple #[.bool false]) w')\/
 (match str with
  |true=>∃k c:Int,∃w',(Instr.next it true t).run P w=.ok (.tuple #[.bool true,.int .i64 k,.int .i32 c]) w'/\f (.tuple #[.bool true,.int .i64 k,.int .i32 c]) w'
  |false=>∃k v:Value,∃w',(Instr.next it false t).run P w=.ok (.tuple #[.bool true,k,v]) w'/\f (.tuple #[.bool true,k,v]) w')
def oN(P:Program)(s:Sem Unit)(w:World)(f:bh6):Prop:=∃w',s.run P w=.ok () w'/\f w'
structure dS where
 quiet:Nat->Bool:=λ_=>false
 dyn:Nat->Bool:=λ_=>false
 BA:Nat->List K1:=λ_=>[.one .raw,.one .raw]
 calm:Nat->Bool:=λ_=>false
 sig:Nat->Option (List (List Nat)×List Nat):=λ_=>none
 fork:Nat->Bool:=λ_=>false
 head:Nat->Nat:=λ_=>0
 loop:Nat->List (Nat×C1):=λ_=>[]
 goto:Nat->Option (List (Nat×C1)):=λ_=>none
 brk:Option Nat:=none
 join:Nat->Option (List (Nat×C1)):=λ_=>none
def u6(A:dS)(o:Oper):Bool:=match o.dst with|some d=>A.dyn d|none=>false
def UC:Op->Bool
 |.move _ | .assign _ | .pick .. | .nilCheck _ | .fieldAddr .. | .load .. | .unOp .. | .indexAddr .. | .field .. | .extract .. | .slice .. | .makeFunc .. | .build .. | .makeInterface .. | .lookup .. =>true
 |_=>false
def vE(P:Program)(τ:TypeId->K1)(ρ:TypeId->Kd)(cz:FuncId->Bool)(A:dS)(o:Oper)(ev:Operand->Value)(w:World)(f:bh7)(p:List PanicEntry->bh6):Prop:=
 match o.op with
 |.store t x v=>sV P (τ t) t (ev x) (ev v) w (f undef)
 |.box t x=>Al (.cells (ev x).cells t) (λq=>f (.pointer (some q))) w
 |.alloc t=>match pJ P t with
  |some z=>Al (.cells z.cells t) (λq=>f (.pointer (some q))) w
  |none=>False
 |.call {callee:=.value g,args,.. } =>bif u6 A o then HI P (ev g) (args.map ev) (ρ o.type) w f else Bz P cz (ev g) (args.map ev) (ρ o.type) w f p
 |.call {callee:=.builtin .append,args,argTypes} =>dU P (Builtin.append_ argTypes o.type (args.map ev)) (ρ o.type) w f
 |.call {callee:=.builtin .copy,args,argTypes} =>dU P (Builtin.copy_ argTypes o.type (args.map ev)) (ρ o.type) w f
 |.call {callee:=.builtin .delete,args,argTypes} =>dU P (Builtin.delete_ argTypes o.type (args.map ev)) (ρ o.type) w f
 |.call {callee:=.builtin .clear,args,argTypes} =>dU P (Builtin.clear_ argTypes o.type (args.map ev)) (ρ o.type) w f
 |.call {callee:=.builtin .len,args,argTypes} =>dU P (Builtin.len_ argTypes o.type (args.map ev)) (ρ o.type) w f
 |.call {callee:=.builtin .cap,args,argTypes} =>dU P (Builtin.cap_ argTypes o.type (args.map ev)) (ρ o.type) w f
 |.buildSlice t n ps=>HH P t n (ps.map λ(i,x)=>(i,ev x)) f w
 |.makeSlice t l c=>dU P (Instr.makeSlice t (ev l) (ev c)) (ρ o.type) w f
 |.makeMap _ none=>mE (λq=>f (.map (some q))) w
 |.mapUpdate t m k x=>oN P (Instr.mapUpdate t (ev m) (ev k) (ev x)) w (f undef)
 |.insert t m k x=>oN P (Instr.mapUpdate t (ev m) (ev k) (ev x)) w (f undef)
 |.mapEntry t m k=>dU P (Instr.mapEntry t (ev m) (ev k)) (ρ o.type) w f
 |.entryStore t m s x=>oN P (Instr.entryStore t (ev m) (ev s) (ev x)) w (f undef)
 |.range t x=>dU P (Instr.range t (ev x)) (.k (.one .ptr)) w f
 |.next it s=>UB P (ev it) s o.type w f
 |.entry it=>match o.dst with
  |some d=>xD (A.BA d) #[] λvs=>∃w',(Instr.entry (ev it)).run P w=.ok (.tuple vs) w'/\f (.tuple vs) w'
  |none=>False
 |.convert s d x=>dU P (convert s d (ev x)) (ρ o.type) w f
 |.index t x i=>dU P (Instr.index t (ev x) (ev i)) (ρ o.type) w f
 |.binOp op t x y _=>dU P (do eqGuard op t x y (ev x) (ev y);binOp op t (ev x) (ev y)) (ρ o.type) w f
 |.typeAssert x t u ok=>dU P (Instr.typeAssert (ev x) t u ok) (ρ o.type) w f
 |.panic x=>match ev x with
  |.iface t v=>p [{v:=.iface t v,recovered:=false}] w
  |_=>False
 |_=>False
def HJ(A:dS)(o:Oper):Bool:=UC o.op||(match o.dst with|some d=>A.quiet d|none=>false)
def nd(P:Program)(τ:TypeId->K1)(ρ:TypeId->Kd)(cz:FuncId->Bool)(A:dS)(o:Oper)(T:Tr)(w:World)(next:Tr->bh6)(Q:Exit->Tr->bh6):Prop:=
 bif HJ A o then vQ P τ ρ o T.ev w (λv=>next (T.put o.dst v) w)
 else vE P τ ρ cz A o T.ev w (λv w'=>next (T.put o.dst v) w') (λa w'=>Q (.panic a) T w')
def j0(ops:Array Oper)(o:Oper)(T:Tr)(yes no:Tr->Prop):Prop:=
 match o.guard with
 |none=>yes T
 |some (j,want)=>match(ops[j]?).bind (·.dst)with
  |none=>False
  |some d=>match T.get d with
   |.bool b=>bif b then(bif want then yes (T.put (some d) (.bool true))else no (T.put (some d) (.bool true)))
     else(bif want then no (T.put (some d) (.bool false))else yes (T.put (some d) (.bool false)))
   |.tuple _=>no T
   |_=>False
def kL(P:Program)(τ:TypeId->K1)(ρ:TypeId->Kd)(cz:FuncId->Bool)(A:dS)(ops:Array Oper)(Q:Exit->Tr->bh6):List Oper->Tr->bh6
 |[],T,w=>Q .normal T w
 |o::rest,T,w=>j0 ops o T (λT=>nd P τ ρ cz A o T w (kL P τ ρ cz A ops Q rest) Q) (λT=>kL P τ ρ cz A ops Q rest (T.put o.dst undef) w)
def u7(P:Program)(τ:TypeId->K1)(ρ:TypeId->Kd)(ops:Array Oper)(w:World)(Q:Tr->Prop):List Oper->Tr->Prop
 |[],T=>Q T
 |o::rest,T=>j0 ops o T (λT=>vQ P τ ρ o T.ev w (λv=>u7 P τ ρ ops w Q rest (T.put o.dst v))) (λT=>u7 P τ ρ ops w Q rest (T.put o.dst undef))
def UD(P:Program)(g:FuncId)(args:Array Value)(k:Kd)(w:World)(f:Value->Prop):Prop:=
 k.ex λv=>(∀a,Grow w a->Calls P g args a λe w2=>e=.returned v/\Grow a w2)/\f v
def HK(P:Program)(g:Value)(args:Array Value)(k:Kd)(w:World)(f:Value->Prop):Prop:=
 match g with
 |.func (.func g) fi ca=>match ky P g with
  |true=>UD P g (fi++args++ca) k w f
  |false=>False
 |_=>False
def BB(P:Program)(τ:TypeId->K1)(ρ:TypeId->Kd)(o:Oper)(ev:Operand->Value)(w:World)(f:Value->Prop):Prop:=
 match o.op with
 |.call {callee:=.value g,args,.. } =>HK P (ev g) (args.map ev) (ρ o.type) w f
 |_=>vQ P τ ρ o ev w f
def oO(P:Program)(τ:TypeId->K1)(ρ:TypeId->Kd)(ops:Array Oper)(w:World)(Q:Tr->Prop):List Oper->Tr->Prop
 |[],T=>Q T
 |o::rest,T=>j0 ops o T (λT=>BB P τ ρ o T.ev w (λv=>oO P τ ρ ops w Q rest (T.put o.dst v))) (λT=>oO P τ ρ ops w Q rest (T.put o.dst undef))
def HL(ops:Array Oper)(j:Nat)(sub:Nat->Nat):Nat:=match ops[j]? with
 |none=>0
 |some o=>o.after.toList.foldl (λs e=>bif Region.binds .any e then s ||| 2^e.on ||| sub e.on else s) 0
def mF(ops:Array Oper):Nat->Nat->Nat
 |0,_=>0
 |f+1,j=>HL ops j (mF ops f)
def rn(P:Program)(τ:TypeId->K1)(ρ:TypeId->Kd)(ops:Array Oper)(T:Tr)(w:World)(next:Prop):List Nat->Prop
 |[]=>next
 |j::l=>match ops[j]? with
  |none=>False
  |some o=>j0 ops o T (λT=>vQ P τ ρ o T.ev w λv=>v=(match o.dst with|some d=>T.get d|none=>v)/\rn P τ ρ ops T w next l) (λT=>rn P τ ρ ops T w next l)
def rp(Q:Exit->Tr->bh6):Exit->Tr->bh6
 |.panic a,_,w=>∀T:Tr,Q (.panic a) T w
 |_,_,_=>False
def sW:List (List Nat)->List Nat->List Nat
 |[],_=>[]
 |[]::C,s=>sW C s
 |(a::_)::C,s=>bif s.contains a then sW C s else a::sW C (a::s)
def j1(h:Nat):List (List Nat)->List (List Nat)
 |[]=>[]
 |[]::C=>j1 h C
 |(a::r)::C=>bif Nat.beq a h then r::j1 h C else j1 h C
def rq(f:Nat->Prop):List Nat->Prop
 |[]=>True
 |[i]=>f i
 |i::j::l=>f i/\rq f (j::l)
def gu(P:Program)(τ:TypeId->K1)(ρ:TypeId->Kd)(cz:FuncId->Bool)(A:dS)(ops:Array Oper)(cp:List Nat)(Q:Exit->Tr->bh6):Nat->List (List Nat)->List Nat->Tr->bh6
 |0,_,_,T,w=>Q .normal T w
 |n+1,C,done,T,w=>rq (λi=>match ops[i]? with
  |none=>False
  |some o=>bif cp.contains i
    then j0 ops o T (λT=>nd P τ ρ cz A o T w (λT' w'=>rn P τ ρ ops T' w' (gu P τ ρ cz A ops cp Q n (j1 i C) done T' w') (done.filter λj=> !(mF ops ops.size i).testBit j)) (rp Q))
     (λT=>gu P τ ρ cz A ops cp Q n (j1 i C) done (T.put o.dst undef) w)
    else j0 ops o T (λT=>vQ P τ ρ o T.ev w λv=>gu P τ ρ cz A ops cp Q n (j1 i C) (bif ji o.op then i::done else done) (T.put o.dst v) w)
     (λT=>gu P τ ρ cz A ops cp Q n (j1 i C) done (T.put o.dst undef) w)) (sW C [])
def Dr(f:bh6)(w:World):Prop:=f w.drew
def BC(f:bh6)(w:World):Prop:=∀w',Grow w w'->f w'
def u9(f:Nat->Prop):List Nat->Prop
 |[]=>True
 |i::l=>f i/\u9 f l
def gK(P:Program)(τ:TypeId->K1)(ρ:TypeId->Kd)(cz:FuncId->Bool)(A:dS)(ops:Array Oper)(Q:Exit->Tr->bh6):Nat->Array Bool->Tr->bh6
 |0,listed,T,w=>match Region.ready .any ops listed with
  |[]=>Q .normal T w
  |_=>False
 |fuel+1,listed,T,w=>match Region.ready .any ops listed with
  |[]=>Q .normal T w
  |i::l=>u9 (λi=>match ops[i]? with
   |none=>False
   |some o=>j0 ops o T (λT=>nd P τ ρ cz A o T w (gK P τ ρ cz A ops Q fuel (listed.setIfInBounds i true)) Q) (λT=>gK P τ ρ cz A ops Q fuel (listed.setIfInBounds i true) (T.put o.dst undef) w)) (i::l)
def va(P:Program)(τ:TypeId->K1)(ρ:TypeId->Kd)(cz:FuncId->Bool)(A:dS)(id:Nat)(ops:Array Oper)(draw:Bool)(Q:Exit->Tr->bh6)(T:Tr)(w:World):Prop:=
 match draw with
 |false=>kL P τ ρ cz A ops Q ops.toList T w
 |true=>match A.sig id with
  |some (C,cp)=>Dr (λw'=>gu P τ ρ cz A ops cp Q ops.size C [] T w') w
  |none=>bif A.fork id then Dr (λw'=>gK P τ ρ cz A ops Q ops.size (Array.replicate ops.size false) T w') w
  else bif A.calm id then oO P τ ρ ops w (λT'=>BC (λw'=>Q .normal T' w') w) ops.toList T
  else Dr (λw'=>u7 P τ ρ ops w' (λT'=>kL P τ ρ cz A ops Q (ops.toList.drop (A.head id)) T' w') (ops.toList.take (A.head id)) T) w
def eI(l:List Oper):List Nat:=l.filterMap (·.dst)
def wr:Code->List Nat
 |.region _ ops _=>eI ops.toList
 |.seq x y=>wr x++wr y
 |.cond _ x y=>wr x++wr y
 |.block _ c=>wr c
 |.loop c=>wr c
 |.scope c=>wr c
 |.rangeFunc _ ps x y=>ps.toList++wr x++wr y
 |_=>[]
def lW:Code->Option Nat
 |.region id _ _=>some id
 |.seq x y=>(lW x).or (lW y)
 |.cond _ x y=>(lW x).or (lW y)
 |.block _ c=>lW c
 |.loop c=>lW c
 |.scope c=>lW c
 |_=>none
def ht:List (Nat×C1)->Type
 |[]=>bh6
 |(_,c)::l=>c.ty->ht l
def hU:List (Nat×C1)->Type
 |[]=>World->Nat
 |(_,c)::l=>c.ty->hU l
def nf:(l:List (Nat×C1))->ht l->Tr->bh6
 |[],a,_,w=>a w
 |(s,c)::l,a,T,w=>match c.un (T.get s)with
  |some x=>nf l (a x) T w
  |none=>False
def sX:(l:List (Nat×C1))->ht l->hU l->Nat->Tr->bh6
 |[],a,b,m,_,w=>a w/\b w<m
 |(s,c)::l,a,b,m,T,w=>match c.un (T.get s)with
  |some x=>sX l (a x) (b x) m T w
  |none=>False
def ng:(l:List (Nat×C1))->ht l->hU l->Tr->(Tr->(bh6)->(World->Nat)->Prop)->Prop
 |[],a,b,T,K=>K T a b
 |(s,c)::l,a,b,T,K=>∀x:c.ty,ng l (a x) (b x) (T.put (some s) (c.mk x)) K
def mG(W:List Nat)(l:List (Nat×C1)):List Nat:=W.filter λs=> !(l.map (·.1)).contains s
noncomputable def mH(u:Nat->Value):List Nat->Tr->Tr
 |[],T=>T
 |s::l,T=>mH u l (T.put (some s) (u s))
def xM(l:List (Nat×C1))(W:List Nat)(body:(Tr->bh6)->Tr->bh6)(T:Tr)(w:World):Prop:=
 ∃(a:ht l) (d:hU l),nf l a T w/\∀u:Nat->Value,ng l a d (mH u (mG W l) T) λT' b c=>∀w',b w'->body (sX l a d (c w')) T' w'
def xN:(l:List (Nat×C1))->hU l
 |[]=> λ_=>0
 |(_,_)::l=> λ_=>xN l
def UE(l:List (Nat×C1))(W:List Nat)(first:(Tr->bh6)->Tr->bh6)(rest:Tr->bh6)(T:Tr)(w:World):Prop:=
 ∃J:ht l,first (nf l J) T w/\∀u:Nat->Value,ng l J (xN l) (mH u (mG W l) T) λT' a _=>∀w',a w'->rest T' w'
def vb(A:dS)(y:Code):Option (List (Nat×C1)):=match lW y with
 |some r=>A.join r
 |none=>none
def mI(next:Tr->bh6)(Q:Exit->Tr->bh6):Exit->Tr->bh6
 |.normal,T,w=>next T w
 |e,T,w=>Q e T w
def UF(id:Nat)(Q:Exit->Tr->bh6):Exit->Tr->bh6
 |.exit a,T,w=>bif Nat.beq a id then Q .normal T w else Q (.exit a) T w
 |e,T,w=>Q e T w
def BD(Q:Exit->Tr->bh6):Exit->Tr->bh6
 |.goto _,_,_=>False
 |e,T,w=>Q e T w
def HM(l:Nat)(J:Tr->bh6)(Q:Exit->Tr->bh6):Exit->Tr->bh6
 |.goto l',T,w=>bif Nat.beq l' l then J T w else False
 |e,T,w=>Q e T w
def xO:Code->Option Nat
 |.label l=>some l
 |.seq x y=>(xO x).or (xO y)
 |_=>none
def HN(l:List (Nat×C1))(W:List Nat)(first pass:(Tr->bh6)->Tr->bh6)(T:Tr)(w:World):Prop:=
 ∃(a:ht l) (d:hU l),first (nf l a) T w/\∀u:Nat->Value,ng l a d (mH u (mG W l) T) λT' b c=>∀w',b w'->pass (sX l a d (c w')) T' w'
def vc(P:Program)(τ:TypeId->K1)(ρ:TypeId->Kd)(cz:FuncId->Bool)(A:dS):Nat->Code->(Exit->Tr->bh6)->Tr->bh6
 |0,_,_,_,_=>False
 |n+1,c,Q,T,w=>match c with
  |.skip=>Q .normal T w
  |.label _=>Q .normal T w
  |.exit id=>Q (.exit id) T w
  |.goto l=>Q (.goto l) T w
  |.ret=>Q .ret T w
  |.region id ops draw=>va P τ ρ cz A id ops draw Q T w
  |.seq x y=>match vb A y with
   |none=>vc P τ ρ cz A n x (mI (vc P τ ρ cz A n y Q) Q) T w
   |some ks=>UE ks (wr x) (λJ=>vc P τ ρ cz A n x (mI J Q)) (vc P τ ρ cz A n y Q) T w
  |.cond c x y=>match T.ev c with
   |.bool t=>bif t then vc P τ ρ cz A n x Q T w else vc P τ ρ cz A n y Q T w
   |_=>False
  |.block id c=>vc P τ ρ cz A n c (UF id Q) T w
  |.scope c=>match xO c with
   |none=>vc P τ ρ cz A n c (BD Q) T w
   |some l=>match A.goto l with
    |none=>vc P τ ρ cz A n c (BD Q) T w
    |some ks=>match findLabel c l with
     |some rest=>HN ks (wr c) (λJ=>vc P τ ρ cz A n c (HM l J Q)) (λJ=>vc P τ ρ cz A n rest (HM l J Q)) T w
     |none=>False
  |.loop c=>xM (A.loop ((lW c).getD 0)) (wr c) (λnext=>vc P τ ρ cz A n c (mI next Q)) T w
  |_=>False
section
variable{P:Program}
def UG{w:World}{a b:Addr}{v:Value}(h:eP w a):eP (w.setCell b v) a:=by
 obtain⟨⟨x,hx⟩,hf⟩:=h;constructor
 ·unfold World.cell? at hx ⊢;unfold World.setCell;simp only[GN];cases d:w.heap[a.block]? with
  |none=>simp[d]at hx
  |some o=>
   simp only[d]at hx;by_cases e:b.block=a.block
   ·simp only[e,fP,jh];cases o with
    |cells c t fr=>
     simp only at hx ⊢;split at hx;·cases hx
     ·rename_i g;simp only[g,gq,kK];have f:a.off<c.size:=by
       rcases gS a.off c.size with h|h;·exact h
       ·simp[xv h]at hx
      split;·exact⟨x,hx⟩
      ·exact⟨_,oH (by simpa using f)⟩
    |_=>simp at hx
   ·simp only[e,gq];cases o with
    |cells c t fr=>exact⟨x,hx⟩
    |_=>simp at hx
 ·unfold World.frozen? at hf ⊢;unfold World.setCell;simp only[GN];cases d:w.heap[a.block]? with
  |none=>simp
  |some o=>
   simp only[d]at hf;by_cases e:b.block=a.block
   ·simp only[e,fP,jh];cases o<;>simp_all
   ·simp only[e,gq];cases o<;>simp_all
def BE{w:World}{a:Addr}{v:Value}(b:v.oneCell'=true)(h:eP w a):(store a v).run P w=.ok () (w.setCell a v):=by
 obtain⟨⟨x,hx⟩,hf⟩:=h;rw[run_store P w a v .plain b];simp[hx,hf]
def HO:∀(l:List Value) (a:Addr) (i:Nat) (w:World) (f:bh6),l.all (·.oneCell')=true->sT l a i w f->
  ∃w',(storeCells a l i).run P w=.ok () w'/\f w'
 |[],_,_,w,_,_,h=>⟨w,rfl,h⟩
 |v::l,a,i,w,f,b,⟨h1,c⟩=>by
  simp only[A8,dG]at b;obtain⟨w',d,e⟩:=HO l a (i+1) _ f b.2 c;exact⟨w',by simp[storeCells,BE b.1 h1,d],e⟩
def HP:∀(l:List Value) (a:Addr) (i:Nat) (w:World),l.all (·.oneCell')=true->(∀j,i<=j->j<i+l.length->eP w (a.add j))->
  (storeCells a l i).run P w=.ok () (sU w a i l)
 |[],_,_,_,_,_=>rfl
 |v::l,a,i,w,b,h=>by
  simp only[A8,dG]at b;have h1:=h i (dN _) (by simp);have c:=HP l a (i+1) (w.setCell (a.add i) v) b.2 (λj d e=>UG (h j bA (by simp;omega)));simp[storeCells,BE b.1 h1,c,sU]
def UH{k:K1}{t:TypeId}{x v:Value}{w:World}{f:bh6}(h:sV P k t x v w f):
  ∃w',(Instr.storeAt t x v).run P w=.ok () w'/\f w':=by
 unfold sV at h;split at h
 ·rename_i a;split at h
  ·split at h
   ·rename_i e;split at h
    ·rename_i g;obtain⟨h1,c⟩:=h;have i:v.cells= #[v]:=by cases v<;>first|rfl|simp[Value.oneCell']at g
     exact⟨_,by simp[Instr.storeAt,Instr.sureAddr,storeVar,i,run_sizeOf e,storeCells,Addr.add,BE g h1],c⟩
    ·exact h.elim
   ·exact h.elim
  ·split at h
   ·rename_i cs;split at h
    ·rename_i n e;cases b:(n==cs.size&&cs.toList.all (·.oneCell'))with
     |false=>rw[b,g8]at h;exact h.elim
     |true=>
      rw[b,hr]at h;simp only[dG,pH]at b;obtain⟨w',h1,c⟩:=HO (P:=P) _ _ _ _ _ b.2 h;refine⟨w',?_,c⟩;have:¬ (Value.agg cs).cells.size≠n:=by simp[Value.cells,b.1]
      simp only[Instr.storeAt,Instr.sureAddr,storeVar,Sem.run_bind,Sem.run_pure,Result.andThen_ok,run_sizeOf e];simp[Value.cells,b.1,h1]
    ·exact h.elim
   ·exact h.elim
  ·split at h
   ·rename_i n k _ m e;cases b:(m==n)with
    |false=>rw[b,g8]at h;exact h.elim
    |true=>
     rw[b,hr]at h;simp only[pH]at b;subst b;obtain⟨p,rfl,o,d,hf⟩:=h;have:=HP (P:=P) (p.map (Value.int k)) a 0 w (by simp[Value.oneCell']) (λj _ l=>d j (by simp at l;omega));refine⟨_,?_,hf⟩;simp[Instr.storeAt,Instr.sureAddr,storeVar,Value.cells,run_sizeOf e,o,this]
   ·exact h.elim
 ·exact h.elim
def UI{cz:FuncId->Bool}{o:Oper}{a:Act}{w:World}{g:Operand}{args:Array Operand}{ts:Array TypeId}{k:Kd}{f:bh7}{p:List PanicEntry->bh6}{next:Act->bh6}{Q:Exit->Act->bh6}(ho:o.op=.call {callee:=.value g,args,argTypes:=ts})(h:Bz P cz (a.eval g) (args.map a.eval) k w f p)(hf:∀v w',f v w'->next (a.put o.dst v) w')(hp:∀d w',p d w'->Q (.panic d) a w'):o.wp P a w next Q:=by
 unfold Bz at h;split at h
 ·rename_i i fi ca r;split at h
  ·rename_i fn q;split at h
   ·rename_i l;simp only[dG,hR,uM]at l;obtain⟨m,n⟩:=l;have s:(execOp a.eval o).run P w=.ok (.enter i (fi++args.map a.eval++ca)) w:=by
     have c:¬ fn.body=none:=by intro hx;simp[hx]at m
     simp[execOp,ho,resolve,r,Deferred.ofValue,invoke,callFunc,q,n,c]
    unfold Oper.wp;rw[s];show Calls P i (fi++args.map a.eval++ca) w _;cases b:cz i with
    |false=>
     rw[b,g8]at h;refine Calls.mono h λe w' he=>?_;obtain⟨v,rfl,j⟩:=Kd.eT he;exact hf _ _ j
    |true=>
     rw[b,hr]at h;refine Calls.mono h λe w' he=>?_;rcases he with he|⟨d,rfl,he⟩
     ·obtain⟨v,rfl,j⟩:=Kd.eT he;exact hf _ _ j
     ·exact hp _ _ he
   ·exact h.elim
  ·exact h.elim
 ·exact h.elim
def UJ{o:Oper}{a:Act}{w:World}{g:Operand}{args:Array Operand}{ts:Array TypeId}{k:Kd}{f:bh7}{next:Act->bh6}{Q:Exit->Act->bh6}(ho:o.op=.call {callee:=.value g,args,argTypes:=ts})(h:HI P (a.eval g) (args.map a.eval) k w f)(hf:∀v w',f v w'->next (a.put o.dst v) w'):o.wp P a w next Q:=by
 obtain⟨d,ca,m,b,h⟩:=h;unfold ky at b;split at b
 ·rename_i fn l;simp only[dG,hR,uM]at b;obtain⟨i,j⟩:=b;have n:(execOp a.eval o).run P w=.ok (.enter d (args.map a.eval++ca)) w:=by
   have c:¬ fn.body=none:=by intro hx;simp[hx]at i
   simp[execOp,ho,resolve,m,Deferred.ofValue,invoke,callFunc,l,j,c]
  unfold Oper.wp;rw[n];show Calls P d (args.map a.eval++ca) w _;refine Calls.mono h λe w' he=>?_;obtain⟨v,rfl,p⟩:=Kd.eT he;exact hf _ _ p
 ·cases b
def HQ{s:Sem Value}{k:Kd}{w:World}{f:bh7}(h:dU P s k w f):∃v w',s.run P w=.ok v w'/\f v w':=by
 obtain⟨v,w',h⟩:=Kd.eT h;exact⟨v,w',h⟩
def nh(z:List Value)(n j:Nat)(h:j<n*z.length):((List.replicate n z).flatten)[j]?=z[j%z.length]? :=by
 induction n generalizing j with
 |zero=>simp at h
 |succ n c=>
  rw[nV,uO];by_cases b:j<z.length;·rw[eE b,lQ b]
  ·have a:z.length<=j:=T7 b;rw[fo a,c (j-z.length) (by rw[xC]at h;omega)];rw[<- Nat.mod_eq_sub_mod a]
def UK(z:Array Value)(n m:Nat)(hm:m=z.size)(d:0<n*m):(Array.range (n*m)).map (λi=>z[i%z.size]!)=((List.replicate n z.toList).flatten).toArray:=by
 subst hm;have c:0<z.size:=by
  rcases lq z.size with h|h;·simp[h]at d
  ·exact h
 apply Array.ext_getElem?;intro j;by_cases a:j<n*z.size
 ·have:=nh z.toList n j (by simpa using a);simp only[List.getElem?_toArray,this];have b:j%z.size<z.size:=kx _ c;simp[a,b]
 ·have h1:((List.replicate n z.toList).flatten).length<=j:=by simp;omega
  simp only[List.getElem?_toArray,fH h1];simp;omega
def UL{τ:TypeId->K1}{ρ:TypeId->Kd}{cz:FuncId->Bool}{A:dS}{o:Oper}{a:Act}{w:World}{f:bh7}{p:List PanicEntry->bh6}{next:Act->bh6}{Q:Exit->Act->bh6}(h:vE P τ ρ cz A o a.eval w f p)(hf:∀v w',f v w'->next (a.put o.dst v) w')(hp:∀F w',p F w'->Q (.panic F) a w'):
  o.wp P a w next Q:=by
 have val:∀ {s:Sem Value} {k:Kd},dU P s k w f->execOp a.eval o=(do pure (.value (<- s)))->o.wp P a w next Q:=by
  intro s k h e;obtain⟨v,w',h1,i⟩:=HQ h;unfold Oper.wp;rw[e];simp only[Sem.run_bind,h1,Result.andThen_ok,Sem.run_pure,Oper.upon_value];exact hf _ _ i
 have j:∀ {b:Builtin} {args:Array Operand} {ts:Array TypeId} {k:Kd} {s:Sem Value},dU P s k w f->o.op=.call {callee:=.builtin b,args,argTypes:=ts} ->
   (∀cs,builtin b ts o.type cs (args.map a.eval)=(do pure (.value (<- s))))->o.wp P a w next Q:=by
  intro b args ts k s h ho e;obtain⟨v,w',h1,i⟩:=HQ h;unfold Oper.wp;have:(execOp a.eval o).run P w=.ok (.value v) w':=by
   simp[execOp,ho,resolve,invoke,e,h1]
  rw[this];exact hf _ _ i
 have r:∀ {s:Sem Unit},oN P s w (f undef)->execOp a.eval o=(do s;pure .skip)->o.wp P a w next Q:=by
  intro s h e;obtain⟨w',h1,i⟩:=h;unfold Oper.wp;rw[e];simp only[Sem.run_bind,h1,Result.andThen_ok,Sem.run_pure,Oper.upon_skip];exact hf _ _ i
 unfold vE at h;split at h
 ·rename_i t x v ho;obtain⟨w',h1,i⟩:=UH h;refine r (s:=Instr.storeAt t (a.eval x) (a.eval v)) ⟨w',h1,i⟩ (by simp[execOp,ho])
 ·rename_i t x ho;unfold Oper.wp;have:(execOp a.eval o).run P w=.ok (.value (.pointer (some ⟨w.heap.size,0,none⟩))) (w.alloc (.cells (a.eval x).cells t)):=by
   simp[execOp,ho,Instr.box,newVar,newRow]
  rw[this];exact hf _ _ h
 ·rename_i t ho;split at h
  ·rename_i z E;unfold Oper.wp;have:(execOp a.eval o).run P w=.ok (.value (.pointer (some ⟨w.heap.size,0,none⟩))) (w.alloc (.cells z.cells t)):=by
    simp[execOp,ho,Instr.alloc,newVar,newRow,xE E]
   rw[this];exact hf _ _ h
  ·exact h.elim
 ·rename_i g args ts ho;cases u:u6 A o with
  |true=>rw[u,hr]at h;exact UJ ho h hf
  |false=>rw[u,g8]at h;exact UI ho h hf hp
 ·rename_i args ts ho;exact j h ho (λcs=>by simp[builtin])
 ·rename_i args ts ho;exact j h ho (λcs=>by simp[builtin])
 ·rename_i args ts ho;exact j h ho (λcs=>by simp[builtin])
 ·rename_i args ts ho;exact j h ho (λcs=>by simp[builtin])
 ·rename_i args ts ho;exact j h ho (λcs=>by simp[builtin])
 ·rename_i args ts ho;exact j h ho (λcs=>by simp[builtin])
 ·rename_i t n ps ho;unfold HH at h;split at h
  ·rename_i e cs d;unfold HG at d;split at d
   ·rename_i e' hu;split at d
    ·rename_i m z hm E;split at d
     ·rename_i G u l;cases C:(m==z.cells.size)with
      |false=>rw[C,g8]at d;cases d
      |true=>
       rw[C,hr]at d;injection d with d;injection d with h1 i;subst h1;subst i
       simp only[pH]at C;simp only[dG,jr,gj]at u;unfold Oper.wp;have q:(execOp a.eval o).run P w=.ok (.value (.slice (some ⟨w.heap.size,0,none⟩) n n)) (w.alloc (.cells G e')):=by
        have hle:¬ n*m>2^24:=by omega
        simp only[execOp,ho,Instr.buildSlice,Sem.run_bind,hH hu,Result.andThen_ok,run_sizeOf hm,bJ hle,Sem.run_pure];rcases u.2 with D|y
        ·have B:=UK z.cells n m C D;simp only[bJ (Nat.ne_of_gt D),Sem.run_bind,xE E,Result.andThen_ok,Sem.run_pure,B,l];simp[newRow]
        ·have y:n=0:=je y;subst y;have H:Array.range 0= #[]:=rfl;simp only[GQ,A2,Array.toList_map]at l;simp[newRow,H,l]
       rw[q];exact hf _ _ h
     ·cases d
    ·cases d
   ·cases d
  ·exact h.elim
 ·rename_i ho;exact val h (by simp[execOp,ho])
 ·rename_i ho;unfold Oper.wp;have q:(execOp a.eval o).run P w=.ok (.value (.map (some w.heap.size))) (w.alloc (.map #[] 0)):=by simp[execOp,ho,Instr.makeMap]
  rw[q];exact hf _ _ h
 ·rename_i ho;exact r h (by simp[execOp,ho])
 ·rename_i ho;exact r h (by simp[execOp,ho])
 ·rename_i ho;exact val h (by simp[execOp,ho])
 ·rename_i ho;exact r h (by simp[execOp,ho])
 ·rename_i ho;exact val h (by simp[execOp,ho])
 ·rename_i it s ho;have hx:∃v w',(Instr.next (a.eval it) s o.type).run P w=.ok v w'/\f v w':=by
   rcases h with⟨w',h1,i⟩|h;·exact⟨_,w',h1,i⟩
   ·cases s with
    |true=>obtain⟨k,c,w',h1,i⟩:=h;exact⟨_,w',h1,i⟩
    |false=>obtain⟨k,v,w',h1,i⟩:=h;exact⟨_,w',h1,i⟩
  obtain⟨v,w',h1,i⟩:=hx;unfold Oper.wp;have q:(execOp a.eval o).run P w=.ok (.value v) w':=by simp[execOp,ho,h1]
  rw[q];exact hf _ _ i
 ·rename_i it ho;split at h
  ·obtain⟨vs,w',h1,i⟩:=Bg _ _ _ h;unfold Oper.wp;have q:(execOp a.eval o).run P w=.ok (.value (.tuple vs)) w':=by simp[execOp,ho,h1]
   rw[q];exact hf _ _ i
  ·exact h.elim
 ·rename_i ho;exact val h (by simp[execOp,ho])
 ·rename_i ho;exact val h (by simp[execOp,ho])
 ·rename_i ho;exact val h (by simp[execOp,ho])
 ·rename_i ho;exact val h (by simp[execOp,ho])
 ·rename_i x ho;split at h
  ·rename_i t v hx;unfold Oper.wp;have:(execOp a.eval o).run P w=.halt (.panic (.iface t v)) w:=by simp[execOp,ho,hx,Instr.panic]
   rw[this];exact hp _ _ h
  ·exact h.elim
 ·exact h.elim
end
end Go.Vc
namespace Go.Vc
open Go
section
variable{P:Program}{τ:TypeId->K1}{ρ:TypeId->Kd}{cz:FuncId->Bool}{A:dS}
structure Rel(N:Nat)(T:Tr)(a:Act):Prop where
 defers:a.defers= []
 size:a.tmps.size=N
 get:∀t,a.tmps.getD t undef=T.get t
def Rel.ev{N:Nat}{T:Tr}{a:Act}(h:Rel N T a):a.eval=T.ev:=by
 funext x;cases x with
 |tmp t=>exact h.get t
 |const v=>rfl
 |global g=>rfl
 |func f=>rfl
def Rel.at{N:Nat}{T:Tr}{a:Act}(h:Rel N T a){d:Nat}(c:d<N):a.tmps[d]?=some (T.get d):=by
 have b:d<a.tmps.size:=by rw[h.size];exact c
 rw[oH b,<- h.get d];simp[Array.getD,b]
def Rel.put{N:Nat}{T:Tr}{a:Act}(h:Rel N T a)(g:N<=8000){d:Option Nat}(c:∀t,d=some t->t<N)(v:Value):Rel N (T.put d v) (a.put d v):=by
 cases d with
 |none=>exact h
 |some d=>
  have b:=c d rfl;refine⟨h.defers,by simp[Act.put,h.size],λt=>?_⟩;rw[Tr.dM T d t v bA,<- h.get t];have f:d<a.tmps.size:=by rw[h.size];exact b
  simp only[Act.put,iC,oG];by_cases e:d=t;·subst e;simp[f]
  ·rw[bJ e,bJ (λe'=>e e'.symm)]
def Rel.same{N:Nat}{T T':Tr}{a:Act}(h:Rel N T a)(b:∀t,T'.get t=T.get t):Rel N T' a:=⟨h.defers,h.size,λt=>(h.get t).trans (b t).symm⟩
def Fr(W:List Nat)(T T':Tr):Prop:=∀t,t∉W->T'.get t=T.get t
def Fr.refl(W:List Nat)(T:Tr):Fr W T T:=λ_ _=>rfl
def Fr.trans{W:List Nat}{a b c:Tr}(h:Fr W a b)(h':Fr W b c):Fr W a c:=λt d=>(h' t d).trans (h t d)
def Fr.mono{W c:List Nat}{a b:Tr}(h:Fr W a b)(d:∀t,t∈W->t∈c):Fr c a b:=λt e=>h t (λh'=>e (d t h'))
def Fr.put(W:List Nat)(T:Tr)(d:Option Nat)(v:Value)(h:∀t,d=some t->t∈W/\t<8000):Fr W T (T.put d v):=by
 cases d with
 |none=>exact .refl _ _
 |some d=>
  intro t a;rw[Tr.dM T d t v (h d rfl).2,bJ (λe=>a (by rw[e];exact(h d rfl).1))]
def gT(P:Program)(N:Nat)(l:List Oper):Bool:=l.all λo=>(match o.op with
 |.convert s _ _=>(P.underlying s).isSome
 |_=>true)&&(match o.dst with|some d=>Nat.blt d N|none=>true)
def pN(l:List (Nat×C1)):Prop:=∀x∈l,x.1<8000
def okW(c:Code):Bool:=(wr c).all λt=>Nat.blt t 8000
def vd{c:Code}(h:okW c=true):∀t∈wr c,t<8000:=λt a=>by simpa using fB.1 h t a
def ni(l:List (Nat×C1)):Bool:=l.all λx=>Nat.blt x.1 8000
def xP{l:List (Nat×C1)}(h:ni l=true):pN l:=λx hx=>by simpa using fB.1 h x hx
def oP{N:Nat}{l:List Oper}(h:gT P N l=true){o:Oper}(ho:o∈l):∀s d x,o.op=.convert s d x->(P.underlying s).isSome=true:=by
 intro s d x e;have:=fB.1 h o ho;simp only[dG,e]at this;exact this.1
def lX{N:Nat}{l:List Oper}(h:gT P N l=true){o:Oper}(ho:o∈l):∀t,o.dst=some t->t<N:=by
 intro t e;have:=fB.1 h o ho;simp only[dG,e]at this;simpa using this.2
def xQ{N:Nat}{o:Oper}{l:List Oper}(h:gT P N (o::l)=true):gT P N l=true:=by
 unfold gT at h ⊢;rw[A8,dG]at h;exact h.2
def UM(want:Bool):Value->Bool
 |.bool b=>b==want
 |_=>false
def UN{ops:Array Oper}{o:Oper}{a:Act}{j d:Nat}{want:Bool}{v:Value}(f:o.guard=some (j,want))(e:(ops[j]?).bind (·.dst)=some d)(c:a.tmps[d]?=some v):
  Region.wanted o (yielded ops a.tmps)=UM want v:=by
 unfold Region.wanted yielded;simp only[f,e,G5,c];cases v
 case bool b=>cases b<;>cases want<;>rfl
 all_goals rfl
def pO{N:Nat}{ops:Array Oper}{o:Oper}{T:Tr}{a:Act}{yes no:Tr->Prop}{B:Prop}(r:N<=8000)(n:gT P N ops.toList=true)(s:Rel N T a)(h:j0 ops o T yes no)(p:∀T',(∀t,T'.get t=T.get t)->yes T'->Region.wanted o (yielded ops a.tmps)=true->B)(m:∀T',(∀t,T'.get t=T.get t)->no T'->Region.wanted o (yielded ops a.tmps)=false->B):B:=by
 unfold j0 at h;split at h
 ·rename_i k;exact p T (λ_=>rfl) h (by simp[Region.wanted,k])
 ·rename_i j want k;split at h;·exact h.elim
  ·rename_i d i;have g:d<N:=by
    cases l:ops[j]? with
    |none=>simp[l]at i
    |some oj=>
     have hm:oj∈ops.toList:=by rw[px];exact ku l
     exact lX n hm d (by simpa[l]using i)
   have q:=s.at g;have hw:=UN k i q;split at h
   ·rename_i b f;rw[f]at hw;have c:∀t,(T.put (some d) (.bool b)).get t=T.get t:=by
     intro t;rw[Tr.dM T d t _ (mz g r)];split;·rename_i e;subst e;exact f.symm
     ·rfl
    cases b with
    |true=>
     rw[hr]at h;cases want with
     |true=>exact p _ c h hw
     |false=>exact m _ c h hw
    |false=>
     rw[g8]at h;cases want with
     |true=>exact m _ c h hw
     |false=>exact p _ c h hw
   ·rename_i vs f;rw[f]at hw;exact m T (λ_=>rfl) h hw
   ·exact h.elim
def xR{N:Nat}{o:Oper}{T:Tr}{a:Act}{w:World}{next:Tr->bh6}{next':Act->bh6}{Q:Exit->Tr->bh6}{Q':Exit->Act->bh6}(f:Rel N T a)(i:∀s d x,o.op=.convert s d x->(P.underlying s).isSome=true)(h:nd P τ ρ cz A o T w next Q)(c:∀v w',next (T.put o.dst v) w'->next' (a.put o.dst v) w')(hp:∀b w',Q (.panic b) T w'->Q' (.panic b) a w'):o.wp P a w next' Q':=by
 unfold nd at h;cases e:HJ A o with
 |true=>
  rw[e,hr]at h;rw[<- f.ev]at h;obtain⟨v,h1,g⟩:=u4 i h;unfold Oper.wp;rw[h1 w (λ_=>.refl w)];exact c _ _ g
 |false=>
  rw[e,g8]at h;rw[<- f.ev]at h;exact UL h (λv w' j=>c v w' j) hp
end
end Go.Vc
