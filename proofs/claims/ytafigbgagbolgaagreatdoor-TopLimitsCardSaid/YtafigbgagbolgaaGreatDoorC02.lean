/- Part of a proof about the core: of its walks and plain laws. -/
import Derived.Test.YtafigbgagbolgaaGreatDoorC01
import Derived.Deep.AppendSrc
import Derived.Laws.MakeOwn
import Derived.Laws.IdiomStrings
import Derived.Stop.BytesEq
import Derived.Laws.StructEq
import Derived.MapKept
import Derived.Tactics
set_option linter.all false
set_option maxRecDepth 100000
open Go.IntKind(i64 u64)
namespace Go.Sp
open Go Go.Vc
@[simp] theorem cj(b o n:Nat):(⟨b,o,none⟩:Addr).add n=⟨b,o+n,none⟩:=by
 unfold Addr.add;split;·subst_vars;rfl
 ·rfl
def cw{b:Bool}{A B:Prop}(h1:b=true->A)(a:b=false->B):bif b then A else B:=by
 cases b;·exact a rfl
 ·exact h1 rfl
def eC{A B:Prop}(h:A):bif true then A else B:=h
def dH{A B:Prop}(h:B):bif false then A else B:=h
def use{P:Program}{f:FuncId}{args:Array Value}{w:World}{K:bh7}{R:Ending->bh6}(h:Calls P f args w (bW K))(k:∀v w',K v w'->R (.returned v) w'):Calls P f args w R:=
 h.mono λe w' ⟨v,he,a⟩=>by subst he;exact k v w' a
def cH{n:Int}(h1: -9223372036854775808<=n)(b:n<=9223372036854775807):i64.wrap n=n:=by
 unfold IntKind.wrap;simp only[IntKind.signed,IntKind.bits,lr];by_cases a:n%2^64≥2^(64-1);·rw[bM (by simpa using a)];omega
 ·rw[bJ (by simpa using a)];omega
def hV(c:List Value)(o:Nat):List Value->List Value
 |[]=>c
 |v::r=>hV (c.set o v) (o+1) r
@[simp] theorem Va:∀(vs:List Value) (c:List Value) (o:Nat),(hV c o vs).length=c.length
 |[],_,_=>rfl
 |v::r,c,o=>by rw[hV,Va r];simp
def Ig:∀(vs:List Value) (c:List Value) (o i:Nat),(hV c o vs)[i]?=if o<=i/\i<o+vs.length/\i<c.length then vs[i-o]? else c[i]?
 |[],c,o,i=>by
  have:¬ (o<=i/\i<o+0/\i<c.length):=by omega
  simp only[hV,rb,bJ this]
 |v::r,c,o,i=>by
  rw[hV,Ig r];simp only[dA,hS,jg];by_cases h1:o=i
  ·subst h1;by_cases a:o<c.length
   ·have:¬ (o+1<=o/\o<o+1+r.length/\o<c.length):=by omega
    rw[bJ this,bM rfl,bM a,eG];simp
   ·have:¬ (o+1<=o/\o<o+1+r.length/\o<c.length):=by omega
    rw[bJ this,bM rfl,bJ a,cM];simp;omega
  ·rw[bJ h1];by_cases a:o+1<=i/\i<o+1+r.length/\i<c.length
   ·rw[bM a,eG];rw[show i-o=(i-(o+1))+1 by omega];simp
   ·rw[bJ a,cM]
def oU:∀(vs c:List Value) (o:Nat),o+vs.length<=c.length->hV c o vs=c.take o++vs++c.drop (o+vs.length):=by
 intro vs c o d;apply g6;intro i;rw[Ig];by_cases h1:o<=i/\i<o+vs.length/\i<c.length
 ·rw[bM h1,dc,fo (by simp;omega),eE (by simp;omega)];simp[show min o c.length=o by omega]
 ·rw[bJ h1];by_cases a:i<o;·rw[dc,eE (by simp;omega)];simp[a]
  ·by_cases b:i<c.length
   ·rw[fo (by simp;omega)];simp only[da,g7,py];congr 1;omega
   ·rw[fH bA,fH (by simp;omega)]
section
variable{E:Env}{L:ch}{w:World}{P:Program}
def Sep.setCells{b:Nat}:∀(vs:List Value) {c:List Value} {w:World} (_:Sep E (bE b c::L) w) (o:Nat),Sep E (bE b (hV c o vs)::L) (w.setCells b o vs)
 |[],_,_,h,_=>h
 |v::r,_,_,h,o=>Sep.setCells r (h.setCell o v) (o+1)
def Sep.isSome{b:Nat}{c:List Value}(h:Sep E (bE b c::L) w){o:Nat}(ho:o<c.length):(w.cell? ⟨b,o,none⟩).isSome=true:=by
 rw[h.cell o];simp[ho]
def Sep.rz{b:Nat}{c:List Value}(h:Sep E (bE b c::L) w){o:Nat}(ho:o<c.length):w.frozen? ⟨b,o,none⟩=false:=(h.eP ho).2
def Ih(b:Nat):∀(vs:List Value) (w:World) (o i:Nat),sU w ⟨b,o,none⟩ i vs=w.setCells b (o+i) vs
 |[],_,_,_=>rfl
 |v::r,w,o,i=>by rw[sU,cj,Ih b r,World.setCells];rfl
def St.j{b:Nat}{c:List Value}{v:Value}{f:bh6}{o n:Nat}(h:Sep E (bE b c::L) w)(ho:o+n<c.length)(k:∀a,Sep E (bE b (c.set (o+n) v)::L) a->f a):St ((⟨b,o,none⟩:Addr).add n) v f w:=by
 rw[cj];exact St.i h ho k
def jt.i{b:Nat}{c:List Value}{f:bh6}{o:Nat}{vs:List Value}(h:Sep E (bE b c::L) w)(d:o+vs.length<=c.length)(k:∀a,Sep E (bE b (hV c o vs)::L) a->f a):jt vs ⟨b,o,none⟩ f w:=by
 have go:∀(vs:List Value) (i:Nat) {c:List Value} {w:World} (_:Sep E (bE b c::L) w) (_:o+i+vs.length<=c.length) (_:∀a,Sep E (bE b (hV c (o+i) vs)::L) a->f a),sT vs ⟨b,o,none⟩ i w f:=by
  intro vs;induction vs with
  |nil=>intro i c w h _ k;exact k _ h
  |cons v r e=>
   intro i c w h d k;simp only[hS]at d;refine⟨by rw[cj];exact h.eP bA,?_⟩;rw[cj];refine e (i+1) (h.setCell (o+i) v) (by simp;omega) (λa h1=>k a h1)
 exact go vs 0 h d k
def u5.i{b:Nat}{c:List Value}{f:bh6}{o n:Nat}{k:IntKind}{v:Value}(a:bU)(h:Sep E (bE b c::L) w)(g:v=.agg (a.map (Value.int k)).toArray)(e:a.length=n)(m:o+n<=c.length)(j:∀d,Sep E (bE b (hV c o (a.map (Value.int k)))::L) d->f d):u5 n k v ⟨b,o,none⟩ w f:=by
 refine⟨a,g,e,λi l=>?_,?_⟩;·rw[cj];exact h.eP bA
 ·rw[Ih];exact j _ (h.setCells _ _)
def g9(P:Program)(t:TypeId):Option (Nat×Nat×List Value):=
 match P.underlying t with
 |some (.slice e)=>match P.info? e with
  |some i=>match i.zero with
   |some z=>some (i.bytes,i.size,z.cells.toList)
   |none=>none
  |none=>none
 |_=>none
def pQ{t:TypeId}{cG sz:Nat}{zs:List Value}(h:g9 P t=some (cG,sz,zs)):∃e i z,P.underlying t=some (.slice e)/\P.info? e=some i/\i.zero=some z/\i.bytes=cG/\i.size=sz/\z.cells.toList=zs:=by
 unfold g9 at h;split at h
 ·next e he=>
  split at h
  ·next i a=>
   split at h;·next z b=>simp only[eF,xB]at h;exact⟨e,i,z,he,a,b,h.1,h.2.1,h.2.2⟩
   ·simp at h
  ·simp at h
 ·simp at h
def BS(P:Program)(t:TypeId):Bool:=
 match P.underlying t with
 |some (.slice e)=>match P.underlying e with
  |some (.int .u8)=>true
  |_=>false
 |_=>false
def BT{t:TypeId}(h:BS P t=true):∃e,P.underlying t=some (.slice e)/\P.underlying e=some (.int .u8):=by
 unfold BS at h;split at h
 ·next e he=>
  split at h;·next a=>exact⟨e,he,a⟩
  ·simp at h
 ·simp at h
def Vb{t:TypeId}(h:pM P t=true):P.underlying t=some .string:=by
 unfold pM at h;split at h;·assumption
 ·simp at h
def makeSlice.i(h:Sep E L w){t:TypeId}{cG sz:Nat}{zs:List Value}(r:g9 P t=some (cG,sz,zs)){n m:IntKind}{l c:Int}(o:0<=l)(g:l<=c)(p:(cG:Int)*c<=281474976710656)(d:c<=9223372036854775807){G:Sl->bh6}(k:∀b a,Sep E (bE b ((List.range (c.toNat*sz)).map λi=>(zs.toArray)[i%zs.length]!)::L) a->G ⟨some ⟨b,0,none⟩,l.toNat,c.toNat⟩ a):
  ∃x:Sl,∃a,Sem.run P (Instr.makeSlice t (.int n l) (.int m c)) w=.ok (.slice x.p x.n x.c) a/\G x a:=by
 obtain⟨e,i,z,u,q,v,f,s,j⟩:=pQ r;subst f s j;have:=h.alloc (madeCells z.cells (c.toNat*i.size)) e;refine⟨⟨_,_,_⟩,_,run_make w t e i z u q v n m l c o g p d,k _ _ ?_⟩;simpa[madeCells]using this
def gW(l:List UInt8):List Value:=l.map λb=>Value.int .u8 b.toNat
@[simp] theorem vk(l:List UInt8)(i:Nat):(gW l)[i]?=l[i]?.map λb=>Value.int .u8 b.toNat:=by simp[gW]
@[simp] theorem Vd(l:List UInt8):(gW l).length=l.length:=by simp[gW]
def l3.i(h:Sep E L w){t:TypeId}{cG sz m:Nat}(j:g9 P t=some (cG,sz,gW (List.replicate m 0)))(hm:0<m){o n:IntKind}{l:Int}(f:0<=l)(g:(cG:Int)*l<=281474976710656)(c:l<=9223372036854775807){G:Sl->bh6}(k:∀b a,Sep E (bE b (gW (List.replicate (l.toNat*sz) 0))::L) a->G ⟨some ⟨b,0,none⟩,l.toNat,l.toNat⟩ a):
  ∃x:Sl,∃a,Sem.run P (Instr.makeSlice t (.int o l) (.int n l)) w=.ok (.slice x.p x.n x.c) a/\G x a:=by
 refine makeSlice.i h j f (e7 _) g c (λb a h1=>k b a ?_);have:((List.range (l.toNat*sz)).map λi=>((gW (List.replicate m 0)).toArray)[i%(gW (List.replicate m 0)).length]!)=gW (List.replicate (l.toNat*sz) 0):=by
  apply g6;intro i;simp only[ew,Vd,kJ,vk];have e:i%m<m:=kx _ hm;by_cases d:i<l.toNat*sz;·simp[d,gW,e]
  ·simp[d]
 rw[this]at h1;exact h1
def toStr.i(l:List UInt8){b o n c:Nat}{C:List Value}{s d:TypeId}(m:Nat)(h:Sep E L w)(q:L[m]?=some (bE b C))(t:BS P s=true)(p:pM P d=true)(r:l.length=n)(i:∀j (a:j<l.length),C[o+j]?=some (.int .u8 (l[j].toNat:Int))){G:ByteArray->bh6}(k:G ⟨l.toArray⟩ w):
  ∃x:ByteArray,∃f,Sem.run P (convert s d (.slice (some ⟨b,o,none⟩) n c)) w=.ok (.string x) f/\G x f:=by
 subst r;obtain⟨e,h1,g⟩:=BT t;exact⟨_,_,run_convert_bytes_back w s d e ⟨b,o,none⟩ c l h1 g (Vb p) (λj a=>by rw[cj,h.cellAt m q];exact i j a),k⟩
def oV.i{b o n c:Nat}{C:List Value}{s:ByteArray}{f st ty:TypeId}{cG:Nat}{zs:List Value}(h:Sep E (bE b C::L) w)(q:g9 P f=some (cG,1,zs))(p:s.size=n)(y:o+n<=C.length){G:Int->bh6}(k:∀a,Sep E (bE b (hV C o (byteCells s))::L) a->G (n:Int) a):
  ∃x:Int,∃a,Sem.run P (Builtin.copy_ #[f,st] ty #[.slice (some ⟨b,o,none⟩) n c,.string s]) w=.ok (.int .i64 x) a/\G x a:=by
 subst p;obtain⟨e,i,z,r,l,B,t,g,v⟩:=pQ q;have A:(byteCells s).length=s.size:=byteCells_length s;have d:=run_storeCells_cells (P:=P) b o (byteCells s) 0 w (λj m=>h.isSome bA) (λj m=>h.rz bA) (λu hu=>by
  obtain⟨_,_,rfl⟩:=e4.1 hu;rfl)
 refine⟨(s.size:Int),w.setCells b o (byteCells s),?_,k _ (h.setCells _ _)⟩;have hf:=firstCells_string (P:=P) s w;simp only[lu]at d;simp[Builtin.copy_,run_underlying r,Builtin.lenOf,sizeOf,typeInfo,l,g,hf,d,goInt]
def append.i{b o n c:Nat}{C:List Value}{x:Value}{k:Nat}{news:List Value}{st p ty:TypeId}{cG sz:Nat}{zs:List Value}(h:Sep E (bE b C::L) w)(M:g9 P st=some (cG,sz,zs))(s:Src P sz p x k news w)(R:o+n*sz<=C.length)(g:n+k<=c->o+(n+k)*sz<=C.length)(u:((n+k:Nat):Int)<=9223372036854775807)(q:c<n+k->Builtin.nextslicecap (n+k) c*cG<=281474976710656){G:Sl->bh6}(O:n+k<=c->∀d,Sep E (bE b (hV C (o+n*sz) news)::L) d->G ⟨some ⟨b,o,none⟩,n+k,c⟩ d)(Q:c<n+k->∀t c' d,n+k<=c'->Sep E (bE t ((C.drop o).take (n*sz)++news++(Builtin.zeroCells zs.toArray (c'-(n+k))).toList)::bE b C::L) d->G ⟨some ⟨t,0,none⟩,n+k,c'⟩ d):
  ∃m:Sl,∃d,Sem.run P (Builtin.append_ #[st,p] ty #[.slice (some ⟨b,o,none⟩) n c,x]) w=.ok (.slice m.p m.n m.c) d/\G m d:=by
 obtain⟨e,i,z,I,A,N,y,F,J⟩:=pQ M;subst y F J;by_cases r:n+k<=c
 ·have S:=s.newsLen;have H:=g r;rw[jW]at H;exact⟨⟨_,_,_⟩,_,run_append_room_src w st p ty e i I A b o n c x k news s r (λj l=>h.isSome bA) (λj l=>h.rz bA),O r _ (h.setCells _ _)⟩
 ·have f:c<n+k:=by omega
  let a:List Value:=(C.drop o).take (n*i.size);have D:a.length=n*i.size:=by simp[a];omega
  have hold:(Builtin.firstCells i.size n (.slice (some ⟨b,o,none⟩) n c)).run P w.drew=.ok a.toArray w.drew:=by
   refine run_firstCells_some w.drew i.size n ⟨b,o,none⟩ n c a D (λj v l=>?_);have B:j<n*i.size:=by
    rcases gS j (n*i.size)with h' | h';·exact h'
    ·simp[fH (show a.length<=j by omega)]at l
   rw[cj,h.drew.cell];rw[<- l];simp[a,B]
  have K:=run_append_grow_src w st p ty e i z I A N (some ⟨b,o,none⟩) n c a hold x k news s f u (q f);refine⟨⟨_,_,_⟩,_,K,?_⟩;refine Q f w.heap.size (grownCap w (n+k) c e) _ ?_ ?_;·show n+k<=n+k+_;omega
  ·have:=h.drew.alloc ((a++news).toArray++Builtin.zeroCells z.cells (grownCap w (n+k) c e-(n+k))) e;simpa[a]using this
def jj.i{c:Nat}{x:Value}{k:Nat}{news:List Value}{st f ty:TypeId}{cG sz:Nat}{zs:List Value}(h:Sep E L w)(r:g9 P st=some (cG,sz,zs))(s:Src P sz f x k news w)(y:c<k)(j:(k:Int)<=9223372036854775807)(d:Builtin.nextslicecap k c*cG<=281474976710656){G:Sl->bh6}(v:∀g c' a,k<=c'->Sep E (bE g (news++(Builtin.zeroCells zs.toArray (c'-k)).toList)::L) a->G ⟨some ⟨g,0,none⟩,k,c'⟩ a):
  ∃b:Sl,∃a,Sem.run P (Builtin.append_ #[st,f] ty #[.slice none 0 c,x]) w=.ok (.slice b.p b.n b.c) a/\G b a:=by
 obtain⟨e,i,z,t,q,u,l,m,n⟩:=pQ r;subst l m n;have hold:(Builtin.firstCells i.size 0 (.slice none 0 c)).run P w.drew=.ok ([]:List Value).toArray w.drew:=run_firstCells_none w.drew i.size 0 0 c;have p:=run_append_grow_src w st f ty e i z t q u none 0 c [] hold x k news s bA (by simpa using j) (by simpa using d);refine⟨⟨_,_,_⟩,_,p,?_⟩;have o:0+k=k:=e5 k;rw[o];refine v w.heap.size (grownCap w k c e) _ ?_ ?_;·show k<=k+_;omega
 ·have:=h.drew.alloc (news.toArray++Builtin.zeroCells z.cells (grownCap w k c e-k)) e;simpa using this
end
end Go.Sp
namespace Go.Sp
open Go Go.Vc
inductive LK where
 |int (k:IntKind)|bool|str
def LK.ok:LK->Value->Prop
 |.int k,v=>∃n,v=.int k n
 |.bool,v=>∃b,v=.bool b
 |.str,v=>∃s,v=.string s
def kS(P:Program)(a:TypeId->Option (List LK)):List Field->Nat->Option (List LK)
 |[],_=>some []
 |f::fs,o=>match f.name== "_",Nat.beq f.offset o,a f.type with
  |false,true,some l=>match h7 P f.type with
   |some n=>match Nat.beq n l.length with
    |true=>match kS P a fs (o+l.length)with
     |some r=>some (l++r)
     |none=>none
    |false=>none
   |none=>none
  |_,_,_=>none
def j6(P:Program):Nat->TypeId->Option (List LK)
 |0,_=>none
 |d+1,t=>match P.underlying t with
  |some (.int k)=>some [.int k]
  |some .bool=>some [.bool]
  |some .string=>some [.str]
  |some (.struct fs)=>match P.stoodInHeld t with
   |true=>none
   |false=>kS P (j6 P d) fs.toList 0
  |_=>none
def Cells:List LK->List Value->Prop
 |[],[]=>True
 |k::ks,v::vs=>k.ok v/\Cells ks vs
 |_,_=>False
def Cells.length:∀ {l:List LK} {vs:List Value},Cells l vs->vs.length=l.length
 |[],[],_=>rfl
 |_::_,_::_,h=>by simp[Cells.length h.2]
 |[],_::_,h=>h.elim
 |_::_,[],h=>h.elim
def Cells.append:∀ {l r:List LK} {vs:List Value},Cells (l++r) vs->Cells l (vs.take l.length)/\Cells r (vs.drop l.length)
 |[],_,_,h=>⟨trivial,h⟩
 |_::_,_,_::_,h=>⟨⟨h.1,(Cells.append h.2).1⟩,(Cells.append h.2).2⟩
 |_::_,_,[],h=>h.elim
def Typed(P:Program)(t:TypeId)(l:List LK)(v:Value):Prop:=
 match dW P t with
 |some true=>∃cs:Array Value,v=.agg cs/\Cells l cs.toList
 |_=>Cells l [v]
section
variable{P:Program}
def Ve{t:TypeId}{n:Nat}(h:h7 P t=some n):∃i,P.info? t=some i/\i.size=n:=by
 unfold h7 at h;cases a:P.info? t with
 |none=>simp[a]at h
 |some i=>simp[a]at h;exact⟨i,rfl,h⟩
def BU{l:LK}{a b:Value}(c:l.ok a)(e:l.ok b){t:TypeId}(d:Nat)(f:(match l with | .int k=>P.underlying t=some (.int k) | .bool=>P.underlying t=some .bool | .str=>P.underlying t=some .string))(w:World):
  ∃r,(Op.equalIn (d+1) t a b).run P w=.ok r w/\(r=true↔a=b):=by
 cases l with
 |int k=>
  obtain⟨x,rfl⟩:=c;obtain⟨y,rfl⟩:=e;exact⟨x==y,run_equalIn_int w d t k k x y f,by simp⟩
 |bool=>
  obtain⟨x,rfl⟩:=c;obtain⟨y,rfl⟩:=e;exact⟨x==y,run_equalIn_bool w d t x y f,by simp⟩
 |str=>
  obtain⟨x,rfl⟩:=c;obtain⟨y,rfl⟩:=e;refine⟨x.toList==y.toList,run_equalIn_string w d t x y f,?_⟩;rw[<- beq_toListBytes,MapKept.bytes_beq];simp
def BV{t:TypeId}{d:TypeDesc}(h:P.underlying t=some d)(h1:∀fs,d≠ .struct fs)(a:∀n e,d≠ .array n e):dW P t=some false:=by
 unfold dW;rw[h];cases d<;>simp_all
def BW{t:TypeId}{l r:List LK}{n:Nat}{xs:Array Value}{o:Nat}(y:h7 P t=some n)(s:n=l.length)(p:dW P t≠none)(h1:dW P t=some false->l.length=1)(q:Cells (l++r) (xs.toList.drop o))(w:World):
  ∃v,(part t xs o).run P w=.ok v w/\Typed P t l v/\v.cells.toList=(xs.toList.drop o).take l.length/\(dW P t=some false->xs.toList.drop o=v::xs.toList.drop (o+1)):=by
 obtain⟨i,x,u⟩:=Ve y;obtain⟨m,_⟩:=q.append;cases a:dW P t with
 |none=>exact absurd a p
 |some b=>cases b with
  |true=>
   have c:(isAgg t).run P w=.ok true w:=by
    unfold dW at a;cases hu:P.underlying t with
    |none=>simp[hu]at a
    |some d=>cases d<;>simp[hu]at a<;>simp[isAgg,run_underlying hu]
   refine⟨.agg (xs.extract o (o+n)),?_,?_,?_,λh=>by simp at h⟩;·simp[part,c,sizeOf,typeInfo,x,u]
   ·unfold Typed;rw[a];refine⟨_,rfl,?_⟩;have:(xs.extract o (o+n)).toList=(xs.toList.drop o).take l.length:=by
     rw[Array.toList_extract,List.extract,s];simp
    rw[this];exact m
   ·show(xs.extract o (o+n)).toList=_;rw[Array.toList_extract,List.extract,s];simp
  |false=>
   have c:(isAgg t).run P w=.ok false w:=by
    unfold dW at a;cases hu:P.underlying t with
    |none=>simp[hu]at a
    |some d=>cases d<;>simp[hu]at a<;>simp[isAgg,run_underlying hu]
   have f:=h1 a;have hlen:=q.length;simp only[da,nY,uN]at hlen;have ho:o<xs.size:=by omega
   have j:xs.toList.drop o=xs[o]::xs.toList.drop (o+1):=by
    rw[ln (by simpa using ho)];simp
   rw[f,j]at m;have e:Cells l [xs[o]]:=by simpa using m
   have g:xs[o].cells.toList= [xs[o]]:=by
    cases l with
    |nil=>simp at f
    |cons k ks=>
     have:=e.1;cases k<;>(obtain⟨_,h⟩:=this;rw[h];rfl)
   refine⟨xs[o],?_,?_,?_,λ_=>j⟩;·simp[part,c,ho]
   ·unfold Typed;rw[a];exact e
   ·rw[g,f,j];simp
def Ii{d:Nat}{t:TypeId}{l:List LK}(h:j6 P d t=some l):dW P t≠none/\(dW P t=some false->l.length=1):=by
 cases d with
 |zero=>simp[j6]at h
 |succ d=>
  unfold j6 at h;unfold dW;cases hu:P.underlying t with
  |none=>simp[hu]at h
  |some x=>cases x<;>simp[hu]at h<;>simp<;>(try subst h)<;>rfl
def Ij:∀(d:Nat) (t:TypeId) (l:List LK),j6 P d t=some l->∀(D:Nat),d<=D->∀(a b:Value),Typed P t l a->Typed P t l b->∀w,∃r,(Op.equalIn D t a b).run P w=.ok r w/\(r=true↔a=b):=by
 intro d;induction d with
 |zero=>intro t l h;simp[j6]at h
 |succ d ae=>
  intro t l h D aj a b g i w;obtain⟨D,rfl⟩:∃Y,D=Y+1:=⟨D-1,bA⟩
  unfold j6 at h;cases hu:P.underlying t with
  |none=>simp[hu]at h
  |some x=>
   cases x<;>simp only[hu]at h<;>try (simp at h;done)
   case bool=>
    simp only[eF]at h;subst h;have j:=BV hu (by simp) (by simp);unfold Typed at g i;rw[j]at g i;exact BU (l:=.bool) g.1 i.1 D hu w
   case int k=>
    simp only[eF]at h;subst h;have j:=BV hu (by simp) (by simp);unfold Typed at g i;rw[j]at g i;exact BU (l:=.int k) g.1 i.1 D hu w
   case string=>
    simp only[eF]at h;subst h;have j:=BV hu (by simp) (by simp);unfold Typed at g i;rw[j]at g i;exact BU (l:=.str) g.1 i.1 D hu w
   case struct fs=>
    cases B:P.stoodInHeld t with
    |true=>simp[B]at h
    |false=>
     simp only[B]at h;have j:dW P t=some true:=by unfold dW;rw[hu]
     unfold Typed at g i;rw[j]at g i;obtain⟨xs,rfl,hx⟩:=g;obtain⟨s,rfl,ad⟩:=i;have hf:P.fieldsOf t=fs:=by simp[Program.fieldsOf,hu]
     have q:=run_equalIn_struct (P:=P) w D t xs s (by rw[hf];exact hu) B;rw[hf]at q;rw[q];have key:∀(y:List Field) (o:Nat) (l:List LK),kS P (j6 P d) y o=some l->Cells l (xs.toList.drop o)->Cells l (s.toList.drop o)->∃r,(Op.eqFields D xs s y).run P w=.ok r w/\(r=true↔xs.toList.drop o=s.toList.drop o):=by
      intro y;induction y with
      |nil=>
       intro o l c h1 E;simp only[kS,eF]at c;subst c;have q:=h1.length;have C:=E.length;refine⟨true,by simp[Op.eqFields],?_⟩;simp only[rb]at q C;simp[uG q,uG C]
      |cons f y V=>
       intro o l c h1 E;unfold kS at c;split at c
       ·next m ab ho G=>
        split at c
        ·next n T=>
         split at c
         ·next Q=>
          split at c
          ·next r K=>
           simp only[eF]at c;subst c;have H:f.name≠ "_" :=by simpa using ab
           have R:=je ho;have A:=je Q;obtain⟨L,q2⟩:=Ii G;obtain⟨M,W,u,ca,_⟩:=BW T A L q2 h1 w;obtain⟨N,X,tb,aa,_⟩:=BW T A L q2 E w;obtain⟨af,F,I⟩:=ae f.type m G D bA M N u tb w;have d1:=h1.append.2;have d2:=E.append.2;rw[n0]at d1 d2;obtain⟨ag,O,S⟩:=V (o+m.length) r K d1 d2;have z:M=N↔(xs.toList.drop o).take m.length=(s.toList.drop o).take m.length:=by
            rw[<- ca,<- aa];constructor;·intro e;rw[e]
            ·intro e;unfold Typed at u tb;cases j:dW P f.type with
             |none=>exact absurd j L
             |some Z=>cases Z with
              |true=>
               rw[j]at u tb;obtain⟨ah,rfl,_⟩:=u;obtain⟨ai,rfl,_⟩:=tb;have:ah.toList=ai.toList:=e;rw[Array.toList_inj.1 this]
              |false=>
               rw[j]at u tb;have one:∀ {v:Value},Cells m [v]->v.cells.toList= [v]:=by
                intro v U;cases m with
                |nil=>exact U.elim
                |cons k ks=>
                 have:=U.1;cases k<;>(obtain⟨_,h⟩:=this;rw[h];rfl)
               rw[one u,one tb]at e;simpa using e
           have p:(xs.toList.drop o=s.toList.drop o)↔(M=N/\xs.toList.drop (o+m.length)=s.toList.drop (o+m.length)):=by
            rw[z,<- n0,<- n0];constructor;·intro e;rw[e];exact⟨rfl,rfl⟩
            ·rintro⟨q,C⟩;rw[<- fA m.length (xs.toList.drop o),q,C,fA]
           subst R;cases af with
           |false=>
            refine⟨false,?_,?_⟩;·simp[Op.eqFields,H,W,X,F]
            ·rw[p];constructor;·intro h;cases h
             ·intro h;exact absurd (I.2 h.1) (by simp)
           |true=>
            refine⟨ag,?_,?_⟩
            ·simp only[Op.eqFields,bM H,Sem.run_bind,W,X,F,Result.andThen_ok];simpa using O
            ·rw[p,S];exact⟨λh=>⟨I.1 rfl,h⟩,λh=>h.2⟩
          ·simp at c
         ·simp at c
        ·simp at c
       ·simp at c
     obtain⟨r,K,J⟩:=key fs.toList 0 l h (by simpa using hx) (by simpa using ad);refine⟨r,K,?_⟩;rw[J];simp only[sM,Value.agg.injEq];exact Array.toList_inj
def jY.neq{d:Nat}{t:TypeId}{l:List LK}(i:j6 P d t=some l)(g:d<=10000)(h:P.eqGuardType P.depth t=false)(f:dW P t=some true){a b:Value}(c:Typed P t l a)(e:Typed P t l b):∃r,jY P .neq t a b r/\(r=false↔a=b):=by
 have key:=Ij d t l i 10000 g a b c e;unfold Typed at c e;rw[f]at c e;obtain⟨xs,rfl,_⟩:=c;obtain⟨o,rfl,_⟩:=e;obtain⟨r,_,k⟩:=key default;refine⟨!r,⟨λm n w=>by simp[eqGuard,h],λw=>?_⟩,by cases r<;>simp_all⟩;obtain⟨r',h1,j⟩:=key w;have:r'=r:=by cases r<;>cases r'<;>simp_all
 subst this;rw[run_neq_struct,h1];rfl
def Vf(e:Bool):∀(d:Nat) (t:TypeId) (l:List LK),j6 P d t=some l->∀(D:Nat),d<=D->∀(a:Value),Typed P t l a->∀w,(Instr.checkKey e D t a).run P w=.ok () w:=by
 intro d;induction d with
 |zero=>intro t l h;simp[j6]at h
 |succ d G=>
  intro t l h D L a j w;obtain⟨D,rfl⟩:∃y,D=y+1:=⟨D-1,bA⟩
  unfold j6 at h;cases hu:P.underlying t with
  |none=>simp[hu]at h
  |some x=>
   cases x<;>simp only[hu]at h<;>try (simp at h;done)
   case bool=>simp[Instr.checkKey,run_underlying hu]
   case int k=>simp[Instr.checkKey,run_underlying hu]
   case string=>simp[Instr.checkKey,run_underlying hu]
   case struct fs=>
    cases i:P.stoodInHeld t with
    |true=>simp[i]at h
    |false=>
     simp only[i]at h;have C:dW P t=some true:=by unfold dW;rw[hu]
     unfold Typed at j;rw[C]at j;obtain⟨xs,rfl,hx⟩:=j;have key:∀(c:List Field) (o:Nat) (l:List LK),kS P (j6 P d) c o=some l->Cells l (xs.toList.drop o)->
       (forIn c PUnit.unit λf _=>do
        if f.name≠ "_" then Instr.checkKey e D f.type (<- part f.type xs f.offset)
        pure (ForInStep.yield PUnit.unit):Sem PUnit).run P w=.ok PUnit.unit w:=by
      intro c;induction c with
      |nil=>intro o l b h1;simp
      |cons f c u=>
       intro o l b h1;unfold kS at b;split at b
       ·next v B ho g=>
        split at b
        ·next n F=>
         split at b
         ·next q=>
          split at b
          ·next r E=>
           simp only[eF]at b;subst b;have p:f.name≠ "_" :=by simpa using B
           have s:=je ho;have m:=je q;obtain⟨I,q2⟩:=Ii g;obtain⟨K,H,J,ca,_⟩:=BW F m I q2 h1 w;have d1:=h1.append.2;rw[n0]at d1;have A:=u (o+v.length) r E d1;subst s;have z:=G f.type v g D bA K J w;simp only[List.forIn_cons,Sem.run_bind,bM p,H,z,Result.andThen_ok,Sem.run_pure];exact A
          ·simp at b
         ·simp at b
        ·simp at b
       ·simp at b
     have:=key fs.toList 0 l h (by simpa using hx);simp only[Instr.checkKey,Sem.run_bind,run_underlying hu,Result.andThen_ok];simp at this ⊢;rw[this];rfl
end
end Go.Sp
namespace Go.Sp
open Go Go.Vc
structure hM(P:Program)(kt:TypeId){κ:Type}(enc:κ->Value):Prop where
 inj:∀a b,enc a=enc b->a=b
 nt:∀e k w,(Instr.checkKey e 10000 kt (enc k)).run P w=.ok () w
 some_:∀k (es:List MapEntry) i e w,(∀e∈es,∃k',e.key=enc k')->es[i]?=some e->e.key=enc k->(∀j e',j<i->es[j]?=some e'->e'.key≠enc k)->(Instr.findKey kt (enc k) es).run P w=.ok (some (i,e.val)) w
 none_:∀k (es:List MapEntry) w,(∀e∈es,∃k',e.key=enc k')->(∀e∈es,e.key≠enc k)->(Instr.findKey kt (enc k) es).run P w=.ok none w
 stay:∀k,Instr.sameBits 10000 (enc k) (enc k)=true
section
variable{P:Program}{kt:TypeId}
def Ik{d:TypeDesc}{k:Value}:
  ∀(es:List MapEntry) (n i:Nat) (e:MapEntry),es[i]?=some e->Instr.sameNow d k e.key=some true->(∀j e',j<i->es[j]?=some e'->Instr.sameNow d k e'.key=some false)->Instr.findNow d k es n=some (some (n+i,e.val))
 |[],_,_,_,h,_,_=>by simp at h
 |x::es,n,0,e,h,h1,_=>by
  simp only[lo,eF]at h;subst h;simp[Instr.findNow,h1]
 |x::es,n,i+1,e,h,h1,a=>by
  have b:=a 0 x bA rfl;simp only[Instr.findNow,b];rw[Ik es (n+1) i e (by simpa using h) h1 (λj e' c he=>a (j+1) e' bA (by simpa using he))];rw[show n+1+i=n+(i+1) by omega]
def Il{d:TypeDesc}{k:Value}:∀(es:List MapEntry) (n:Nat),(∀e∈es,Instr.sameNow d k e.key=some false)->Instr.findNow d k es n=some none
 |[],_,_=>rfl
 |x::es,n,h=>by
  simp only[Instr.findNow,h x (by simp)];exact Il es (n+1) (λe he=>h e (by simp[he]))
def Vg{q:IntKind}(a:P.underlying kt=some (.int q))(e:Bool)(n:Nat)(v:Value)(w:World):(Instr.checkKey e (n+1) kt v).run P w=.ok () w:=by
 simp[Instr.checkKey,run_underlying a]
def Im(n:Nat)(q:IntKind)(k:Int):Instr.sameBits n (.int q k) (.int q k)=true:=by
 cases n<;>simp[Instr.sameBits]
def Vh(n:Nat)(k:Bool):Instr.sameBits n (.bool k) (.bool k)=true:=by
 cases n<;>simp[Instr.sameBits]
def Vi(n:Nat)(k:ByteArray):Instr.sameBits n (.string k) (.string k)=true:=by
 cases n<;>simp[Instr.sameBits,MapKept.bytes_beq]
def hM.int{q:IntKind}(l:P.underlying kt=some (.int q)):hM P kt (λn:Int=>Value.int q n) where
 inj:=λa b h=>by simpa using h
 nt:=λe k w=>Vg l e 9999 _ w
 some_:=λk es i e w f s o p=>by
  have hf:∀e'∈es,∃n,e'.key=.int q n:=f;have:=Ik (d:=.int q) (k:=.int q k) es 0 i e s (by rw[o];simp[Instr.sameNow]) (λj e' t he=>by
   obtain⟨n,m⟩:=hf e' (eu he);have c:=p j e' t he;rw[m]at c ⊢;simp only[Instr.sameNow,fP,eF,uM];intro g;exact c (by rw[g]))
  simp[Instr.findKey,run_underlying l,this]
 none_:=λk es w f r=>by
  have:=Il (d:=.int q) (k:=.int q k) es 0 (λe he=>by
   obtain⟨n,m⟩:=f e he;have c:=r e he;rw[m]at c ⊢;simp only[Instr.sameNow,fP,eF,uM];intro g;exact c (by rw[g]))
  simp[Instr.findKey,run_underlying l,this]
 stay:=λk=>Im _ _ _
def Io{k:Value}{w:World}:∀(es:List MapEntry) (n i:Nat) (e:MapEntry),(∀e∈es,∃r:Bool,(Op.equal kt k e.key).run P w=.ok r w/\(r=true↔k=e.key))->es[i]?=some e->e.key=k->(∀j e',j<i->es[j]?=some e'->e'.key≠k)->
  (Instr.findAsking kt k es n).run P w=.ok (some (n+i,e.val)) w
 |[],_,_,_,_,h,_,_=>by simp at h
 |x::es,n,0,e,b,h,h1,_=>by
  simp only[lo,eF]at h;subst h;obtain⟨r,c,a⟩:=b x (by simp);have:r=true:=a.2 h1.symm;subst this;simp[Instr.findAsking,c]
 |x::es,n,i+1,e,b,h,h1,d=>by
  obtain⟨r,c,a⟩:=b x (by simp);have:r=false:=by
   cases r with
   |false=>rfl
   |true=>exact absurd (a.1 rfl).symm (d 0 x bA rfl)
  subst this;have f:=Io (k:=k) (w:=w) es (n+1) i e (λe he=>b e (by simp[he])) (by simpa using h) h1 (λj e' g he=>d (j+1) e' bA (by simpa using he));simp only[Instr.findAsking,Sem.run_bind,c,Result.andThen_ok,kK,gq];rw[f,show n+1+i=n+(i+1) by omega]
def Ip{k:Value}{w:World}:∀(es:List MapEntry) (n:Nat),(∀e∈es,∃r:Bool,(Op.equal kt k e.key).run P w=.ok r w/\(r=true↔k=e.key))->(∀e∈es,e.key≠k)->
  (Instr.findAsking kt k es n).run P w=.ok none w
 |[],_,_,_=>by simp[Instr.findAsking]
 |x::es,n,a,h=>by
  obtain⟨r,c,b⟩:=a x (by simp);have:r=false:=by
   cases r with
   |false=>rfl
   |true=>exact absurd (b.1 rfl).symm (h x (by simp))
  subst this;have d:=Ip (k:=k) (w:=w) es (n+1) (λe he=>a e (by simp[he])) (λe he=>h e (by simp[he]));simp only[Instr.findAsking,Sem.run_bind,c,Result.andThen_ok,kK,gq];exact d
def Vj{fs:Array Field}{k:Value}:∀(es:List MapEntry),Instr.findNow (.struct fs) k es 0=some none\/Instr.findNow (.struct fs) k es 0=none
 |[]=>.inl rfl
 |x::es=>.inr (by simp[Instr.findNow,Instr.sameNow])
def Vk{cs:Array Value}(n:Nat)(h:∀v∈cs.toList,Instr.sameBits n v v=true):Instr.sameBits (n+1) (.agg cs) (.agg cs)=true:=by
 simp only[Instr.sameBits,uQ,lr,fB];intro x hx;obtain⟨i,a,rfl⟩:=h5.1 hx;rw[List.getElem_zip];exact h _ (m7 _)
def hM.agg{κ:Type}{enc:κ->Value}{d:Nat}{l:List LK}(m:∀a b,enc a=enc b->a=b)(j:j6 P d kt=some l)(o:d<=10000)(g:dW P kt=some true)(n:∀k,Typed P kt l (enc k)):hM P kt enc:=by
 have hu:∃fs,P.underlying kt=some (.struct fs):=by
  cases d with
  |zero=>simp[j6]at j
  |succ d=>
   unfold j6 at j;unfold dW at g;cases hu:P.underlying kt with
   |none=>simp[hu]at g
   |some x=>cases x<;>simp[hu]at j g ⊢
 obtain⟨fs,hu⟩:=hu;have heq:∀k (es:List MapEntry) (w:World),(∀e∈es,∃k',e.key=enc k')->∀e∈es,∃r:Bool,(Op.equal kt (enc k) e.key).run P w=.ok r w/\(r=true↔enc k=e.key):=by
  intro k es w c e he;obtain⟨k',p⟩:=c e he;rw[p];exact Ij d kt l j 10000 o _ _ (n k) (n k') w
 refine⟨m,λe k w=>Vf e d kt l j 10000 o _ (n k) w,λk es i e w c m y q=>?_,λk es w c t=>?_,λk=>?_⟩
 ·have hf:=Io (kt:=kt) (P:=P) (k:=enc k) (w:=w) es 0 i e (heq k es w c) m y q;rw[e5]at hf;have s:Instr.findNow (.struct fs) (enc k) es 0=none:=by
   cases es with
   |nil=>simp at m
   |cons x xs=>simp[Instr.findNow,Instr.sameNow]
  simp[Instr.findKey,run_underlying hu,s,hf]
 ·have hf:=Ip (kt:=kt) (P:=P) (k:=enc k) (w:=w) es 0 (heq k es w c) t;rcases Vj (fs:=fs) (k:=enc k) es with h|h;·simp[Instr.findKey,run_underlying hu,h]
  ·simp[Instr.findKey,run_underlying hu,h,hf]
 ·have:=n k;unfold Typed at this;rw[g]at this;obtain⟨cs,he,u⟩:=this;rw[he];refine Vk 9999 (λv f=>?_);have go:∀(l:List LK) (vs:List Value),Cells l vs->∀v∈vs,Instr.sameBits 9999 v v=true:=by
   intro l;induction l with
   |nil=>intro vs h v f;cases vs with
    |nil=>cases f
    |cons _ _=>exact h.elim
   |cons k l z=>intro vs h v f;cases vs with
    |nil=>cases f
    |cons x vs=>
     rcases ey.1 f with rfl|f
     ·have:=h.1;cases k<;>(obtain⟨_,h⟩:=this;rw[h])
      ·exact Im _ _ _
      ·exact Vh _ _
      ·exact Vi _ _
     ·exact z vs h.2 v f
  exact go l _ u v f
end
structure h9{κ:Type}(enc:κ->Value)(f:κ->Option Value)(es:List MapEntry)(ck:Nat):Prop where
 key:∀e∈es,∃k,e.key=enc k/\f k=some e.val
 has:∀k v,f k=some v->∃e∈es,e.key=enc k/\e.val=v
 one:es.Pairwise (λa b=>a.key≠b.key)
 born:∀e∈es,e.born<ck
 kT:es.Pairwise (λa b=>a.born≠b.born)
def cB{κ:Type}(b:Nat)(enc:κ->Value)(f:κ->Option Value):Asn:=
 ⟨λh F=>(∃es ck,h[b]?=some (.map es.toArray ck)/\h9 enc f es ck)/\∀x,F x↔x=b,λa c=>⟨by rw[c b ((a.2 b).2 rfl)];exact a.1,a.2⟩⟩
def cK{κ:Type}[DecidableEq κ]{α:Type}(f:κ->Option α)(k:κ)(v:Option α):κ->Option α:=λx=>if x=k then v else f x
section
variable{P:Program}{κ:Type}[DecidableEq κ]{enc:κ->Value}{f:κ->Option Value}{es:List MapEntry}{ck:Nat}{kt:TypeId}
omit [DecidableEq κ] in
def h9.keys(M:h9 enc f es ck):∀e∈es,∃k,e.key=enc k:=λe he=>let ⟨k,h,_⟩:=M.key e he;⟨k,h⟩
omit [DecidableEq κ] in
def h9.at_(M:h9 enc f es ck){i:Nat}{e:MapEntry}(d:es[i]?=some e):∀j e',j<i->es[j]?=some e'->e'.key≠e.key:=by
 intro j e' g he;obtain⟨h1,a⟩:=cT.1 d;obtain⟨b,c⟩:=cT.1 he;have:=m5.1 M.one j i b h1 g;rw[a,c]at this;exact this
omit [DecidableEq κ] in
def h9.gD(K:hM P kt enc)(M:h9 enc f es ck){k:κ}{v:Value}(hf:f k=some v)(w:World):∃i e,es[i]?=some e/\e.key=enc k/\e.val=v/\(Instr.findKey kt (enc k) es).run P w=.ok (some (i,v)) w:=by
 obtain⟨e,he,b,d⟩:=M.has k v hf;obtain⟨i,g,rfl⟩:=h5.1 he;have a:es[i]?=some es[i]:=dD g;refine⟨i,es[i],a,b,d,?_⟩;rw[<- d];exact K.some_ k es i es[i] w M.keys a b (λj e' h c=>b▸M.at_ a j e' h c)
omit [DecidableEq κ] in
def h9.fK(K:hM P kt enc)(M:h9 enc f es ck){k:κ}(hf:f k=none)(w:World):(Instr.findKey kt (enc k) es).run P w=.ok none w:=
 K.none_ k es w M.keys (λe he b=>by
  obtain⟨k',h1,a⟩:=M.key e he;have:k'=k:=K.inj _ _ (h1.symm.trans b);rw[this,hf]at a;cases a)
omit [DecidableEq κ] in
def h9.empty:h9 enc (λ_=>none) [] 0:=⟨by simp,by simp,List.Pairwise.nil,by simp,List.Pairwise.nil⟩
def h9.put(K:hM P kt enc)(M:h9 enc f es ck){k:κ}{i:Nat}{e:MapEntry}(t:es[i]?=some e)(r:e.key=enc k)(v:Value):
  h9 enc (cK f k (some v)) (es.set i {e with key:=enc k,val:=v}) ck:=by
 obtain⟨c,g⟩:=cT.1 t;have m:(es.set i {e with key:=enc k,val:=v}).map (·.key)=es.map (·.key):=by
  rw[hq];apply g6;intro j;rw[jg];split;·next h=>subst h;simp[c,g,r]
  ·rfl
 have d:(es.set i {e with key:=enc k,val:=v}).map (·.born)=es.map (·.born):=by
  rw[hq];apply g6;intro j;rw[jg];split;·next h=>subst h;simp[c,g]
  ·rfl
 refine⟨?_,?_,?_,?_,?_⟩
 ·intro x hx;obtain⟨j,q,rfl⟩:=h5.1 hx;rw[G7];split;·exact⟨k,rfl,by simp[cK]⟩
  ·next o=>
   have l:j<es.length:=by simpa using q
   obtain⟨k',h1,p⟩:=M.key es[j] (m7 l);refine⟨k',h1,?_⟩;have:k'≠k:=by
    rintro rfl;have n:es[j].key=es[i].key:=by rw[h1,g,r]
    rcases gS i j with h|h;·exact m5.1 M.one i j c l h n.symm
    ·exact m5.1 M.one j i l c bA n
   simp[cK,this,p]
 ·intro k' w h;unfold cK at h;split at h
  ·next he=>
   simp only[eF]at h;subst he h;exact⟨{e with key:=enc k',val:=v},h5.2 ⟨i,by simpa using c,by simp⟩,rfl,rfl⟩
  ·next o=>
   obtain⟨x,hx,h1,p⟩:=M.has k' w h;obtain⟨j,q,rfl⟩:=h5.1 hx;have s:i≠j:=by
    rintro rfl;exact o (K.inj _ _ (by rw[<- h1,<- r,g]))
   refine⟨es[j],h5.2 ⟨j,by simpa using q,by rw[G7,bJ s]⟩,h1,p⟩
 ·have:=M.one;rw[<- jK (f:=λe:MapEntry=>e.key) (R:=λa b=>a≠b)]at this ⊢;rw[m];exact this
 ·intro x hx;have:x.born∈(es.set i {e with key:=enc k,val:=v}).map (·.born):=e4.2 ⟨x,hx,rfl⟩;rw[d]at this;obtain⟨y,u,he⟩:=e4.1 this;rw[<- he];exact M.born y u
 ·have:=M.kT;rw[<- jK (f:=λe:MapEntry=>e.born) (R:=λa b=>a≠b)]at this ⊢;rw[d];exact this
def h9.add(K:hM P kt enc)(M:h9 enc f es ck){k:κ}(hf:f k=none)(v:Value):h9 enc (cK f k (some v)) (es++[{key:=enc k,val:=v,born:=ck}]) (ck+1):=by
 refine⟨?_,?_,?_,?_,?_⟩
 ·intro x hx;rcases h6.1 hx with hx|hx
  ·obtain⟨k',h1,c⟩:=M.key x hx;refine⟨k',h1,?_⟩;have:k'≠k:=by rintro rfl;rw[hf]at c;cases c
   simp[cK,this,c]
  ·simp only[iD]at hx;subst hx;exact⟨k,rfl,by simp[cK]⟩
 ·intro k' g h;unfold cK at h;split at h
  ·next he=>
   simp only[eF]at h;subst he h;exact⟨{key:=enc k',val:=v,born:=ck},by simp,rfl,rfl⟩
  ·obtain⟨x,hx,h1,c⟩:=M.has k' g h;exact⟨x,by simp[hx],h1,c⟩
 ·rw[jf];refine⟨M.one,GL _ _,λa e b d=>?_⟩;simp only[iD]at d;subst d;obtain⟨k',h1,c⟩:=M.key a e;intro h;have:k'=k:=K.inj _ _ (h1.symm.trans h);rw[this,hf]at c;cases c
 ·intro x hx;rcases h6.1 hx with hx|hx;·have:=M.born x hx;omega
  ·simp only[iD]at hx;subst hx;simp
 ·rw[jf];refine⟨M.kT,GL _ _,λa e b d=>?_⟩;simp only[iD]at d;subst d;have:=M.born a e;simp;omega
def h9.del(K:hM P kt enc)(M:h9 enc f es ck){k:κ}{i:Nat}{e:MapEntry}(p:es[i]?=some e)(n:e.key=enc k):h9 enc (cK f k none) (es.eraseIdx i) ck:=by
 obtain⟨l,c⟩:=cT.1 p;have a:=List.eraseIdx_sublist es i;refine⟨?_,?_,M.one.sublist a,λx hx=>M.born x (a.subset hx),M.kT.sublist a⟩
 ·intro x hx;obtain⟨j,b,d,he⟩:=bf4.1 hx;subst he;obtain⟨k',h1,m⟩:=M.key es[j] (m7 b);refine⟨k',h1,?_⟩;have:k'≠k:=by
   rintro rfl;have g:es[j].key=es[i].key:=by rw[h1,c,n]
   rcases gS i j with h|h;·exact m5.1 M.one i j l b h g.symm
   ·exact m5.1 M.one j i b l bA g
  simp[cK,this,m]
 ·intro k' q h;unfold cK at h;split at h;·cases h
  ·next o=>
   obtain⟨x,hx,h1,m⟩:=M.has k' q h;obtain⟨j,b,rfl⟩:=h5.1 hx;have d:j≠i:=by
    rintro rfl;exact o (K.inj _ _ (by rw[<- h1,<- n,c]))
   exact⟨es[j],bf4.2 ⟨j,b,d,rfl⟩,h1,m⟩
def Vl{k:κ}{α:Type}{f:κ->Option α}(hf:f k=none):cK f k none=f:=by
 funext x;unfold cK;split;·next h=>subst h;exact hf.symm
 ·rfl
end
section
variable{E:Env}{L:ch}{w:World}{P:Program}{κ:Type}[DecidableEq κ]{enc:κ->Value}{f:κ->Option Value}{b:Nat}
omit [DecidableEq κ] in
def cB.at_{i:Nat}(h:Sep E L w)(a:L[i]?=some (cB b enc f)):∃es ck,w.heap[b]?=some (.map es.toArray ck)/\h9 enc f es ck:=by
 obtain⟨_,F,⟨h1,_⟩,_⟩:=h.fr i a;exact h1
omit [DecidableEq κ] in
def cB.set{l:Type}{c:l->Value}{f':l->Option Value}(h:Sep E (cB b enc f::L) w){d:List MapEntry}{a:Nat}(M:h9 c f' d a):Sep E (cB b c f'::L) {w with heap:=w.heap.setIfInBounds b (.map d.toArray a)} :=by
 have g:b<w.heap.size:=by
  obtain⟨es,ck,g,_⟩:=cB.at_ (i:=0) h rfl;exact(pv.1 g).1
 refine h.change rfl (by simp) (λF j k=>⟨λx _ hx=>?_,F,⟨⟨d,a,?_,M⟩,j.2⟩,λx hx=>⟨?_,.inl hx⟩⟩)
 ·have:b≠x:=λe=>hx ((j.2 x).2 e.symm);show(w.heap.setIfInBounds b _)[x]?=_;rw[oG,bJ this]
 ·show(w.heap.setIfInBounds b _)[b]?=_;rw[oG,bM rfl,bM g]
 ·simpa using k x hx
omit [DecidableEq κ] in
def cB.new{g:Nat->bh6}(h:Sep E L w)(k:∀b a,Sep E (cB b enc (λ_=>none)::L) a->g b a):mE g w:=
 k _ _ (h.new (Grow.alloc w _) (F':=λx=>x=w.heap.size) ⟨⟨[],0,heap_alloc w _,h9.empty⟩,λ_=>lS⟩ (λb c=>by subst c;rw[size_alloc];omega))
def mQ(P:Program)(t:TypeId):Option (TypeId×Value):=
 match P.underlying t with
 |some (.map k e)=>match pJ P e with
  |some z=>some (k,z)
  |none=>none
 |_=>none
def Vn{t:TypeId}{z:Value}(h:pJ P t=some z)(w:World):(zeroValue t).run P w=.ok z w:=by
 unfold pJ at h;cases a:P.info? t with
 |none=>simp[a]at h
 |some i=>simp[a]at h;simp[zeroValue,typeInfo,a,h]
def vl{t kt:TypeId}{z:Value}(h:mQ P t=some (kt,z)):∃e,P.underlying t=some (.map kt e)/\∀w,(zeroValue e).run P w=.ok z w:=by
 unfold mQ at h;split at h
 ·next k e he=>
  split at h
  ·next b a=>
   simp only[eF,xB]at h;obtain⟨rfl,rfl⟩:=h;exact⟨e,he,Vn a⟩
  ·simp at h
 ·simp at h
omit [DecidableEq κ] in
def gk.i{t kt:TypeId}{z:Value}(ok:Bool)(i:Nat)(h:Sep E L w)(l:L[i]?=some (cB b enc f))(K:hM P kt enc)(m:mQ P t=some (kt,z))(k:κ):
  gk P t (.map (some b)) (enc k) ok w (match ok with|true=>.tuple #[(f k).getD z,.bool (f k).isSome]|false=>(f k).getD z):=by
 intro w' g;obtain⟨e,d,n⟩:=vl m;obtain⟨es,ck,c,M⟩:=cB.at_ (h.grow g) l;cases hf:f k with
 |some v=>
  obtain⟨j,x,o,p,q,a⟩:=M.gD K hf w';cases ok<;>simp[Instr.lookup,run_underlying d,MapKept.run_getObj_map c,K.nt,a]
 |none=>
  have a:=M.fK K hf w';cases ok<;>simp[Instr.lookup,run_underlying d,MapKept.run_getObj_map c,K.nt,a,n]
def mapUpdate.i{t kt:TypeId}{z:Value}(h:Sep E (cB b enc f::L) w)(K:hM P kt enc)(l:mQ P t=some (kt,z))(k:κ)(v:Value){G:bh6}(g:∀c,Sep E (cB b enc (cK f k (some v))::L) c->G c):
  ∃c,Sem.run P (Instr.mapUpdate t (.map (some b)) (enc k) v) w=.ok () c/\G c:=by
 obtain⟨e,r,u⟩:=vl l;obtain⟨es,ck,d,M⟩:=cB.at_ (i:=0) h rfl;cases hf:f k with
 |some v0=>
  obtain⟨j,x,m,o,s,a⟩:=M.gD K hf w;refine⟨{w with heap:=w.heap.setIfInBounds b (.map (es.set j ({x with key:=enc k,val:=v} :MapEntry)).toArray ck)},?_,g _ (cB.set h (M.put K m o v))⟩;obtain⟨p,n⟩:=cT.1 m;have hm:es.modify j (λe=> {e with key:=enc k,val:=v})=es.set j {x with key:=enc k,val:=v} :=by
   apply g6;intro q;simp only[List.getElem?_modify,jg];by_cases l:j=q;·subst l;simp[p,n]
   ·simp[l]
  simp[Instr.mapUpdate,run_underlying r,MapKept.run_getObj_map d,K.nt,a,Instr.keyThatStays,m,o,K.stay,hm,MapKept.run_setObj_map _ d]
 |none=>
  have a:=M.fK K hf w;refine⟨{w with heap:=w.heap.setIfInBounds b (.map (es++[({key:=enc k,val:=v,born:=ck} :MapEntry)]).toArray (ck+1))},?_,g _ (cB.set h (M.add K hf v))⟩;simp[Instr.mapUpdate,run_underlying r,MapKept.run_getObj_map d,K.nt,a,MapKept.run_setObj_map _ d]
def gE.i{t kt u ty:TypeId}{z:Value}(h:Sep E (cB b enc f::L) w)(K:hM P kt enc)(p:mQ P t=some (kt,z))(k:κ){G:bh6}(g:∀c,Sep E (cB b enc (cK f k none)::L) c->G c):
  ∃c,Sem.run P (Builtin.delete_ #[t,u] ty #[.map (some b),enc k]) w=.ok (.tuple #[]) c/\G c:=by
 obtain⟨e,n,s⟩:=vl p;obtain⟨es,ck,d,M⟩:=cB.at_ (i:=0) h rfl;cases hf:f k with
 |some v0=>
  obtain⟨j,x,l,o,r,a⟩:=M.gD K hf w;obtain⟨m,q⟩:=cT.1 l;refine⟨{w with heap:=w.heap.setIfInBounds b (.map (es.eraseIdx j).toArray ck)},?_,g _ (cB.set h (M.del K l o))⟩;simp[Builtin.delete_,run_underlying n,MapKept.run_getObj_map d,K.nt,a,Array.eraseIdxIfInBounds,m,MapKept.run_setObj_map _ d]
 |none=>
  have a:=M.fK K hf w;refine⟨{w with heap:=w.heap.setIfInBounds b (.map es.toArray ck)},?_,g _ (by rw[Vl hf];exact cB.set h M)⟩;simp[Builtin.delete_,run_underlying n,MapKept.run_getObj_map d,K.nt,a,MapKept.run_setObj_map _ d]
end
end Go.Sp
namespace Go.Kc
open Go Go.Sp
structure Pg where
 kf:Int
 ki:Int
 place:Int
 at_:Int
 owner:Int
 refs:Int
 gen:Int
 Vo:Bool
 e6:Bool
def Pg.zero:Pg:=⟨0,0,0,0,0,0,0,false,false⟩
structure TS where
 pg:Int->Option Pg
 files:Int×Int->Option Int
 cV:Int×Int->Option Int
 next:Int
def TS.zero:TS:=⟨λ_=>none,λ_=>none,λ_=>none,0⟩
def TS.of(S:TS)(k:Int×Int):Int:=(S.files k).getD (-1)
def TS.at_(S:TS)(k:Int×Int):Int:=(S.cV k).getD (-1)
def TS.iw(S:TS)(kf ki o:Int):TS:={S with pg:=cK S.pg S.next (some ⟨kf,ki,0,0,o,0,0,false,false⟩),next:=i64.wrap (S.next+1)}
def TS.make(S:TS)(kf ki o:Int):TS×Int×Int:=
 if kf<0 then(S.iw (-1) S.next o,S.next,0)
 else if S.of (kf,ki)≥0 then(S, -1,4)
 else({S with files:=cK S.files (kf,ki) (some S.next)}.iw kf ki o,S.next,0)
def TS.get(S:TS)(id:Int):Pg×Int:=match S.pg id with
 |some p=>(p,0)
 |none=>(Pg.zero,2)
def TS.cI(S:TS)(id:Int)(p:Pg):TS:={S with pg:=cK S.pg id (some p)}
def TS.put(S:TS)(id place at_:Int):TS×Int:=match S.pg id with
 |none=>(S,2)
 |some p=>
  if place<0\/2<place\/at_<0\/(place=0/\at_≠0)then(S,1)
  else if 0<=S.at_ (place,at_)/\S.at_ (place,at_)≠id then(S,4)
  else({pg:=cK S.pg id (some {p with place:=place,at_:=at_}),files:=S.files,cV:=if place≠0 then cK (cK S.cV (p.place,p.at_) none) (place,at_) (some id)else cK S.cV (p.place,p.at_) none,next:=S.next},0)
def TS.bX(S:TS)(id n:Int):TS×Int×Int:=match S.pg id with
 |none=>(S,0,2)
 |some p=>if n< -1000\/1000<n\/i64.wrap (p.refs+n)<0 then(S,0,1)else(S.cI id {p with refs:=i64.wrap (p.refs+n)},i64.wrap (p.refs+n),0)
def TS.drop(S:TS)(id:Int):TS×Int:=match S.pg id with
 |none=>(S,2)
 |some p=>if 0<p.refs\/p.place≠0 then(S,4)else({S with pg:=cK S.pg id none,files:=cK S.files (p.kf,p.ki) none},0)
def TS.own(S:TS)(id o:Int):TS×Int:=match S.pg id with
 |none=>(S,2)
 |some p=>(S.cI id {p with owner:=o},0)
def TS.mark(S:TS)(id:Int)(d:Bool):TS×Int:=match S.pg id with
 |none=>(S,2)
 |some p=>(S.cI id {p with e6:=d},0)
end Go.Kc
namespace Go.Stab
structure Ord{α:Type}(R:α->α->Prop):Prop where
 trans:∀x y z,R x y->R y z->R x z
 vm:∀x,¬ R x x
 tot:∀x y,x≠y->R x y\/R y x
section
variable{α:Type}{R:α->α->Prop}
def Ord.not(O:Ord R){x y:α}(a:x≠y)(h:¬ R x y):R y x:=(O.tot x y a).resolve_left h
def ins(P:List α)(n:Nat)(x:α):List α:=P.take n++x::P.drop n
def mN(P:List α)(n:Nat)(x:α):(ins P n x).length=P.length+1:=by
 unfold ins;simp only[da,g7,hS,nY];omega
def s6(P:List α)(n:Nat)(x:α):(ins P n x).Perm (x::P):=by
 unfold ins;refine il.trans ?_;rw[fA]
def s7(P:List α)(n:Nat)(x:α)(d:n<=P.length)(i:Nat):(ins P n x)[i]?=if i<n then P[i]? else if i=n then some x else P[i-1]? :=by
 unfold ins;have c:(P.take n).length=n:=by simp;omega
 by_cases h1:i<n;·rw[bM h1,eE bA];simp[h1]
 ·rw[bJ h1,fo bA,c];by_cases a:i=n;·rw[bM a];simp[a]
  ·rw[bJ a];obtain⟨k,b⟩:∃k,i-n=k+1:=⟨i-n-1,bA⟩
   rw[b,List.getElem?_cons_succ,py];congr 1;omega
def xY(P:List α)(x:α):ins P P.length x=P++[x]:=by simp[ins]
def Iq{A P B:List α}{n:Nat}{x y:α}(g:P[n]?=some y):((A++ins P n x++B).set (A.length+n) y).set (A.length+n+1) x=A++ins P (n+1) x++B:=by
 have j:n<P.length:=(cT.1 g).1;have h:=s7 P n x bA;have a:=s7 P (n+1) x bA;have e:=mN P n x;have f:=mN P (n+1) x;apply g6;intro i;simp only[jg,dA,da,e];by_cases b:A.length+n+1=i;·rw[bM b,eG,eE (by simp;omega),fo bA,a,cM,eG]
 ·rw[bJ b];by_cases c:A.length+n=i;·rw[bM c,eG,eE (by simp;omega),fo bA,a,eG,<- g];congr 1;omega
  ·rw[bJ c];by_cases h1:i<A.length;·rw[eE (by simp;omega),eE h1,eE (by simp;omega),eE h1]
   ·by_cases k:i<A.length+(P.length+1)
    ·rw[eE (by simp;omega),fo bA,eE (by simp;omega),fo bA,h,a];by_cases d:i-A.length<n;·rw[bM d,eG]
     ·rw[bJ d,cM,cM,cM]
    ·rw[fo (by simp;omega),fo (by simp;omega)];simp[e,f]
def xZ{A P B:List α}{n:Nat}{x y:α}(g:P[n]?=some y):((A++ins P (n+1) x++B).set (A.length+n+1) y).set (A.length+n) x=A++ins P n x++B:=by
 have j:n<P.length:=(cT.1 g).1;have h:=s7 P (n+1) x bA;have a:=s7 P n x bA;have e:=mN P (n+1) x;have f:=mN P n x;apply g6;intro i;simp only[jg,dA,da,e];by_cases b:A.length+n=i;·rw[bM b,eG,eE (by simp;omega),fo bA,a,cM,eG]
 ·rw[bJ b];by_cases c:A.length+n+1=i;·rw[bM c,eG,eE (by simp;omega),fo bA,a,cM,cM,<- g];congr 1;omega
  ·rw[bJ c];by_cases h1:i<A.length;·rw[eE (by simp;omega),eE h1,eE (by simp;omega),eE h1]
   ·by_cases k:i<A.length+(P.length+1)
    ·rw[eE (by simp;omega),fo bA,eE (by simp;omega),fo bA,h,a];by_cases d:i-A.length<n;·rw[bM d,eG]
     ·rw[bJ d,cM,cM,cM]
    ·rw[fo (by simp;omega),fo (by simp;omega)];simp[e,f]
def pR{l:List α}(h:l.Pairwise R){i j:Nat}{x y:α}(hx:l[i]?=some x)(c:l[j]?=some y)(a:i<j):R x y:=by
 obtain⟨h1,rfl⟩:=cT.1 hx;obtain⟨b,rfl⟩:=cT.1 c;exact m5.1 h i j h1 b a
def s8{l:List α}{n:Nat}{x:α}(h:x∈l.take n):∃i,i<n/\l[i]?=some x:=by
 obtain⟨i,a,rfl⟩:=h5.1 h;simp only[g7]at a;exact⟨i,bA,by simp⟩
def x0{l:List α}{n:Nat}{x:α}(h:x∈l.drop n):∃i,n<=i/\l[i]?=some x:=by
 obtain⟨i,a,rfl⟩:=h5.1 h;simp only[nY]at a;exact⟨n+i,bA,by simp⟩
def x1(O:Ord R){X Y:List α}{i j:Nat}(r:X.Pairwise R)(s:Y.Pairwise R)(h1:i=0\/Y.length<=j\/∃x y,X[i-1]?=some x/\Y[j]?=some y/\R x y)(o:j=0\/X.length<=i\/∃x y,Y[j-1]?=some y/\X[i]?=some x/\R y x):
  ∀u∈X.take i++Y.take j,∀v∈X.drop i++Y.drop j,R u v:=by
 intro u hu v m;have lt:∀ {l:List α} {k:Nat} {z:α},l[k]?=some z->k<l.length:=λh=>(cT.1 h).1;rcases h6.1 hu with hu|hu<;>rcases h6.1 m with m|m
 ·obtain⟨p,hp,b⟩:=s8 hu;obtain⟨q,t,a⟩:=x0 m;exact pR r b a bA
 ·obtain⟨p,hp,b⟩:=s8 hu;obtain⟨q,t,a⟩:=x0 m;rcases h1 with h1|h1|⟨x,y,hx,n,c⟩
  ·omega
  ·have:=lt a;omega
  ·have f:p=i-1\/p<i-1:=by omega
   have g:q=j\/j<q:=by omega
   have d:u=x\/R u x:=by
    rcases f with rfl|f;·rw[b]at hx;exact .inl (cQ hx)
    ·exact .inr (pR r b hx f)
   have e:y=v\/R y v:=by
    rcases g with rfl|g;·rw[a]at n;exact .inl (cQ n).symm
    ·exact .inr (pR s n a g)
   rcases d with rfl|d<;>rcases e with rfl|e;·exact c
   ·exact O.trans _ _ _ c e
   ·exact O.trans _ _ _ d c
   ·exact O.trans _ _ _ d (O.trans _ _ _ c e)
 ·obtain⟨p,hp,b⟩:=s8 hu;obtain⟨q,t,a⟩:=x0 m;rcases o with o|o|⟨x,y,n,hx,c⟩
  ·omega
  ·have:=lt a;omega
  ·have f:p=j-1\/p<j-1:=by omega
   have g:q=i\/i<q:=by omega
   have d:u=y\/R u y:=by
    rcases f with rfl|f;·rw[b]at n;exact .inl (cQ n)
    ·exact .inr (pR s b n f)
   have e:x=v\/R x v:=by
    rcases g with rfl|g;·rw[a]at hx;exact .inl (cQ hx).symm
    ·exact .inr (pR r hx a g)
   rcases d with rfl|d<;>rcases e with rfl|e;·exact c
   ·exact O.trans _ _ _ c e
   ·exact O.trans _ _ _ d c
   ·exact O.trans _ _ _ d (O.trans _ _ _ c e)
 ·obtain⟨p,hp,b⟩:=s8 hu;obtain⟨q,t,a⟩:=x0 m;exact pR s b a bA
def s9(O:Ord R){P:List α}{n:Nat}{x:α}(c:P.Pairwise R)(h1:n=0\/∃y,P[n-1]?=some y/\R y x)(g:P.length<=n\/∃y,P[n]?=some y/\R x y):(ins P n x).Pairwise R:=by
 have key:=x1 O (X:=P) (Y:=[x]) (i:=n) (j:=0) c (GL _ _) (by
  rcases h1 with h|⟨y,e,d⟩
  ·exact .inl h
  ·exact .inr (.inr ⟨y,x,e,rfl,d⟩)) (.inl rfl)
 have f:=x1 O (X:=P) (Y:=[x]) (i:=n) (j:=1) c (GL _ _) (.inr (.inl (by simp))) (by
  rcases g with h|⟨y,e,d⟩
  ·exact .inr (.inl h)
  ·exact .inr (.inr ⟨y,x,rfl,e,d⟩))
 unfold ins;rw[jf,g5];have a:=c;rw[<- fA n P,jf]at a;refine⟨a.1,⟨λv b=>f x (by simp) v (by simp[b]),a.2.1⟩,λu hu v b=>?_⟩;rcases ey.1 b with rfl|b;·exact key u (by simp[hu]) _ (by simp)
 ·exact a.2.2 u hu v b
def jv{X Y a b:List α}{i j:Nat}(h1:a.Perm (X.take i++Y.take j))(c:b.Perm (X.drop i++Y.drop j))(s1:a.Pairwise R)(s2:b.Pairwise R)(e:∀u∈X.take i++Y.take j,∀v∈X.drop i++Y.drop j,R u v):(a++b).Perm (X++Y)/\(a++b).Pairwise R:=by
 refine⟨(h1.append c).trans ?_,jf.2 ⟨s1,s2,λu hu v f=>e u (h1.mem_iff.1 hu) v (c.mem_iff.1 f)⟩⟩;have d:X++Y=(X.take i++X.drop i)++(Y.take j++Y.drop j):=by rw[fA,fA]
 rw[d];simp only[dc];refine mu _ ?_;rw[<- dc,<- dc];exact sG _ lO
def nu(l l':List α)(a b i:Nat):Prop:=l'.length=l.length/\∀k,l'[k]?=if a<=k/\k<a+i then l[k-a+b]? else if b<=k/\k<b+i then l[k-b+a]? else l[k]?
def nu.zero(l:List α)(a b:Nat):nu l l a b 0:=⟨rfl,λk=>by rw[cM,cM]⟩
def nu.step{l l':List α}{a b i n:Nat}{x y:α}(h:nu l l' a b i)(m:a+n<=b)(p:i<n)(hx:l'[b+i]?=some x)(j:l'[a+i]?=some y):
  nu l ((l'.set (a+i) x).set (b+i) y) a b (i+1):=by
 have o:b+i<l'.length:=(cT.1 hx).1;have c:=hx;have d:=j;rw[h.2,cM,cM]at c d;refine⟨by simpa using h.1,λk=>?_⟩;simp only[jg,dA];by_cases e:b+i=k;·rw[bM e,eG,cM,eG,<- d];congr 1;omega
 ·rw[bJ e];by_cases f:a+i=k;·rw[bM f,eG,eG,<- c];congr 1;omega
  ·rw[bJ f,h.2];by_cases h1:a<=k/\k<a+i;·rw[bM h1,eG]
   ·rw[bJ h1];by_cases g:b<=k/\k<b+i;·rw[bM g,cM,eG]
    ·rw[bJ g,cM,cM]
def nu.eq{A U M V B l':List α}(h:nu (A++U++M++V++B) l' A.length (A.length+U.length+M.length) U.length)(a:U.length=V.length):l'=A++V++M++U++B:=by
 apply g6;intro k;rw[h.2];have g:∀(U V:List α) (k:Nat),U.length=V.length->(A++U++M++V++B)[k]?=if k<A.length then A[k]? else if k<A.length+U.length then U[k-A.length]? else if k<A.length+U.length+M.length then M[k-A.length-U.length]? else
   if k<A.length+U.length+M.length+U.length then V[k-A.length-U.length-M.length]? else B[k-A.length-U.length-M.length-U.length]? :=by
  intro U V k a;by_cases h1:k<A.length;·rw[bM h1,eE (by simp;omega),eE (by simp;omega),eE (by simp;omega),eE h1]
  rw[bJ h1];by_cases c:k<A.length+U.length;·rw[bM c,eE (by simp;omega),eE (by simp;omega),eE (by simp;omega),fo bA]
  rw[bJ c];by_cases b:k<A.length+U.length+M.length
  ·rw[bM b,eE (by simp;omega),eE (by simp;omega),fo (by simp;omega)];congr 1;simp;omega
  rw[bJ b];by_cases d:k<A.length+U.length+M.length+U.length
  ·rw[bM d,eE (by simp;omega),fo (by simp;omega)];congr 1;simp;omega
  rw[bJ d,fo (by simp;omega)];congr 1;simp;omega
 rw[g V U k a.symm,g U V k a];by_cases h1:A.length<=k/\k<A.length+U.length
 ·rw[bM h1,g U V _ a,cM,cM,cM,eG,cM,eG];congr 1;omega
 ·rw[bJ h1];by_cases c:A.length+U.length+M.length<=k/\k<A.length+U.length+M.length+U.length
  ·rw[bM c,g U V _ a,cM,eG,cM,cM,cM,eG];congr 1;omega
  ·rw[bJ c];by_cases b:k<A.length;·rw[bM b,bM b]
   ·rw[bJ b,bJ b,bJ (show ¬ k<A.length+U.length by omega),bJ (show ¬ k<A.length+V.length by omega)];by_cases d:k<A.length+U.length+M.length;·rw[bM d,bM (show k<A.length+V.length+M.length by omega)];congr 1;omega
    ·rw[bJ d,bJ (show ¬ k<A.length+V.length+M.length by omega),bJ (show ¬ k<A.length+U.length+M.length+U.length by omega),bJ (show ¬ k<A.length+V.length+M.length+V.length by omega)];congr 1;omega
end
end Go.Stab
namespace Go.Kc
open Go Go.Vc Go.Sp
structure dz where
 id:Int
 group:Int
 du:Int
def e9(R:List dz)(k:Int):Option dz:=R.find? (λe=>e.id==k)
structure Good(R:List dz):Prop where
 cX:R.Pairwise (λa b=>a.id<b.id)
 ok:∀e∈R,(0<=e.id/\e.id<=16777216)/\(0<=e.group/\e.group<=16777216)/\0<=e.du/\e.du<=3
variable{R R':List dz}
def Good.nil:Good []:=⟨List.Pairwise.nil,λ_ h=>by cases h⟩
def uniq(G:R.Pairwise (λa b:dz=>a.id<b.id)){e e':dz}(h:e∈R)(h':e'∈R)(g:e.id=e'.id):e=e':=by
 obtain⟨i,d,rfl⟩:=h5.1 h;obtain⟨j,f,rfl⟩:=h5.1 h';rcases G1 i j with c|rfl|c;·have:=m5.1 G i j d f c;omega
 ·rfl
 ·have:=m5.1 G j i f d c;omega
def kz(G:R.Pairwise (λa b:dz=>a.id<b.id)){k:Int}{e:dz}:e9 R k=some e↔e∈R/\e.id=k:=by
 unfold e9;constructor;·intro h;exact⟨xu h,by simpa using Ha h⟩
 ·rintro⟨h1,c⟩;cases hf:R.find? (λe=>e.id==k)with
  |none=>have:=q7.1 hf e h1;simp[c]at this
  |some e'=>
   have d:=xu hf;have f:e'.id=k:=by simpa using Ha hf
   rw[uniq G d h1 bA]
def ta(G:R.Pairwise (λa b:dz=>a.id<b.id)){k:Int}:e9 R k=none↔∀e∈R,e.id≠k:=by
 unfold e9;rw[q7];simp
def BX(G:R.Pairwise (λa b:dz=>a.id<b.id))(d:R'.Pairwise (λa b:dz=>a.id<b.id)){k:Int}(h:∀e,e.id=k->(e∈R'↔e∈R)):e9 R' k=e9 R k:=by
 apply Option.ext;intro e;rw[kz G,kz d];exact⟨λ⟨h1,c⟩=>⟨(h e c).1 h1,c⟩,λ⟨h1,c⟩=>⟨(h e c).2 h1,c⟩⟩
def ix(R:List dz)(x:dz):List dz:=R.filter (λy=>decide (y.id<x.id))++x::R.filter (λy=>decide (x.id<y.id))
def hW(id g:Int):Prop:=id<0\/16777216<id\/g<0\/16777216<g
instance(id g:Int):Decidable (hW id g):=by unfold hW;infer_instance
def jw(R:List dz)(id g:Int)(dZ:Bool):List dz×Int:=
 if hW id g then(R,1)else if(e9 R id).isSome then(R,4)else(ix R ⟨id,g,if dZ then 1 else 0⟩,0)
def iT(R:List dz)(id:Int):List dz×Int:=if(e9 R id).isSome then(R.filter (λe=>e.id !=id),0)else(R,2)
def j7(R:List dz)(id:Int):List dz×Int:=if(e9 R id).isSome then(R.map (λe=>if e.id=id then {e with du:=0} else e),0)else(R,2)
def oW(R:List dz)(g:Int):Int:=(R.filter (λe=>e.group==g)).length
def jx(g:Int)(a:Int->Int->Int×Int)(e:dz):dz:=if e.group=g then⟨e.id,(a e.group e.du).1,(a e.group e.du).2⟩else e
def oa(g:Int)(a:Int->Int->Int×Int)(e:dz):Bool:=e.group==g&& !(a e.group e.du==(e.group,e.du))
def ia(R:List dz)(g:Int)(a:Int->Int->Int×Int):List dz×Int:=(R.map (jx g a),(R.filter (oa g a)).length)
def jy(g a:Int):Int×Int:=(g,min1 (i64.wrap (a+1)) 3)
def mO(R:List dz)(f t:Int):List dz×Int:=if t<0\/16777216<t then(R,0)else ia R f (λ_ a=>(t,a))
def x2{x y:dz}(a:∀e∈R,e.id≠x.id):y∈ix R x↔y=x\/y∈R:=by
 unfold ix;simp only[h6,fO,ey,gj];constructor
 ·rintro(⟨h,_⟩|rfl|⟨h,_⟩);·exact .inr h
  ·exact .inl rfl
  ·exact .inr h
 ·rintro(rfl|h);·exact .inr (.inl rfl)
  ·have:=a y h;rcases Int.lt_trichotomy y.id x.id with h1|h1|h1;·exact .inl ⟨h,h1⟩
   ·exact absurd h1 this
   ·exact .inr (.inr ⟨h,h1⟩)
def Good.ins(G:Good R){x:dz}(f:∀e∈R,e.id≠x.id)(hx:(0<=x.id/\x.id<=16777216)/\(0<=x.group/\x.group<=16777216)/\0<=x.du/\x.du<=3):Good (ix R x):=by
 refine⟨?_,λe he=>?_⟩
 ·unfold ix;rw[jf,g5];refine⟨G.cX.filter _,⟨λy g=>?_,G.cX.filter _⟩,λa d b c=>?_⟩;·simpa using(fO.1 g).2
  ·have h1:a.id<x.id:=by simpa using(fO.1 d).2
   rcases ey.1 c with rfl|c;·exact h1
   ·have i:x.id<b.id:=by simpa using(fO.1 c).2
    omega
 ·rcases(x2 f).1 he with rfl|h;·exact hx
  ·exact G.ok e h
def Good.add(G:Good R)(id g:Int)(dZ:Bool):Good (jw R id g dZ).1:=by
 unfold jw;split;·exact G
 ·next a=>
  split;·exact G
  ·next hf=>
   have hf:e9 R id=none:=by simpa using hf
   refine G.ins ((ta G.cX).1 hf) ?_;unfold hW at a;refine⟨⟨?_,?_⟩,⟨?_,?_⟩,?_⟩<;>simp only<;>first|omega|(split<;>omega)
def Good.filter(G:Good R)(p:dz->Bool):Good (R.filter p):=⟨G.cX.filter _,λe he=>G.ok e (fO.1 he).1⟩
def Good.drop(G:Good R)(id:Int):Good (iT R id).1:=by
 unfold iT;split;·exact G.filter _
 ·exact G
def Good.map(G:Good R)(f:dz->dz)(a:∀e,(f e).id=e.id)(b:∀e∈R,(0<=(f e).group/\(f e).group<=16777216)/\0<=(f e).du/\(f e).du<=3):Good (R.map f):=by
 refine⟨?_,λe he=>?_⟩;·rw[jK];exact G.cX.imp (λh=>by rw[a,a];exact h)
 ·obtain⟨x,hx,rfl⟩:=e4.1 he;exact⟨by rw[a];exact(G.ok x hx).1,b x hx⟩
def Good.cS(G:Good R)(id:Int):Good (j7 R id).1:=by
 unfold j7;split
 ·refine G.map _ (λe=>by split<;>rfl) (λe he=>?_);have:=G.ok e he;split;·exact⟨this.2.1,(show(0:Int)<=0 by decide),(show(0:Int)<=3 by decide)⟩
  ·exact this.2
 ·exact G
def td(g:Int)(a:Int->Int->Int×Int)(e:dz):(jx g a e).id=e.id:=by unfold jx;split<;>rfl
def Good.each(G:Good R)(g:Int)(a:Int->Int->Int×Int)(b:∀e∈R,e.group=g->(0<=(a e.group e.du).1/\(a e.group e.du).1<=16777216)/\0<=(a e.group e.du).2/\(a e.group e.du).2<=3):Good (ia R g a).1:=by
 refine G.map _ (td g a) (λe he=>?_);unfold jx;split;·next h=>exact b e he h
 ·exact(G.ok e he).2
def Vp{g a:Int}(b:0<=a)(c:a<=3):jy g a=(g,if a<3 then a+1 else 3):=by
 unfold jy min1;rw[cH bA bA];congr 1;split<;>split<;>omega
def Good.du(G:Good R)(g:Int):Good (ia R g jy).1:=by
 refine G.each g jy (λe he _=>?_);have:=G.ok e he;rw[Vp this.2.2.1 this.2.2.2];refine⟨this.2.1,?_⟩;simp only;split<;>omega
def Good.move(G:Good R)(f t:Int):Good (mO R f t).1:=by
 unfold mO;split;·exact G
 ·exact G.each f _ (λe he _=>⟨by simp only;omega,(G.ok e he).2.2⟩)
end Go.Kc
namespace Go.Kc
open Go Go.Vc Go.Sp
namespace By
def pg(n:Nat)(i:Int):Prop:=0<=i/\i<n
instance(n:Nat)(i:Int):Decidable (pg n i):=inferInstanceAs (Decidable (_/\_))
def gN(X:List UInt8)(i:Int):List UInt8:=(X.drop (16*i.toNat)).take 16
def jz(X:List UInt8)(i:Int)(t:List UInt8):List UInt8:=X.take (16*i.toNat)++t++X.drop (16*i.toNat+16)
def zs:List UInt8:=List.replicate 16 0
def rd(n:Nat)(X:List UInt8)(i:Int):List UInt8×Int:=if pg n i then(gN X i,0)else([],1)
def wr(n:Nat)(X:List UInt8)(i:Int)(t:List UInt8):List UInt8×Int:=if pg n i/\t.length=16 then(jz X i t,0)else(X,1)
def gt(n:Nat)(X:List UInt8)(i a:Int):UInt8×Int:=if pg n i/\0<=a/\a<16 then(X.getD (16*i.toNat+a.toNat) 0,0)else(0,1)
def pt(n:Nat)(X:List UInt8)(i a:Int)(b:UInt8):List UInt8×Int:=if pg n i/\0<=a/\a<16 then(X.set (16*i.toNat+a.toNat) b,0)else(X,1)
def cl(n:Nat)(X:List UInt8)(i:Int):List UInt8×Int:=wr n X i zs
variable{n:Nat}{X:List UInt8}{i j:Int}
def BY(h:X.length=16*n)(a:pg n i):(gN X i).length=16:=by
 obtain⟨h1,b⟩:=a;simp only[gN,g7,nY];omega
def BZ{t:List UInt8}(h:X.length=16*n)(a:pg n i)(c:t.length=16):(jz X i t).length=16*n:=by
 obtain⟨h1,b⟩:=a;simp only[jz,da,g7,nY];omega
def Ir{t:List UInt8}(h:X.length=16*n)(a:pg n i)(b:t.length=16):hV (gW X) (16*i.toNat) (gW t)=gW (jz X i t):=by
 obtain⟨h1,c⟩:=a;rw[oU _ _ _ (by simp;omega)];simp[gW,jz,b,jV]
def ob{k:Nat}(a:k<16):(gN X i)[k]?=X[16*i.toNat+k]? :=by
 simp[gN,a]
def It{t:List UInt8}(h:X.length=16*n)(a:pg n i)(e:t.length=16)(k:Nat):
  (jz X i t)[k]?=if 16*i.toNat<=k/\k<16*i.toNat+16 then t[k-16*i.toNat]? else X[k]? :=by
 obtain⟨h1,d⟩:=a;unfold jz;by_cases b:k<16*i.toNat;·rw[cM,dc,eE (by simp;omega)];simp[b]
 ·by_cases c:k<16*i.toNat+16
  ·rw[eG,dc,fo (by simp;omega),eE (by simp;omega)];congr 1;simp;omega
  ·rw[cM,fo (by simp;omega)];simp only[py,da,g7];congr 1;omega
def B0(h:X.length=16*n)(t:List UInt8):(wr n X i t).1.length=16*n:=by
 unfold wr;split;·next a=>exact BZ h a.1 a.2
 ·exact h
def Vq(h:X.length=16*n)(a:Int)(b:UInt8):(pt n X i a b).1.length=16*n:=by
 unfold pt;split<;>simpa
end By
end Go.Kc
namespace Go.Kc
open Go Go.Kt Go.Sp
def iU(R:List dz)(gs:bU):bU:=[3,2,1,0].flatMap λa:Int=>((R.filter λe=>gs.contains e.group&&e.du==a).map dz.id)
structure eH where
 min:Int
 low:Int
 whole:Bool
deriving DecidableEq
structure eJ where
 bK:List Bool
 cG:List UInt8
 used:List ei
structure Cs where
 tree:List G
 fr:eJ
 sl:eJ
 files:FS
 bY:List dz
 log:bU
 bz:TS
 kept:Int->Option Int
 guards:List eH
def gv(n:Int):eJ:=⟨iu n,List.replicate (16*(min (max n 0).toNat 1024)) 0,j4⟩
def new(bN bR:Int)(bP:bU):Cs:=⟨Kt.new,gv bN,gv bR,gL bP,[],List.replicate 64 0,TS.zero,λ_=>none,[⟨0,0,false⟩]⟩
def eJ.di(s:eJ)(at_:Int)(a:bU):eJ:=⟨(mJ s.bK at_).1,(By.cl s.bK.length s.cG at_).1,(fJ s.used a 1).1⟩
def Cs.chain(S:Cs)(g:Int):bU:=c8 S.tree g
def Cs.live(S:Cs)(g:Int):Bool:=dw S.tree g
def Cs.memory(S:Cs)(g:Int):Int:=cJ S.fr.used g
def Cs.swap(S:Cs)(g:Int):Int:=cJ S.sl.used g
def Cs.mP(S:Cs)(g:Int):eH:=S.guards.getD g.toNat ⟨0,0,false⟩
def Cs.bZ(S:Cs)(p:Int):Cs×Int×Int:=
 let r:=gr S.tree p
 if r.2.2=0 then({S with tree:=r.1,guards:=S.guards++[⟨0,0,false⟩]},r.2)else(S,r.2)
def TS.ee(T:TS)(o:Int):bU:=((List.range T.next.toNat).filter λi:Nat=>match T.pg i with|some p=>p.owner==o|none=>false).map Int.ofNat
def TS.dq(T:TS)(ids:bU)(o:Int):TS:=ids.foldl (λT id=>(T.own id o).1) T
def Cs.remove(S:Cs)(g:Int):Cs×Int:=
 let r:=iF S.tree g
 if r.2=0 then
  let up:=lT S.tree g
  ({S with tree:=r.1,bz:=S.bz.dq (S.bz.ee g) up,bY:=(mO S.bY g up).1,fr:={S.fr with used:=(fJ S.fr.used [g] (cJ S.fr.used g)).1},sl:={S.sl with used:=(fJ S.sl.used [g] (cJ S.sl.used g)).1}},0)
 else(S,r.2)
def Cs.iV(S:Cs)(g:Int)(x:eH):Cs:={S with guards:=S.guards.set g.toNat x}
def Cs.cf(S:Cs)(g c5 n:Int):Cs×Int:=
 if S.live g=false then(S,2)else if gf n=false then(S,1)
 else if c5=0 then(S.iV g {S.mP g with min:=n},0)
 else if c5=1 then(S.iV g {S.mP g with low:=n},0)
 else if c5=2 then({S with fr:={S.fr with used:=(hs S.fr.used g n).1}},(hs S.fr.used g n).2)
 else if c5=3 then({S with sl:={S.sl with used:=(hs S.sl.used g n).1}},(hs S.sl.used g n).2)
 else if c5=4 then(if 1<n then(S,1)else(S.iV g {S.mP g with whole:=n==1},0))
 else(S,1)
def gO(R:List dz):bU->List dz×Int
 |[]=>(R,0)
 |g::gs=>let r:=ia R g jy;let q:=gO r.1 gs;(q.1,r.2+q.2)
def Cs.du(S:Cs)(t:Int):Cs×Int:=let r:=gO S.bY (hT S.tree t);({S with bY:=r.1},r.2)
def Cs.text(S:Cs)(p:Pg):List UInt8:=
 if p.place=1 then(By.rd S.fr.bK.length S.fr.cG p.at_).1 else if p.place=2 then(By.rd S.sl.bK.length S.sl.cG p.at_).1 else(s3 S.files (p.kf,p.ki)).1
def Cs.clean(S:Cs)(id:Int)(p:Pg):Cs:=
 if 0<=p.kf/\p.e6=true then {S with files:=(np S.files (p.kf,p.ki) (S.text p)).1,bz:=(S.bz.mark id false).1} else S
def Cs.fa(S:Cs)(id:Int)(p:Pg)(a:bU):Cs×Bool:=
 if a.any (λg=>decide (db S.sl.used g<=cJ S.sl.used g))then(S,false)else
 let t:=fQ S.sl.bK
 if t.2.2≠0 then(S,false)else
 ({S with sl:=⟨t.1,(By.wr t.1.length S.sl.cG t.2.1 (S.text p)).1,(df S.sl.used a 1).1⟩,bz:=(S.bz.put id 2 t.2.1).1},true)
def Cs.leave(S:Cs)(id:Int)(p:Pg)(a:bU):Cs:=
 {S with fr:=S.fr.di p.at_ a,bY:=(iT S.bY id).1,log:=(dx S.log p.owner).1,kept:=cK S.kept id (some (dx S.log p.owner).2)}
def Cs.out(S:Cs)(id:Int):Cs×Bool:=
 let p:=(S.bz.get id).1
 let a:=S.chain p.owner
 if 0<=p.kf then
  let b:=S.clean id p
  ({b with bz:=(b.bz.put id 0 0).1}.leave id p a,true)
 else
  let r:=S.fa id p a
  if r.2 then(r.1.leave id p a,true)else(S,false)
def Cs.nodes(S:Cs)(own:eH->Int):List eB:=
 (List.range S.guards.length).map λg:Nat=>if S.live g then⟨((S.tree[g]?).map G.up).getD (-1),S.memory g,own (S.mP g)⟩else⟨((S.tree[g]?).map G.up).getD (-1),0,0⟩
def Cs.held(S:Cs)(t:Int)(own:eH->Int):List Bool:=
 let l:=S.nodes own
 (List.range l.length).map λg:Nat=>nr l (mM l t) t g
def pass(held:Int->Bool):bU->Cs->Cs×Bool
 |[],S=>(S,false)
 |id::r,S=>
  if held (S.bz.get id).1.owner then pass held r S
  else let o:=S.out id
   if o.2 then(o.1,true)else pass held r o.1
def hg(l:List Bool)(g:Int):Bool:=l.getD g.toNat false
def Cs.cO(S:Cs)(t:Int)(gs:bU)(all:Bool):Cs×Bool:=
 if S.live t=false then(S,false)else
 let mn:=S.held t eH.min
 let lw:=S.held t eH.low
 let o:=iU S.bY gs
 let r:=pass (λg=>hg mn g||hg lw g) o S
 if r.2 then(r.1,true)else if all then pass (λg=>hg mn g) o r.1 else(r.1,false)
def Cs.cW(S:Cs)(t:Int):Cs×Bool:=S.cO t (hT S.tree t) true
def dd(t:Int)(gs:bU):Nat->Cs->Cs×Int
 |0,S=>(S,0)
 |n+1,S=>let r:=S.cO t gs false;let q:=dd t gs n r.1;(q.1,(if r.2 then 1 else 0)+q.2)
def cq(t:Int):List (Int×Int)->Cs->Cs×Int
 |[],S=>(S,0)
 |(g,k)::r,S=>let a:=dd t [g] k.toNat S;let b:=cq t r a.1;(b.1,a.2+b.2)
def dE(t:Int):Nat->Cs->Cs×Int
 |0,S=>(S,0)
 |n+1,S=>let r:=S.cW t;if r.2 then let q:=dE t n r.1;(q.1,1+q.2)else(r.1,0)
def Cs.weights(S:Cs)(t:Int):bU:=
 (hT S.tree t).map λg=>if hg (S.held t eH.min) g=false/\hg (S.held t eH.low) g=false then oW S.bY g else 0
def Cs.shrink(S:Cs)(t n:Int):Cs×Int:=
 if S.live t=false\/n<1\/1000<n then(S,0)else
 let a:=cq t ((hT S.tree t).zip (iR n (S.weights t))) S
 let b:=dE t (n-a.2).toNat a.1
 (b.1,a.2+b.2)
def take(g:Int):Nat->Cs->Cs×Int×Int×Int
 |0,S=>(S, -1,0,12)
 |n+1,S=>
  let a:=S.chain g
  let t:=df S.fr.used a 1
  let full (c:Cs) (b:Int):Cs×Int×Int×Int:=
   let r:=c.cW b
   if r.2 then take g n r.1 else(r.1, -1,b,12)
  if t.2.2=0 then
   let p:=fQ S.fr.bK
   if p.2.2=0 then({S with fr:={S.fr with bK:=p.1,used:=t.1}},p.2.1, -1,0)
   else full {S with fr:={S.fr with used:=(fJ t.1 a 1).1}} 0
  else full S t.2.1
def Cs.take(S:Cs)(g:Int):Cs×Int×Int×Int:=Kc.take g (S.bY.length+1) S
def Cs.place(S:Cs)(id at_ g:Int)(text:List UInt8)(dZ:Bool):Cs:=
 {S with fr:={S.fr with cG:=(By.wr S.fr.bK.length S.fr.cG at_ text).1},bz:=((S.bz.own id g).1.put id 1 at_).1,bY:=(jw S.bY id g dZ).1}
def Cs.cN(S:Cs)(g:Int)(text:List UInt8):Cs×Int×Int×Int:=
 let t:=S.take g
 if t.2.2.2≠0 then(t.1, -1,t.2.2.1,t.2.2.2)else
 let m:=t.1.bz.make (-1) 0 g
 ({t.1 with bz:=m.1}.place m.2.1 t.2.1 g text false,m.2.1, -1,0)
def Cs.fresh(S:Cs)(g:Int):Cs×Int×Int×Int:=if S.live g=false then(S, -1, -1,2)else S.cN g By.zs
def Cs.copy(S:Cs)(id g:Int):Cs×Int×Int×Int:=
 let p:=S.bz.get id
 if p.2≠0\/S.live g=false\/p.1.place=0 then(S, -1, -1,2)else S.cN g (S.text p.1)
def Cs.cb(S:Cs)(id g:Int):Cs×Int×Int:=
 let p:=S.bz.get id
 if p.2≠0\/S.live g=false\/(p.1.place=0/\p.1.kf<0)then(S, -1,2)
 else if p.1.place=1 then({S with bY:=(j7 S.bY id).1}, -1,0)
 else
  let o:=if p.1.place=0 then g else p.1.owner
  let t:=S.take o
  if t.2.2.2≠0 then(t.1,t.2.2.1,t.2.2.2)else
  let text:=t.1.text p.1
  let a:=if p.1.place=2 then {t.1 with sl:=t.1.sl.di p.1.at_ (t.1.chain o)} else t.1
  let b:=l2 a.log ((a.kept id).getD 0) (a.memory o)
  (a.place id t.2.1 o text (!b), -1,0)
def Cs.cD(S:Cs)(k:Int×Int)(g:Int):Cs×Int×Int×Int:=
 if ed S.files k=false\/S.live g=false then(S, -1, -1,2)else
 let made:=decide (S.bz.of k<0)
 let m:=S.bz.make k.1 k.2 g
 let a:=if made then {S with bz:=m.1} else S
 let id:=if made then m.2.1 else S.bz.of k
 let b:=a.cb id g
 if b.2.2=0 then(b.1,id, -1,0)
 else if made then({b.1 with bz:=(b.1.bz.drop id).1}, -1,b.2.1,b.2.2)
 else(b.1, -1,b.2.1,b.2.2)
def Cs.here(S:Cs)(id:Int):Int×Bool:=let p:=S.bz.get id;(p.1.at_,p.2==0&&p.1.place==1)
def Cs.get(S:Cs)(id at_:Int):Cs×Int×Int:=
 let h:=S.here id
 if h.2=false then(S,0,2)else
 let r:=By.gt S.fr.bK.length S.fr.cG h.1 at_
 (if r.2=0 then {S with bY:=(j7 S.bY id).1} else S,(r.1.toNat:Int),r.2)
def Cs.put(S:Cs)(id at_:Int)(b:UInt8):Cs×Int:=
 let h:=S.here id
 if h.2=false then(S,2)else
 let r:=By.pt S.fr.bK.length S.fr.cG h.1 at_ b
 if r.2=0 then({S with fr:={S.fr with cG:=r.1},bY:=(j7 S.bY id).1,bz:=(S.bz.mark id true).1},0)else(S,r.2)
def Cs.bX(S:Cs)(id n:Int):Cs×Int:=
 let r:=S.bz.bX id n
 if r.2.2≠0\/0<r.2.1 then({S with bz:=r.1},r.2.2)else
 let a:={S with bz:=r.1}
 let p:=(a.bz.get id).1
 let e:=a.chain p.owner
 let c:=if p.place=1 then
   let b:=a.clean id p
   {b with fr:=b.fr.di p.at_ e,bY:=(iT b.bY id).1}
  else if p.place=2 then {a with sl:=a.sl.di p.at_ e} else a
 let d:=(c.bz.put id 0 0).1.drop id
 ({c with bz:=d.1},d.2)
end Go.Kc
namespace Go.Kw
open Go Go.Kc Go.Kt
structure En where
 k:Nat
 id:Nat
 wr:Bool
 tc:Bool
deriving DecidableEq
def En.ok(e:En):Prop:=(e.k=1\/e.k=2)/\e.id<16777216
def En.enc(e:En):Nat:=e.k+4*e.id+67108864*e.wr.toNat+134217728*e.tc.toNat
structure Rg where
 a:Int
 b:Int
 kind:Int
 file:Int
 idx:Int
 wr:Bool
deriving DecidableEq
def Rg.valid(x:Rg):Bool:=decide (0<=x.a/\x.a<x.b/\x.b<=65536)&&
 (if x.kind=1 then decide (x.file=0/\x.idx=0)else if x.kind=2 then decide (0<=x.file/\x.file<=1048576/\0<=x.idx/\x.idx<=2097152-(x.b-x.a))else false)
def ft:Int->List Rg->Bool
 |_,[]=>true
 |at_,x::r=>x.valid&&decide (at_<=x.a)&&ft x.b r
def eY(q:Rg->Bool):List Rg->Nat
 |[]=>0
 |x::r=>if q x then 0 else eY q r+1
def ek(l:List Rg)(x:Rg):List Rg×Int:=
 if ft 0 l=false\/x.valid=false\/64<=l.length then(l,1)else
 let n:=eY (λy=>decide (x.a<y.b)) l
 match l[n]? with
 |some y=>if y.a<x.b then(l,4)else(l.take n++x::l.drop n,0)
 |none=>(l.take n++x::l.drop n,0)
def prt(x:Rg)(a b:Int):Rg:={x with idx:=if x.kind=2 then x.idx+(a-x.a)else x.idx,a:=a,b:=b}
def dX(x:Rg)(a b:Int):List Rg:=if a<b then[prt x a b]else[]
def fL(a b:Int)(x:Rg):List Rg:=if b<=a then dX x x.a x.b else dX x x.a (min x.b a)++dX x (max x.a b) x.b
def hh(l:List Rg)(a b:Int):List Rg:=if ft 0 l then l.flatMap (fL a b)else[]
def Rg.has(x:Rg)(p:Int):Bool:=decide (x.a<=p/\p<x.b)
def kA(l:List Rg)(p:Int):Option Rg:=if ft 0 l then l[eY (λx=>x.has p) l]? else none
def hi(x:Rg)(p:Int):Int×Int:=if x.kind=2 then(x.file,x.idx+p-x.a)else(-1,p)
abbrev c0:=List (Nat×En)
def ep:c0->Nat->Option En
 |[],_=>none
 |(q,e)::r,p=>if q=p then some e else ep r p
def fR:c0->Nat->En->c0
 |[],p,e=>[(p,e)]
 |(q,f)::r,p,e=>if p<q then(p,e)::(q,f)::r else if p=q then(p,e)::r else(q,f)::fR r p e
def hv(a b:Int)(p:Nat):Bool:=decide (a<=p/\(p:Int)<b)
structure Sp where
 dI:List Rg
 ct:c0
def Sp.new:Sp:=⟨[],[]⟩
def Sp.map(s:Sp)(x:Rg):Sp×Int:=({s with dI:=(ek s.dI x).1},(ek s.dI x).2)
def Sp.dg(s:Sp)(p:Int):Option Rg:=kA s.dI p
def Sp.entry(s:Sp)(p:Int):Option En:=if 0<=p then ep s.ct p.toNat else none
def Sp.enter(s:Sp)(p id:Int)(k:Nat)(wr:Bool):Sp:=
 if(s.dg p).isSome/\0<=id/\id<16777216 then {s with ct:=fR s.ct p.toNat ⟨k,id.toNat,wr,false⟩} else s
def Sp.ids(s:Sp)(a b:Int):bU:=(s.ct.filter λq=>hv a b q.1).map λq=>(q.2.id:Int)
def Sp.cut(s:Sp)(a b:Int):Sp×bU:=(⟨hh s.dI a b,s.ct.filter λq=> !hv a b q.1⟩,s.ids a b)
def Sp.cS(s:Sp)(p:Int):Sp:=
 match s.entry p with
 |some e=> {s with ct:=fR s.ct p.toNat {e with tc:=true}}
 |none=>s
structure Vs where
 core:Cs
 procs:List (Int×Option Sp)
structure cE where
 err:Int
 n:Int
 bI:bU
deriving DecidableEq
structure c7 where
 kind:Int
 a:Int
 b:Int
 c:Int
 d:Int
deriving DecidableEq
def Vs.new(fr sl:Int)(bP:bU):Vs:=⟨Kc.new fr sl bP,[]⟩
def Vs.space(V:Vs)(pid:Int):Option Sp:=if 0<=pid then(V.procs[pid.toNat]?).bind Prod.snd else none
def Vs.group(V:Vs)(pid:Int):Int:=(V.procs.getD pid.toNat (0,none)).1
def Vs.fl(V:Vs)(pid:Int)(s:Option Sp):Vs:={V with procs:=V.procs.set pid.toNat (V.group pid,s)}
def j8(ids:bU)(S:Cs):Cs:=ids.foldl (λS id=>(S.bX id (-1)).1) S
def nv(ids:bU)(S:Cs):Cs:=ids.foldl (λS id=>(S.bX id 1).1) S
def Vs.exit(V:Vs)(pid:Int):Vs:=
 match V.space pid with
 |some s=> {V with core:=j8 (s.ids 0 65536) V.core}.fl pid none
 |none=>V
structure Pr where
 g:Int
 size:Int
 live:Bool
deriving DecidableEq
def Vs.pr(V:Vs):List Pr:=V.procs.map λp=>match p.2 with|some s=>⟨p.1,s.ct.length,true⟩|none=>⟨p.1,0,false⟩
def mR(ins:bU):Int->Int×Int->List Pr->Int×Int
 |_,s,[]=>s
 |i,s,p::r=>mR ins (i+1) (if p.live=true/\s.2<p.size/\ins.contains p.g=true then(i,p.size)else s) r
def pick(l:List Pr)(ins:bU):Int:=(mR ins 0 (-1,0) l).1
def x3(a:bU)(wh:List Bool):Nat->Int
 |0=> -1
 |n+1=>let g:=a.getD n 0;if 0<=g/\wh.getD g.toNat false=true then g else x3 a wh n
def j9(v:Int):bU->Nat
 |[]=>0
 |x::r=>if v=x then 0 else j9 v r+1
def whole(a:bU)(t:Int)(wh:List Bool):Int:=if j9 t a<a.length then x3 a wh (j9 t a+1)else -1
def hX(ins:bU):Int->List Pr->bU
 |_,[]=>[]
 |i,p::r=>if p.live=true/\ins.contains p.g=true then i::hX ins (i+1) r else hX ins (i+1) r
def lz(T:List G)(l:List Pr)(t:Int)(wh:List Bool):bU:=
 let v:=pick l (hT T t)
 if v<0 then[]else
 let w:=whole (c8 T (l.getD v.toNat ⟨0,0,false⟩).g) t wh
 if w<0 then[v]else hX (hT T w) 0 l
def Vs.ej(V:Vs)(l:bU):Vs:=l.foldl Vs.exit V
def mS(S:Cs):List Bool:=S.guards.map eH.whole
def fy(f:Cs->Int->Cs×Int×Int×Int)(pid:Int):Nat->Vs->cE->Vs×cE×Option Int
 |0,V,o=>(V,o,none)
 |n+1,V,o=>
  let r:=f V.core (V.group pid)
  let V1:Vs:={V with core:=r.1}
  if r.2.2.2=0 then(V1,o,some r.2.1)else
  if r.2.2.2≠12 then(V1, {o with err:=r.2.2.2},none)else
  let d:=lz V1.core.tree V1.pr r.2.2.1 (mS V1.core)
  let V2:=V1.ej d
  let a:cE:={o with bI:=o.bI++d}
  if d= []then(V2, {a with err:=12},none)else
  if pid∈d then(V2, {a with err:=13},none)else fy f pid n V2 a
def Vs.enter(V:Vs)(pid p id:Int)(k:Nat)(wr:Bool):Vs:=
 let V1:Vs:={V with core:=(V.core.bX id 1).1}
 match V1.space pid with
 |some s=>V1.fl pid (some (s.enter p id k wr))
 |none=>V1
def Vs.eQ(V:Vs)(f:Cs->Int->Cs×Int×Int×Int)(pid:Int)(o:cE):Vs×cE×Option Int:=fy f pid (V.procs.length+1) V o
def Vs.cb(V:Vs)(pid id:Int)(o:cE):Vs×cE×Option Int:=
 V.eQ (λS g=>let r:=S.cb id g;(r.1,id,r.2)) pid o
def Vs.there(V:Vs)(pid p:Int)(s:Sp)(x:Rg)(o:cE):Vs×cE×Option Int:=
 match s.entry p with
 |some e=>V.cb pid e.id o
 |none=>
  let r:=V.eQ (λS g=>S.cD (hi x p) g) pid o
  match r.2.2 with
  |some id=>(r.1.enter pid p id 2 x.wr,r.2)
  |none=>r
def Vs.own(V:Vs)(pid p:Int)(s:Sp)(o:cE):Vs×cE×Option Int:=
 match s.entry p with
 |some e=>
  if(V.core.bz.get e.id).1.refs<=1 then V.cb pid e.id o else
  let r:=V.eQ (λS g=>S.copy e.id g) pid o
  match r.2.2 with
  |some id=>let V1:=r.1.enter pid p id 1 true;({V1 with core:=(V1.core.bX e.id (-1)).1},r.2)
  |none=>r
 |none=>
  let r:=V.eQ (λS g=>S.fresh g) pid o
  match r.2.2 with
  |some id=>(r.1.enter pid p id 1 true,r.2)
  |none=>r
def Vs.cS(V:Vs)(pid p:Int):Vs:=
 match V.space pid with
 |some s=>V.fl pid (some (s.cS p))
 |none=>V
def cE.zero:cE:=⟨0,0,[]⟩
def cE.bad(e:Int):cE:=⟨e,0,[]⟩
def Vs.load(V:Vs)(pid:Int)(s:Sp)(b:Int):Vs×cE:=
 let p:=b/16
 match s.dg p with
 |none=>(V,.bad 14)
 |some x=>
  if b<0 then(V,.bad 14)else
  if(s.entry p).isNone/\x.kind=1 then(V,.zero)else
  let r:=V.there pid p s x .zero
  match r.2.2 with
  |none=>(r.1,r.2.1)
  |some id=>
   let g:=r.1.core.get id (b%16)
   ({r.1 with core:=g.1}.cS pid p, {r.2.1 with n:=g.2.1})
def Vs.store(V:Vs)(pid:Int)(s:Sp)(b c:Int):Vs×cE:=
 let p:=b/16
 if c<0\/255<c then(V,.bad 1)else
 match s.dg p with
 |none=>(V,.bad 14)
 |some x=>
  if b<0 then(V,.bad 14)else
  if x.wr=false then(V,.bad 15)else
  let r:=if x.kind=2 then V.there pid p s x .zero else V.own pid p s .zero
  match r.2.2 with
  |none=>(r.1,r.2.1)
  |some id=>
   let g:=r.1.core.put id (b%16) (UInt8.ofNat c.toNat)
   ({r.1 with core:=g.1}.cS pid p,r.2.1)
def kB(b c:Int):Prop:=(0<=b/\b<=65536)/\0<=c/\c<=65536
instance(b c:Int):Decidable (kB b c):=by unfold kB;exact inferInstance
def Vs.map(V:Vs)(pid:Int)(s:Sp)(x:Rg):Vs×cE:=(V.fl pid (some (s.map x).1),.bad (s.map x).2)
def Vs.call(V:Vs)(s:Sp)(o:c7):Vs×cE:=
 let pid:=o.a
 if o.kind=4 then(if V.core.live o.b then({V with procs:=V.procs.set pid.toNat (o.b,some s)},.zero)else(V,.bad 2))else
 if o.kind=5 then(if kB o.b o.c then V.map pid s ⟨o.c,o.c+o.b,1,0,0,true⟩else(V,.bad 1))else
 if o.kind=6 then(if kB o.b o.c then
  (if o.d<0\/(V.core.files.bP.length:Int)<=o.d\/nm V.core.files o.d<o.b then(V,.bad 1)else V.map pid s ⟨o.c,o.c+o.b,2,o.d,0,true⟩)else(V,.bad 1))else
 if o.kind=7 then(if kB o.b o.c then
  (let r:=s.cut o.c (o.c+o.b);let V1:=V.fl pid (some r.1);({V1 with core:=j8 r.2 V1.core},⟨0,r.2.length,[]⟩))else(V,.bad 1))else
 if o.kind=8 then V.load pid s o.b else
 if o.kind=9 then V.store pid s o.b o.c else
 if o.kind=10 then(if 64<=V.procs.length then(V,.bad 3)else
  ({core:=nv (s.ids 0 65536) V.core,procs:=V.procs++[(V.group pid,some s)]},⟨0,V.procs.length,[]⟩))else
 (V.exit pid,.zero)
def Vs.busy(V:Vs)(g:Int):Bool:=g !=0&&V.core.live g&&V.procs.any λp=>p.2.isSome&&p.1==g
def Vs.act(V:Vs)(o:c7):Vs×cE:=
 if o.kind=0 then(let r:=V.core.bZ o.a;({V with core:=r.1},⟨r.2.2,max r.2.1 0,[]⟩))else
 if o.kind=1 then(if V.busy o.a then(V,.bad 4)else(let r:=V.core.remove o.a;({V with core:=r.1},.bad r.2)))else
 if o.kind=2 then(let r:=V.core.cf o.a o.b o.c;({V with core:=r.1},.bad r.2))else
 if o.kind=3 then(if V.core.live o.a=false then(V,.bad 2)else if 64<=V.procs.length then(V,.bad 3)else
  ({V with procs:=V.procs++[(o.a,some Sp.new)]},⟨0,V.procs.length,[]⟩))else
 if o.kind=12 then(let r:=V.core.du o.a;({V with core:=r.1},⟨0,r.2,[]⟩))else
 if o.kind=13 then(let r:=V.core.shrink o.a o.b;({V with core:=r.1},⟨0,r.2,[]⟩))else
 if o.kind<0\/13<o.kind then(V,.bad 1)else
 match V.space o.a with
 |none=>(V,.bad 2)
 |some s=>V.call s o
end Go.Kw
namespace Go.Kc
open Go.Kt
def hj(n:Nat)(f:Nat->Bool):Nat:=(List.range n).countP f
def rA(n:Nat)(f:Nat->Bool):hj (n+1) f=hj n f+(f n).toNat:=by
 unfold hj;rw[Hb,List.countP_append];cases h:f n<;>simp[G6,h]
def B1{n:Nat}{f f':Nat->Bool}(h:∀i,i<n->f' i=f i):hj n f'=hj n f:=by
 induction n with
 |zero=>rfl
 |succ n a=>rw[rA,rA,a (λi b=>h i bA),h n bA]
def Vr{n k:Nat}{f f':Nat->Bool}(d:k<n)(h:∀i,i<n->i≠k->f' i=f i):hj n f'+(f k).toNat=hj n f+(f' k).toNat:=by
 induction n with
 |zero=>omega
 |succ n c=>
  rw[rA,rA];by_cases e:k=n
  ·subst e;rw[B1 (λi b=>h i bA bA)];omega
  ·have h1:=c bA (λi b=>h i bA);have a:=h n bA (λx=>e x.symm);rw[a];omega
def Vt{n:Nat}{f f':Nat->Bool}(h:∀i,i<n->f i=true->f' i=true):hj n f<=hj n f':=by
 induction n with
 |zero=>exact dN _
 |succ n b=>
  rw[rA,rA];have h1:=b (λi c=>h i bA);have a:=h n bA;cases hf:f n with
  |false=>simp;omega
  |true=>rw[a hf];omega
def Vu{n:Nat}{f:Nat->Bool}:hj n f=0↔∀i,i<n->f i=false:=by
 unfold hj;rw[List.countP_eq_zero];simp
def B2:∀ {T:List Bool} {i:Nat} {b c:Bool},T[i]?=some b->(T.set i c).count true+b.toNat=T.count true+c.toNat
 |[],i,b,c,h=>by simp at h
 |x::T,0,b,c,h=>by
  simp only[lo,eF]at h;subst h;cases x<;>cases c<;>simp[List.count_cons]
 |x::T,i+1,b,c,h=>by
  have:=B2 (T:=T) (i:=i) (b:=b) (c:=c) (by simpa using h);simp only[T4,List.count_cons];omega
def x4{T:List Bool}(h:(fQ T).2.2=0):∃i:Nat,T[i]?=some false/\(∀j,j<i->T[j]?=some true)/\fQ T=(T.set i true,(i:Int),0):=by
 unfold fQ at h ⊢;cases hf:firstFree 0 T with
 |none=>rw[hf]at h;simp at h
 |some i=>
  obtain⟨_,a,b⟩:=BP hf;exact⟨i,by simpa using a,λj c=>by simpa using b j bA c,rfl⟩
def B3{T:List Bool}(h:(fQ T).2.2≠0):(∀b∈T,b=true)/\fQ T=(T, -1,3):=by
 unfold fQ at h ⊢;cases hf:firstFree 0 T with
 |none=>exact⟨H7 hf,rfl⟩
 |some i=>rw[hf]at h;simp at h
def Vv{T:List Bool}{i:Nat}(h:T[i]?=some true):mJ T i=(T.set i false,0):=by
 have a:=(cT.1 h).1;unfold mJ;rw[cM,dk,dK,h];simp
def iJ{g:Int}:fx g=true↔0<=g/\g<64:=by unfold fx;simp
def x5{g:Int}:gf g=true↔0<=g/\g<=top:=by unfold gf;simp
def te:∀ {l:bU},nodupB l=true↔l.Nodup
 |[]=>by simp[nodupB]
 |x::l=>by
  unfold nodupB;rw[dG,te,pD];simp
def l4{l:bU}{n:Int}:iH l n=true↔(∀g∈l,0<=g/\g<64)/\l.Nodup/\0<=n/\n<=top:=by
 unfold iH;rw[dG,dG,te,x5,fB];simp only[iJ,and_assoc]
def B4(C:List ei)(g:Int)(f:ei->ei):(iv C g f).length=C.length:=by simp[iv]
def nw(n:Int):∀(l:bU) (C:List ei),(dt C l n).length=C.length
 |[],_=>rfl
 |g::l,C=>by
  show(dt (iv C g _) l n).length=_;rw[nw n l,B4]
def vn{C:List ei}{g h:Int}(f:ei->ei)(c:C.length=64)(a:fx g=true)(b:fx h=true):(iv C g f).getD h.toNat ⟨0,0⟩=if h=g then f (C.getD g.toNat ⟨0,0⟩)else C.getD h.toNat ⟨0,0⟩:=by
 rw[iJ]at a b;unfold iv;simp only[dK];by_cases e:h=g
 ·subst e;rw[bM rfl,iM bA];rfl
 ·rw[bJ e,h4 bA]
def rC(n:Int):∀(l:bU) {C:List ei} {h:Int},C.length=64->(∀g∈l,0<=g/\g<64)->l.Nodup->fx h=true->
  (dt C l n).getD h.toNat ⟨0,0⟩=if h∈l then {C.getD h.toNat ⟨0,0⟩with use:=(C.getD h.toNat ⟨0,0⟩).use+n} else C.getD h.toNat ⟨0,0⟩
 |[],_,_,_,_,_,_=>by simp[dt]
 |g::l,C,h,c,f,j,d=>by
  have i:fx g=true:=iJ.2 (f g (by simp));have b:=pD.1 j;show(dt (iv C g _) l n).getD h.toNat _=_;rw[rC n l (by rw[B4];exact c) (λx hx=>f x (by simp[hx])) b.2 d,vn _ c i d];by_cases e:h=g
  ·subst e;rw[bJ b.1,bM rfl,bM (by simp)]
  ·by_cases a:h∈l;·rw[bM a,bJ e,bM (by simp[a])]
   ·rw[bJ a,bJ e,bJ (by simp[e,a])]
def oc{n:Int}{l:bU}{C:List ei}{h:Int}(c:C.length=64)(b:∀g∈l,0<=g/\g<64)(d:l.Nodup):cJ (dt C l n) h=cJ C h+if h∈l then n else 0:=by
 unfold cJ gU;cases a:fx h with
 |true=>
  simp only[fP];rw[rC n l c b d a];split<;>simp
 |false=>
  have:h∉l:=λhm=>by rw[iJ.2 (b h hm)]at a;cases a
  rw[bJ this];simp
def tf{n:Int}{l:bU}{C:List ei}{h:Int}(a:C.length=64)(c:∀g∈l,0<=g/\g<64)(d:l.Nodup):db (dt C l n) h=db C h:=by
 unfold db gU;cases b:fx h with
 |true=>
  simp only[fP];rw[rC n l a c d b];split<;>simp
 |false=>simp
def tg{C:List ei}{g:Int}(a:0<=g/\g<64):C.getD g.toNat ⟨0,0⟩=gU C g:=by
 unfold gU;rw[iJ.2 a];rfl
def hd.of{C:List ei}(h:hd C)(g:Int):(0<=(gU C g).use/\(gU C g).use<=top)/\0<=(gU C g).cf/\(gU C g).cf<=top:=by
 unfold gU;split
 ·next b=>
  rw[iJ]at b;have a:g.toNat<C.length:=by rw[h.len];omega
  rw[dK,dD a];exact h.ok _ (m7 a)
 ·exact⟨⟨e7 _,bO⟩,e7 _,bO⟩
def hd.new:hd j4:=⟨rfl,λx hx=>by
 rw[List.eq_of_mem_replicate hx];exact⟨⟨bO,bO⟩,bO,bO⟩⟩
def hd.mk'{C:List ei}(a:C.length=64)(h:∀g:Int,0<=g->g<64->(0<=cJ C g/\cJ C g<=top)/\0<=db C g/\db C g<=top):hd C:=by
 refine⟨a,λx hx=>?_⟩;obtain⟨i,b,rfl⟩:=h5.1 hx;have:=h i bA bA;unfold cJ db gU at this;rw[iJ.2 ⟨bA,bA⟩]at this;simpa[b]using this
def th{C:List ei}{l:bU}{n:Int}(h:(df C l n).2.2=0):iH l n=true/\df C l n=(dt C l n, -1,0)/\∀g∈l,0<n->cJ C g+n<=db C g:=by
 unfold df at h ⊢;cases a:iH l n with
 |false=>rw[a]at h;simp at h
 |true=>
  rw[a]at h;simp only[GX,gq]at h ⊢;cases hf:l.find? (λg=>decide (0<n)&&decide ((C.getD g.toNat ⟨0,0⟩).cf<(C.getD g.toNat ⟨0,0⟩).use+n))with
  |some g=>rw[hf]at h;simp at h
  |none=>
   refine⟨trivial,rfl,λg b d=>?_⟩;have:=q7.1 hf g b;have c:=(l4.1 a).1 g b;rw[tg c]at this;simp only[dG,gj,not_and]at this;unfold cJ db;have:=this d;omega
def ti{C:List ei}{l:bU}{n:Int}(c:iH l n=true)(h:(df C l n).2.2≠0):∃g∈l,df C l n=(C,g,22)/\0<n/\db C g<cJ C g+n:=by
 unfold df at h ⊢;rw[c]at h ⊢;simp only[GX,gq]at h ⊢;cases hf:l.find? (λg=>decide (0<n)&&decide ((C.getD g.toNat ⟨0,0⟩).cf<(C.getD g.toNat ⟨0,0⟩).use+n))with
 |none=>rw[hf]at h;simp at h
 |some g=>
  have a:=xu hf;have hp:=Ha hf;have b:=(l4.1 c).1 g a;rw[tg b]at hp;simp only[dG,gj]at hp;exact⟨g,a,rfl,hp.1,hp.2⟩
def rD{C:List ei}{l:bU}{n:Int}(b:iH l n=true)(h:∀g∈l,n<=cJ C g):fJ C l n=(dt C l (-n),0):=by
 unfold fJ;rw[b];simp only[GX,gq];have:l.find? (λg=>decide ((C.getD g.toNat ⟨0,0⟩).use<n))=none:=by
  rw[q7];intro g a;rw[tg ((l4.1 b).1 g a)];have:=h g a;unfold cJ at this;simp;omega
 rw[this]
def B5{C:List ei}{l:bU}{n:Int}(b:iH l n=true)(h:∃g∈l,cJ C g<n):fJ C l n=(C,2):=by
 unfold fJ;rw[b];simp only[GX,gq];obtain⟨g,a,c⟩:=h;cases hf:l.find? (λg=>decide ((C.getD g.toNat ⟨0,0⟩).use<n))with
 |some x=>rfl
 |none=>
  have:=q7.1 hf g a;rw[tg ((l4.1 b).1 g a)]at this;unfold cJ at c;simp at this;omega
def hd.try{C:List ei}(h:hd C)(l:bU)(n:Int):hd (df C l n).1:=by
 by_cases b:(df C l n).2.2=0
 ·obtain⟨a,he,hle⟩:=th b;rw[he];obtain⟨h1,c,e,f⟩:=l4.1 a;refine hd.mk' (by rw[nw];exact h.len) (λg i d=>?_);rw[oc h.len h1 c,tf h.len h1 c];have ho:=h.of g;unfold cJ db at*
  split
  ·next hm=>
   rcases Int.lt_or_le 0 n with hp|hp
   ·have:=hle g hm hp;omega
   ·have:n=0:=by omega
    subst this;omega
  ·omega
 ·cases a:iH l n with
  |false=>
   have:df C l n=(C, -1,1):=by unfold df;rw[a];rfl
   rw[this];exact h
  |true=>
   obtain⟨g,_,he,_⟩:=ti a b;rw[he];exact h
def hd.di{C:List ei}(h:hd C)(l:bU)(n:Int):hd (fJ C l n).1:=by
 cases a:iH l n with
 |false=>
  have:fJ C l n=(C,1):=by unfold fJ;rw[a];rfl
  rw[this];exact h
 |true=>
  by_cases d:∃g∈l,cJ C g<n;·rw[B5 a d];exact h
  ·have b:∀g∈l,n<=cJ C g:=λg e=>Int.not_lt.1 (λf=>d ⟨g,e,f⟩);rw[rD a b];obtain⟨h1,c,j,k⟩:=l4.1 a;refine hd.mk' (by rw[nw];exact h.len) (λg e i=>?_);rw[oc h.len h1 c,tf h.len h1 c];have ho:=h.of g;unfold cJ db at*
   split;·next hm=>have:=b g hm;omega
   ·omega
def hd.ka{C:List ei}(h:hd C)(g n:Int):hd (hs C g n).1:=by
 unfold hs;split
 ·next c=>
  rw[dG]at c;refine hd.mk' (by rw[B4];exact h.len) (λx hx d=>?_);have b:fx x=true:=iJ.2 ⟨hx,d⟩;unfold cJ db gU;rw[b,bM rfl,vn _ h.len c.1 b];have ho:=h.of x;have a:=h.of g;have e:=x5.1 c.2;unfold gU at ho a;rw[b,bM rfl]at ho;rw[c.1,bM rfl]at a;split;·exact⟨a.1,e⟩
  ·exact ho
 ·exact h
def vo{C:List ei}(b:C.length=64)(g n x:Int):cJ (hs C g n).1 x=cJ C x:=by
 unfold hs;split
 ·next a=>
  rw[dG]at a;unfold cJ gU;cases hx:fx x with
  |false=>simp
  |true=>
   simp only[fP];rw[vn _ b a.1 hx];split;·next e=>subst e;rfl
   ·rfl
 ·rfl
end Go.Kc
