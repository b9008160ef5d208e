/- A part of the proof. -/
import Derived.Test.YtafigbgagbolgaaGreatDoorD01
import Derived.Deep.AppendSrc
import Derived.Laws.MakeOwn
import Derived.Laws.IdiomStrings
import Derived.Stop.BytesEq
import Derived.Laws.StructEq
import Derived.MapKept
import Derived.Tactics
set_option linter.all false
set_option maxRecDepth 100000
open Go.IntKind(i64 u64)
namespace Go.Sp
open Go Go.Vc
@[simp] theorem cj(b o n:Nat):(⟨b,o,none⟩:Addr).add n=⟨b,o+n,none⟩:=by
 unfold Addr.add;split;·subst_vars;rfl
 ·rfl
def cy{b:Bool}{A B:Prop}(h1:b=true->A)(h2:b=false->B):bif b then A else B:=by
 cases b;·exact h2 rfl
 ·exact h1 rfl
def eM{A B:Prop}(h:A):bif true then A else B:=h
def dQ{A B:Prop}(h:B):bif false then A else B:=h
def use{P:cS}{f:bj6}{args:cf bH}{w:bI}{K:bj0}{R:Ending->bi9}(h:Calls P f args w (cC K))(k:∀v w',K v w'->R (.returned v) w'):Calls P f args w R:=
 h.mono λe w' ⟨v,he,hk⟩=>by subst he;exact k v w' hk
def cX{n:Int}(h1: -9223372036854775808<=n)(h2:n<=9223372036854775807):i64.wrap n=n:=by
 unfold IntKind.wrap;simp only[IntKind.signed,IntKind.bits,my];by_cases a:n%2^64≥2^(64-1);·rw[bK (by simpa using a)];omega
 ·rw[bJ (by simpa using a)];omega
def iw(c:bA bH)(o:Nat):bA bH->bA bH
 |[]=>c
 |v::r=>iw (c.set o v) (o+1) r
@[simp] theorem Vz:∀(vs:bA bH) (c:bA bH) (o:Nat),(iw c o vs).length=c.length
 |[],_,_=>rfl
 |v::r,c,o=>by rw[iw,Vz r];simp
def IB:∀(vs:bA bH) (c:bA bH) (o i:Nat),(iw c o vs)[i]?=if o<=i/\i<o+vs.length/\i<c.length then vs[i-o]? else c[i]?
 |[],c,o,i=>by
  have:¬ (o<=i/\i<o+0/\i<c.length):=by omega
  simp only[iw,rr,bJ this]
 |v::r,c,o,i=>by
  rw[iw,IB r];simp only[eh,hN,hv];by_cases h1:o=i
  ·subst h1;by_cases h2:o<c.length
   ·have:¬ (o+1<=o/\o<o+1+r.length/\o<c.length):=by omega
    rw[bJ this,bK rfl,bK h2,eV];simp
   ·have:¬ (o+1<=o/\o<o+1+r.length/\o<c.length):=by omega
    rw[bJ this,bK rfl,bJ h2,cK];simp;omega
  ·rw[bJ h1];by_cases h2:o+1<=i/\i<o+1+r.length/\i<c.length
   ·rw[bK h2,eV];rw[show i-o=(i-(o+1))+1 by omega];simp
   ·rw[bJ h2,cK]
def o7:∀(vs c:bA bH) (o:Nat),o+vs.length<=c.length->iw c o vs=c.take o++vs++c.drop (o+vs.length):=by
 intro vs c o hl;apply gJ;intro i;rw[IB];by_cases h1:o<=i/\i<o+vs.length/\i<c.length
 ·rw[bK h1,dp,fL (by simp;omega),eQ (by simp;omega)];simp[show min o c.length=o by omega]
 ·rw[bJ h1];by_cases h2:i<o;·rw[dp,eQ (by simp;omega)];simp[h2]
  ·by_cases a:i<c.length
   ·rw[fL (by simp;omega)];simp only[df,gT,rm];congr 1;omega
   ·rw[gI bu,gI (by simp;omega)]
section
variable{E:Env}{L:cr}{w:bI}{P:cS}
def Sep.setCells{b:Nat}:∀(vs:bA bH) {c:bA bH} {w:bI} (_:Sep E (bD b c::L) w) (o:Nat),Sep E (bD b (iw c o vs)::L) (w.setCells b o vs)
 |[],_,_,h,_=>h
 |v::r,_,_,h,o=>Sep.setCells r (h.setCell o v) (o+1)
def Sep.isSome{b:Nat}{c:bA bH}(h:Sep E (bD b c::L) w){o:Nat}(ho:o<c.length):(w.cell? ⟨b,o,none⟩).isSome=true:=by
 rw[h.cell o];simp[ho]
def Sep.rL{b:Nat}{c:bA bH}(h:Sep E (bD b c::L) w){o:Nat}(ho:o<c.length):w.frozen? ⟨b,o,none⟩=false:=(h.e1 ho).2
def IC(b:Nat):∀(vs:bA bH) (w:bI) (o i:Nat),sN w ⟨b,o,none⟩ i vs=w.setCells b (o+i) vs
 |[],_,_,_=>rfl
 |v::r,w,o,i=>by rw[sN,cj,IC b r,World.setCells];rfl
def cQ.j{b:Nat}{c:bA bH}{v:bH}{f:bi9}{o n:Nat}(h:Sep E (bD b c::L) w)(ho:o+n<c.length)(k:∀a,Sep E (bD b (c.set (o+n) v)::L) a->f a):St ((⟨b,o,none⟩:Addr).add n) v f w:=by
 rw[cj];exact St.i h ho k
def k5.i{b:Nat}{c:bA bH}{f:bi9}{o:Nat}{vs:bA bH}(h:Sep E (bD b c::L) w)(hl:o+vs.length<=c.length)(k:∀a,Sep E (bD b (iw c o vs)::L) a->f a):k5 vs ⟨b,o,none⟩ f w:=by
 have go:∀(vs:bA bH) (i:Nat) {c:bA bH} {w:bI} (_:Sep E (bD b c::L) w) (_:o+i+vs.length<=c.length) (_:∀a,Sep E (bD b (iw c (o+i) vs)::L) a->f a),sM vs ⟨b,o,none⟩ i w f:=by
  intro vs;induction vs with
  |nil=>intro i c w h _ k;exact k _ h
  |cons v r d=>
   intro i c w h hl k;simp only[hN]at hl;refine⟨by rw[cj];exact h.e1 bu,?_⟩;rw[cj];refine d (i+1) (h.setCell (o+i) v) (by simp;omega) (λa h1=>k a h1)
 exact go vs 0 h hl k
def u1.i{b:Nat}{c:bA bH}{f:bi9}{o n:Nat}{k:IntKind}{v:bH}(a:bS)(h:Sep E (bD b c::L) w)(e:v=.agg (a.map (Value.int k)).toArray)(hn:a.length=n)(hl:o+n<=c.length)(g:∀d,Sep E (bD b (iw c o (a.map (Value.int k)))::L) d->f d):u1 n k v ⟨b,o,none⟩ w f:=by
 refine⟨a,e,hn,λi j=>?_,?_⟩;·rw[cj];exact h.e1 bu
 ·rw[IC];exact g _ (h.setCells _ _)
def hG(P:cS)(t:bZ):bX (Nat×Nat×bA bH):=
 match P.underlying t with
 |some (.slice e)=>match P.info? e with
  |some i=>match i.zero with
   |some z=>some (i.bytes,i.size,z.cells.toList)
   |none=>none
  |none=>none
 |_=>none
def pW{t:bZ}{dj sz:Nat}{zs:bA bH}(h:hG P t=some (dj,sz,zs)):∃e i z,P.underlying t=some (.slice e)/\P.info? e=some i/\i.zero=some z/\i.bytes=dj/\i.size=sz/\z.cells.toList=zs:=by
 unfold hG at h;split at h
 ·next e he=>
  split at h
  ·next i a=>
   split at h;·next z b=>simp only[fT,oU]at h;exact⟨e,i,z,he,a,b,h.1,h.2.1,h.2.2⟩
   ·simp at h
  ·simp at h
 ·simp at h
def B5(P:cS)(t:bZ):Bool:=
 match P.underlying t with
 |some (.slice e)=>match P.underlying e with
  |some (.int .u8)=>true
  |_=>false
 |_=>false
def B6{t:bZ}(h:B5 P t=true):∃e,P.underlying t=some (.slice e)/\P.underlying e=some (.int .u8):=by
 unfold B5 at h;split at h
 ·next e he=>
  split at h;·next h2=>exact⟨e,he,h2⟩
  ·simp at h
 ·simp at h
def VA{t:bZ}(h:pT P t=true):P.underlying t=some .string:=by
 unfold pT at h;split at h;·assumption
 ·simp at h
def makeSlice.i(h:Sep E L w){t:bZ}{dj sz:Nat}{zs:bA bH}(q:hG P t=some (dj,sz,zs)){n m:IntKind}{l c:Int}(o:0<=l)(g:l<=c)(hb:(dj:Int)*c<=281474976710656)(d:c<=9223372036854775807){G:Sl->bi9}(k:∀b a,Sep E (bD b ((List.range (c.toNat*sz)).map λi=>(zs.toArray)[i%zs.length]!)::L) a->G ⟨some ⟨b,0,none⟩,l.toNat,c.toNat⟩ a):
  ∃x:Sl,∃a,Sem.run P (Instr.makeSlice t (.int n l) (.int m c)) w=.ok (.slice x.p x.n x.c) a/\G x a:=by
 obtain⟨e,i,z,s,p,u,f,r,j⟩:=pW q;subst f r j;have:=h.alloc (madeCells z.cells (c.toNat*i.size)) e;refine⟨⟨_,_,_⟩,_,run_make w t e i z s p u n m l c o g hb d,k _ _ ?_⟩;simpa[madeCells]using this
def hz(l:bA UInt8):bA bH:=l.map λb=>Value.int .u8 b.toNat
@[simp] theorem vh(l:bA UInt8)(i:Nat):(hz l)[i]?=l[i]?.map λb=>Value.int .u8 b.toNat:=by simp[hz]
@[simp] theorem VB(l:bA UInt8):(hz l).length=l.length:=by simp[hz]
def mK.i(h:Sep E L w){t:bZ}{dj sz m:Nat}(g:hG P t=some (dj,sz,hz (List.replicate m 0)))(hm:0<m){n j:IntKind}{l:Int}(f:0<=l)(hb:(dj:Int)*l<=281474976710656)(c:l<=9223372036854775807){G:Sl->bi9}(k:∀b a,Sep E (bD b (hz (List.replicate (l.toNat*sz) 0))::L) a->G ⟨some ⟨b,0,none⟩,l.toNat,l.toNat⟩ a):
  ∃x:Sl,∃a,Sem.run P (Instr.makeSlice t (.int n l) (.int j l)) w=.ok (.slice x.p x.n x.c) a/\G x a:=by
 refine makeSlice.i h g f (hh _) hb c (λb a h1=>k b a ?_);have:((List.range (l.toNat*sz)).map λi=>((hz (List.replicate m 0)).toArray)[i%(hz (List.replicate m 0)).length]!)=hz (List.replicate (l.toNat*sz) 0):=by
  apply gJ;intro i;simp only[ez,VB,mW,vh];have e:i%m<m:=k4 _ hm;by_cases d:i<l.toNat*sz;·simp[d,hz,e]
  ·simp[d]
 rw[this]at h1;exact h1
def toStr.i(l:bA UInt8){b o n c:Nat}{C:bA bH}{s d:bZ}(m:Nat)(h:Sep E L w)(p:L[m]?=some (bD b C))(q:B5 P s=true)(i:pT P d=true)(hn:l.length=n)(g:∀j (a:j<l.length),C[o+j]?=some (.int .u8 (l[j].toNat:Int))){G:ByteArray->bi9}(k:G ⟨l.toArray⟩ w):
  ∃x:ByteArray,∃f,Sem.run P (convert s d (.slice (some ⟨b,o,none⟩) n c)) w=.ok (.string x) f/\G x f:=by
 subst hn;obtain⟨e,h1,h2⟩:=B6 q;exact⟨_,_,run_convert_bytes_back w s d e ⟨b,o,none⟩ c l h1 h2 (VA i) (λj a=>by rw[cj,h.cellAt m p];exact g j a),k⟩
def o8.i{b o n c:Nat}{C:bA bH}{s:ByteArray}{f st ty:bZ}{dj:Nat}{zs:bA bH}(h:Sep E (bD b C::L) w)(p:hG P f=some (dj,1,zs))(hn:s.size=n)(v:o+n<=C.length){G:Int->bi9}(k:∀a,Sep E (bD b (iw C o (byteCells s))::L) a->G (n:Int) a):
  ∃x:Int,∃a,Sem.run P (Builtin.copy_ #[f,st] ty #[.slice (some ⟨b,o,none⟩) n c,.string s]) w=.ok (.int .i64 x) a/\G x a:=by
 subst hn;obtain⟨e,i,z,q,l,y,r,g,t⟩:=pW p;have hl:(byteCells s).length=s.size:=byteCells_length s;have d:=run_storeCells_cells (P:=P) b o (byteCells s) 0 w (λj m=>h.isSome bu) (λj m=>h.rL bu) (λu hu=>by
  obtain⟨_,_,rfl⟩:=fD.1 hu;rfl)
 refine⟨(s.size:Int),w.setCells b o (byteCells s),?_,k _ (h.setCells _ _)⟩;have hf:=firstCells_string (P:=P) s w;simp only[l2]at d;simp[Builtin.copy_,run_underlying q,Builtin.lenOf,sizeOf,typeInfo,l,g,hf,d,goInt]
def append.i{b o n c:Nat}{C:bA bH}{x:bH}{k:Nat}{news:bA bH}{st p ty:bZ}{dj sz:Nat}{zs:bA bH}(h:Sep E (bD b C::L) w)(K:hG P st=some (dj,sz,zs))(r:Src P sz p x k news w)(Q:o+n*sz<=C.length)(g:n+k<=c->o+(n+k)*sz<=C.length)(t:((n+k:Nat):Int)<=9223372036854775807)(q:c<n+k->Builtin.nextslicecap (n+k) c*dj<=281474976710656){G:Sl->bi9}(N:n+k<=c->∀d,Sep E (bD b (iw C (o+n*sz) news)::L) d->G ⟨some ⟨b,o,none⟩,n+k,c⟩ d)(O:c<n+k->∀s c' d,n+k<=c'->Sep E (bD s ((C.drop o).take (n*sz)++news++(Builtin.zeroCells zs.toArray (c'-(n+k))).toList)::bD b C::L) d->G ⟨some ⟨s,0,none⟩,n+k,c'⟩ d):
  ∃m:Sl,∃d,Sem.run P (Builtin.append_ #[st,p] ty #[.slice (some ⟨b,o,none⟩) n c,x]) w=.ok (.slice m.p m.n m.c) d/\G m d:=by
 obtain⟨e,i,z,H,y,M,u,D,I⟩:=pW K;subst u D I;by_cases hr:n+k<=c
 ·have hl:=r.newsLen;have F:=g hr;rw[kC]at F;exact⟨⟨_,_,_⟩,_,run_append_room_src w st p ty e i H y b o n c x k news r hr (λj l=>h.isSome bu) (λj l=>h.rL bu),N hr _ (h.setCells _ _)⟩
 ·have f:c<n+k:=by omega
  let a:bA bH:=(C.drop o).take (n*i.size);have B:a.length=n*i.size:=by simp[a];omega
  have hold:(Builtin.firstCells i.size n (.slice (some ⟨b,o,none⟩) n c)).run P w.drew=.ok a.toArray w.drew:=by
   refine run_firstCells_some w.drew i.size n ⟨b,o,none⟩ n c a B (λj v l=>?_);have A:j<n*i.size:=by
    rcases hE j (n*i.size)with h' | h';·exact h'
    ·simp[gI (show a.length<=j by omega)]at l
   rw[cj,h.drew.cell];rw[<- l];simp[a,A]
  have J:=run_append_grow_src w st p ty e i z H y M (some ⟨b,o,none⟩) n c a hold x k news r f t (q f);refine⟨⟨_,_,_⟩,_,J,?_⟩;refine O f w.heap.size (grownCap w (n+k) c e) _ ?_ ?_;·show n+k<=n+k+_;omega
  ·have:=h.drew.alloc ((a++news).toArray++Builtin.zeroCells z.cells (grownCap w (n+k) c e-(n+k))) e;simpa[a]using this
def jG.i{c:Nat}{x:bH}{k:Nat}{news:bA bH}{st f ty:bZ}{dj sz:Nat}{zs:bA bH}(h:Sep E L w)(q:hG P st=some (dj,sz,zs))(r:Src P sz f x k news w)(v:c<k)(j:(k:Int)<=9223372036854775807)(d:Builtin.nextslicecap k c*dj<=281474976710656){G:Sl->bi9}(u:∀g c' a,k<=c'->Sep E (bD g (news++(Builtin.zeroCells zs.toArray (c'-k)).toList)::L) a->G ⟨some ⟨g,0,none⟩,k,c'⟩ a):
  ∃b:Sl,∃a,Sem.run P (Builtin.append_ #[st,f] ty #[.slice none 0 c,x]) w=.ok (.slice b.p b.n b.c) a/\G b a:=by
 obtain⟨e,i,z,s,p,t,l,m,n⟩:=pW q;subst l m n;have hold:(Builtin.firstCells i.size 0 (.slice none 0 c)).run P w.drew=.ok ([]:bA bH).toArray w.drew:=run_firstCells_none w.drew i.size 0 0 c;have o:=run_append_grow_src w st f ty e i z s p t none 0 c [] hold x k news r bu (by simpa using j) (by simpa using d);refine⟨⟨_,_,_⟩,_,o,?_⟩;have e0:0+k=k:=fz k;rw[e0];refine u w.heap.size (grownCap w k c e) _ ?_ ?_;·show k<=k+_;omega
 ·have:=h.drew.alloc (news.toArray++Builtin.zeroCells z.cells (grownCap w k c e-k)) e;simpa using this
end
end Go.Sp
namespace Go.Sp
open Go Go.Vc
inductive LK where
 |int (k:IntKind)|bool|str
def LK.ok:LK->bH->Prop
 |.int k,v=>∃n,v=.int k n
 |.bool,v=>∃b,v=.bool b
 |.str,v=>∃s,v=.string s
def lE(P:cS)(a:bZ->bX (bA LK)):bA Field->Nat->bX (bA LK)
 |[],_=>some []
 |f::fs,o=>match f.name== "_",Nat.beq f.offset o,a f.type with
  |false,true,some l=>match iF P f.type with
   |some n=>match Nat.beq n l.length with
    |true=>match lE P a fs (o+l.length)with
     |some r=>some (l++r)
     |none=>none
    |false=>none
   |none=>none
  |_,_,_=>none
def kK(P:cS):Nat->bZ->bX (bA LK)
 |0,_=>none
 |d+1,t=>match P.underlying t with
  |some (.int k)=>some [.int k]
  |some .bool=>some [.bool]
  |some .string=>some [.str]
  |some (.struct fs)=>match P.stoodInHeld t with
   |true=>none
   |false=>lE P (kK P d) fs.toList 0
  |_=>none
def Cells:bA LK->bA bH->Prop
 |[],[]=>True
 |k::ks,v::vs=>k.ok v/\Cells ks vs
 |_,_=>False
def Cells.length:∀ {l:bA LK} {vs:bA bH},Cells l vs->vs.length=l.length
 |[],[],_=>rfl
 |_::_,_::_,h=>by simp[Cells.length h.2]
 |[],_::_,h=>h.elim
 |_::_,[],h=>h.elim
def Cells.append:∀ {l r:bA LK} {vs:bA bH},Cells (l++r) vs->Cells l (vs.take l.length)/\Cells r (vs.drop l.length)
 |[],_,_,h=>⟨trivial,h⟩
 |_::_,_,_::_,h=>⟨⟨h.1,(Cells.append h.2).1⟩,(Cells.append h.2).2⟩
 |_::_,_,[],h=>h.elim
def Typed(P:cS)(t:bZ)(l:bA LK)(v:bH):Prop:=
 match eB P t with
 |some true=>∃cs:cf bH,v=.agg cs/\Cells l cs.toList
 |_=>Cells l [v]
section
variable{P:cS}
def VC{t:bZ}{n:Nat}(h:iF P t=some n):∃i,P.info? t=some i/\i.size=n:=by
 unfold iF at h;cases a:P.info? t with
 |none=>simp[a]at h
 |some i=>simp[a]at h;exact⟨i,rfl,h⟩
def B7{l:LK}{a b:bH}(c:l.ok a)(hb:l.ok b){t:bZ}(d:Nat)(e:(match l with | .int k=>P.underlying t=some (.int k) | .bool=>P.underlying t=some .bool | .str=>P.underlying t=some .string))(w:bI):
  ∃r,(Op.equalIn (d+1) t a b).run P w=.ok r w/\(r=true↔a=b):=by
 cases l with
 |int k=>
  obtain⟨x,rfl⟩:=c;obtain⟨y,rfl⟩:=hb;exact⟨x==y,run_equalIn_int w d t k k x y e,by simp⟩
 |bool=>
  obtain⟨x,rfl⟩:=c;obtain⟨y,rfl⟩:=hb;exact⟨x==y,run_equalIn_bool w d t x y e,by simp⟩
 |str=>
  obtain⟨x,rfl⟩:=c;obtain⟨y,rfl⟩:=hb;refine⟨x.toList==y.toList,run_equalIn_string w d t x y e,?_⟩;rw[<- beq_toListBytes,MapKept.bytes_beq];simp
def B8{t:bZ}{d:TypeDesc}(h:P.underlying t=some d)(h1:∀fs,d≠ .struct fs)(h2:∀n e,d≠ .array n e):eB P t=some false:=by
 unfold eB;rw[h];cases d<;>simp_all
def B9{t:bZ}{l r:bA LK}{n:Nat}{xs:cf bH}{o:Nat}(u:iF P t=some n)(hn:n=l.length)(m:eB P t≠none)(h1:eB P t=some false->l.length=1)(p:Cells (l++r) (xs.toList.drop o))(w:bI):
  ∃v,(part t xs o).run P w=.ok v w/\Typed P t l v/\v.cells.toList=(xs.toList.drop o).take l.length/\(eB P t=some false->xs.toList.drop o=v::xs.toList.drop (o+1)):=by
 obtain⟨i,s,q⟩:=VC u;obtain⟨hl,_⟩:=p.append;cases a:eB P t with
 |none=>exact absurd a m
 |some b=>cases b with
  |true=>
   have c:(isAgg t).run P w=.ok true w:=by
    unfold eB at a;cases hu:P.underlying t with
    |none=>simp[hu]at a
    |some d=>cases d<;>simp[hu]at a<;>simp[isAgg,run_underlying hu]
   refine⟨.agg (xs.extract o (o+n)),?_,?_,?_,λh=>by simp at h⟩;·simp[part,c,sizeOf,typeInfo,s,q]
   ·unfold Typed;rw[a];refine⟨_,rfl,?_⟩;have:(xs.extract o (o+n)).toList=(xs.toList.drop o).take l.length:=by
     rw[Array.toList_extract,List.extract,hn];simp
    rw[this];exact hl
   ·show(xs.extract o (o+n)).toList=_;rw[Array.toList_extract,List.extract,hn];simp
  |false=>
   have c:(isAgg t).run P w=.ok false w:=by
    unfold eB at a;cases hu:P.underlying t with
    |none=>simp[hu]at a
    |some d=>cases d<;>simp[hu]at a<;>simp[isAgg,run_underlying hu]
   have f:=h1 a;have hlen:=p.length;simp only[df,ot,uF]at hlen;have ho:o<xs.size:=by omega
   have j:xs.toList.drop o=xs[o]::xs.toList.drop (o+1):=by
    rw[kZ (by simpa using ho)];simp
   rw[f,j]at hl;have e:Cells l [xs[o]]:=by simpa using hl
   have g:xs[o].cells.toList= [xs[o]]:=by
    cases l with
    |nil=>simp at f
    |cons k ks=>
     have:=e.1;cases k<;>(obtain⟨_,h⟩:=this;rw[h];rfl)
   refine⟨xs[o],?_,?_,?_,λ_=>j⟩;·simp[part,c,ho]
   ·unfold Typed;rw[a];exact e
   ·rw[g,f,j];simp
def ID{d:Nat}{t:bZ}{l:bA LK}(h:kK P d t=some l):eB P t≠none/\(eB P t=some false->l.length=1):=by
 cases d with
 |zero=>simp[kK]at h
 |succ d=>
  unfold kK at h;unfold eB;cases hu:P.underlying t with
  |none=>simp[hu]at h
  |some x=>cases x<;>simp[hu]at h<;>simp<;>(try subst h)<;>rfl
def IE:∀(d:Nat) (t:bZ) (l:bA LK),kK P d t=some l->∀(D:Nat),d<=D->∀(a b:bH),Typed P t l a->Typed P t l b->∀w,∃r,(Op.equalIn D t a b).run P w=.ok r w/\(r=true↔a=b):=by
 intro d;induction d with
 |zero=>intro t l h;simp[kK]at h
 |succ d Y=>
  intro t l h D ae a b c hb w;obtain⟨D,rfl⟩:∃U,D=U+1:=⟨D-1,bu⟩
  unfold kK at h;cases hu:P.underlying t with
  |none=>simp[hu]at h
  |some x=>
   cases x<;>simp only[hu]at h<;>try (simp at h;done)
   case bool=>
    simp only[fT]at h;subst h;have g:=B8 hu (by simp) (by simp);unfold Typed at c hb;rw[g]at c hb;exact B7 (l:=.bool) c.1 hb.1 D hu w
   case int k=>
    simp only[fT]at h;subst h;have g:=B8 hu (by simp) (by simp);unfold Typed at c hb;rw[g]at c hb;exact B7 (l:=.int k) c.1 hb.1 D hu w
   case string=>
    simp only[fT]at h;subst h;have g:=B8 hu (by simp) (by simp);unfold Typed at c hb;rw[g]at c hb;exact B7 (l:=.str) c.1 hb.1 D hu w
   case struct fs=>
    cases z:P.stoodInHeld t with
    |true=>simp[z]at h
    |false=>
     simp only[z]at h;have g:eB P t=some true:=by unfold eB;rw[hu]
     unfold Typed at c hb;rw[g]at c hb;obtain⟨xs,rfl,hx⟩:=c;obtain⟨p,rfl,X⟩:=hb;have hf:P.fieldsOf t=fs:=by simp[Program.fieldsOf,hu]
     have m:=run_equalIn_struct (P:=P) w D t xs p (by rw[hf];exact hu) z;rw[hf]at m;rw[m];have key:∀(s:bA Field) (o:Nat) (l:bA LK),lE P (kK P d) s o=some l->Cells l (xs.toList.drop o)->Cells l (p.toList.drop o)->∃r,(Op.eqFields D xs p s).run P w=.ok r w/\(r=true↔xs.toList.drop o=p.toList.drop o):=by
      intro s;induction s with
      |nil=>
       intro o l hl h1 h2;simp only[lE,fT]at hl;subst hl;have m:=h1.length;have A:=h2.length;refine⟨true,by simp[Op.eqFields],?_⟩;simp only[rr]at m A;simp[uC m,uC A]
      |cons f s R=>
       intro o l hl h1 h2;unfold lE at hl;split at hl
       ·next i hn ho C=>
        split at hl
        ·next n O=>
         split at hl
         ·next L=>
          split at hl
          ·next r hr=>
           simp only[fT]at hl;subst hl;have E:f.name≠ "_" :=by simpa using hn
           have M:=kz ho;have y:=kz L;obtain⟨H,q2⟩:=ID C;obtain⟨I,S,q,ca,_⟩:=B9 O y H q2 h1 w;obtain⟨J,T,tb,W,_⟩:=B9 O y H q2 h2 w;obtain⟨Z,B,F⟩:=Y f.type i C D bu I J q tb w;have d1:=h1.append.2;have d2:=h2.append.2;rw[ru]at d1 d2;obtain⟨aa,K,N⟩:=R (o+i.length) r hr d1 d2;have u:I=J↔(xs.toList.drop o).take i.length=(p.toList.drop o).take i.length:=by
            rw[<- ca,<- W];constructor;·intro e;rw[e]
            ·intro e;unfold Typed at q tb;cases g:eB P f.type with
             |none=>exact absurd g H
             |some V=>cases V with
              |true=>
               rw[g]at q tb;obtain⟨ab,rfl,_⟩:=q;obtain⟨ad,rfl,_⟩:=tb;have:ab.toList=ad.toList:=e;rw[Array.toList_inj.1 this]
              |false=>
               rw[g]at q tb;have one:∀ {v:bH},Cells i [v]->v.cells.toList= [v]:=by
                intro v Q;cases i with
                |nil=>exact Q.elim
                |cons k ks=>
                 have:=Q.1;cases k<;>(obtain⟨_,h⟩:=this;rw[h];rfl)
               rw[one q,one tb]at e;simpa using e
           have j:(xs.toList.drop o=p.toList.drop o)↔(I=J/\xs.toList.drop (o+i.length)=p.toList.drop (o+i.length)):=by
            rw[u,<- ru,<- ru];constructor;·intro e;rw[e];exact⟨rfl,rfl⟩
            ·rintro⟨m,A⟩;rw[<- fP i.length (xs.toList.drop o),m,A,fP]
           subst M;cases Z with
           |false=>
            refine⟨false,?_,?_⟩;·simp[Op.eqFields,E,S,T,B]
            ·rw[j];constructor;·intro h;cases h
             ·intro h;exact absurd (F.2 h.1) (by simp)
           |true=>
            refine⟨aa,?_,?_⟩
            ·simp only[Op.eqFields,bK E,Sem.run_bind,S,T,B,Result.andThen_ok];simpa using K
            ·rw[j,N];exact⟨λh=>⟨F.1 rfl,h⟩,λh=>h.2⟩
          ·simp at hl
         ·simp at hl
        ·simp at hl
       ·simp at hl
     obtain⟨r,hr,G⟩:=key fs.toList 0 l h (by simpa using hx) (by simpa using X);refine⟨r,hr,?_⟩;rw[G];simp only[rv,Value.agg.injEq];exact Array.toList_inj
def kE.neq{d:Nat}{t:bZ}{l:bA LK}(h:kK P d t=some l)(f:d<=10000)(g:P.eqGuardType P.depth t=false)(e:eB P t=some true){a b:bH}(c:Typed P t l a)(hb:Typed P t l b):∃r,kE P .neq t a b r/\(r=false↔a=b):=by
 have key:=IE d t l h 10000 f a b c hb;unfold Typed at c hb;rw[e]at c hb;obtain⟨xs,rfl,_⟩:=c;obtain⟨m,rfl,_⟩:=hb;obtain⟨r,_,hr⟩:=key default;refine⟨!r,⟨λj k w=>by simp[eqGuard,g],λw=>?_⟩,by cases r<;>simp_all⟩;obtain⟨r',h1,i⟩:=key w;have:r'=r:=by cases r<;>cases r'<;>simp_all
 subst this;rw[run_neq_struct,h1];rfl
def VD(e:Bool):∀(d:Nat) (t:bZ) (l:bA LK),kK P d t=some l->∀(D:Nat),d<=D->∀(a:bH),Typed P t l a->∀w,(Instr.checkKey e D t a).run P w=.ok () w:=by
 intro d;induction d with
 |zero=>intro t l h;simp[kK]at h
 |succ d C=>
  intro t l h D I a i w;obtain⟨D,rfl⟩:∃v,D=v+1:=⟨D-1,bu⟩
  unfold kK at h;cases hu:P.underlying t with
  |none=>simp[hu]at h
  |some x=>
   cases x<;>simp only[hu]at h<;>try (simp at h;done)
   case bool=>simp[Instr.checkKey,run_underlying hu]
   case int k=>simp[Instr.checkKey,run_underlying hu]
   case string=>simp[Instr.checkKey,run_underlying hu]
   case struct fs=>
    cases g:P.stoodInHeld t with
    |true=>simp[g]at h
    |false=>
     simp only[g]at h;have A:eB P t=some true:=by unfold eB;rw[hu]
     unfold Typed at i;rw[A]at i;obtain⟨xs,rfl,hx⟩:=i;have key:∀(b:bA Field) (o:Nat) (l:bA LK),lE P (kK P d) b o=some l->Cells l (xs.toList.drop o)->
       (forIn b PUnit.unit λf _=>do
        if f.name≠ "_" then Instr.checkKey e D f.type (<- part f.type xs f.offset)
        pure (ForInStep.yield PUnit.unit):Sem PUnit).run P w=.ok PUnit.unit w:=by
      intro b;induction b with
      |nil=>intro o l hl h1;simp
      |cons f b s=>
       intro o l hl h1;unfold lE at hl;split at hl
       ·next u hn ho c=>
        split at hl
        ·next n B=>
         split at hl
         ·next p=>
          split at hl
          ·next r hr=>
           simp only[fT]at hl;subst hl;have m:f.name≠ "_" :=by simpa using hn
           have q:=kz ho;have j:=kz p;obtain⟨F,q2⟩:=ID c;obtain⟨H,E,G,ca,_⟩:=B9 B j F q2 h1 w;have d1:=h1.append.2;rw[ru]at d1;have z:=s (o+u.length) r hr d1;subst q;have y:=C f.type u c D bu H G w;simp only[List.forIn_cons,Sem.run_bind,bK m,E,y,Result.andThen_ok,Sem.run_pure];exact z
          ·simp at hl
         ·simp at hl
        ·simp at hl
       ·simp at hl
     have:=key fs.toList 0 l h (by simpa using hx);simp only[Instr.checkKey,Sem.run_bind,run_underlying hu,Result.andThen_ok];simp at this ⊢;rw[this];rfl
end
end Go.Sp
namespace Go.Sp
open Go Go.Vc
structure ih(P:cS)(kt:bZ){κ:Type}(enc:κ->bH):Prop where
 inj:∀a b,enc a=enc b->a=b
 pX:∀e k w,(Instr.checkKey e 10000 kt (enc k)).run P w=.ok () w
 some_:∀k (es:bA MapEntry) i e w,(∀e∈es,∃k',e.key=enc k')->es[i]?=some e->e.key=enc k->(∀j e',j<i->es[j]?=some e'->e'.key≠enc k)->(Instr.findKey kt (enc k) es).run P w=.ok (some (i,e.val)) w
 none_:∀k (es:bA MapEntry) w,(∀e∈es,∃k',e.key=enc k')->(∀e∈es,e.key≠enc k)->(Instr.findKey kt (enc k) es).run P w=.ok none w
 stay:∀k,Instr.sameBits 10000 (enc k) (enc k)=true
section
variable{P:cS}{kt:bZ}
def IF{d:TypeDesc}{k:bH}:
  ∀(es:bA MapEntry) (n i:Nat) (e:MapEntry),es[i]?=some e->Instr.sameNow d k e.key=some true->(∀j e',j<i->es[j]?=some e'->Instr.sameNow d k e'.key=some false)->Instr.findNow d k es n=some (some (n+i,e.val))
 |[],_,_,_,h,_,_=>by simp at h
 |x::es,n,0,e,h,h1,_=>by
  simp only[k1,fT]at h;subst h;simp[Instr.findNow,h1]
 |x::es,n,i+1,e,h,h1,h2=>by
  have a:=h2 0 x bu rfl;simp only[Instr.findNow,a];rw[IF es (n+1) i e (by simpa using h) h1 (λj e' b he=>h2 (j+1) e' bu (by simpa using he))];rw[show n+1+i=n+(i+1) by omega]
def IG{d:TypeDesc}{k:bH}:∀(es:bA MapEntry) (n:Nat),(∀e∈es,Instr.sameNow d k e.key=some false)->Instr.findNow d k es n=some none
 |[],_,_=>rfl
 |x::es,n,h=>by
  simp only[Instr.findNow,h x (by simp)];exact IG es (n+1) (λe he=>h e (by simp[he]))
def VE{q:IntKind}(hk:P.underlying kt=some (.int q))(e:Bool)(n:Nat)(v:bH)(w:bI):(Instr.checkKey e (n+1) kt v).run P w=.ok () w:=by
 simp[Instr.checkKey,run_underlying hk]
def IH(n:Nat)(q:IntKind)(k:Int):Instr.sameBits n (.int q k) (.int q k)=true:=by
 cases n<;>simp[Instr.sameBits]
def VF(n:Nat)(k:Bool):Instr.sameBits n (.bool k) (.bool k)=true:=by
 cases n<;>simp[Instr.sameBits]
def VG(n:Nat)(k:ByteArray):Instr.sameBits n (.string k) (.string k)=true:=by
 cases n<;>simp[Instr.sameBits,MapKept.bytes_beq]
def ih.int{q:IntKind}(hk:P.underlying kt=some (.int q)):ih P kt (λn:Int=>Value.int q n) where
 inj:=λa b h=>by simpa using h
 pX:=λe k w=>VE hk e 9999 _ w
 some_:=λk es i e w f p l m=>by
  have hf:∀e'∈es,∃n,e'.key=.int q n:=f;have:=IF (d:=.int q) (k:=.int q k) es 0 i e p (by rw[l];simp[Instr.sameNow]) (λj e' r he=>by
   obtain⟨n,hn⟩:=hf e' (eG he);have c:=m j e' r he;rw[hn]at c ⊢;simp only[Instr.sameNow,g4,fT,xv];intro g;exact c (by rw[g]))
  simp[Instr.findKey,run_underlying hk,this]
 none_:=λk es w f o=>by
  have:=IG (d:=.int q) (k:=.int q k) es 0 (λe he=>by
   obtain⟨n,hn⟩:=f e he;have c:=o e he;rw[hn]at c ⊢;simp only[Instr.sameNow,g4,fT,xv];intro g;exact c (by rw[g]))
  simp[Instr.findKey,run_underlying hk,this]
 stay:=λk=>IH _ _ _
def II{k:bH}{w:bI}:∀(es:bA MapEntry) (n i:Nat) (e:MapEntry),(∀e∈es,∃r:Bool,(Op.equal kt k e.key).run P w=.ok r w/\(r=true↔k=e.key))->es[i]?=some e->e.key=k->(∀j e',j<i->es[j]?=some e'->e'.key≠k)->
  (Instr.findAsking kt k es n).run P w=.ok (some (n+i,e.val)) w
 |[],_,_,_,_,h,_,_=>by simp at h
 |x::es,n,0,e,b,h,h1,_=>by
  simp only[k1,fT]at h;subst h;obtain⟨r,hr,a⟩:=b x (by simp);have:r=true:=a.2 h1.symm;subst this;simp[Instr.findAsking,hr]
 |x::es,n,i+1,e,b,h,h1,h2=>by
  obtain⟨r,hr,a⟩:=b x (by simp);have:r=false:=by
   cases r with
   |false=>rfl
   |true=>exact absurd (a.1 rfl).symm (h2 0 x bu rfl)
  subst this;have c:=II (k:=k) (w:=w) es (n+1) i e (λe he=>b e (by simp[he])) (by simpa using h) h1 (λj e' d he=>h2 (j+1) e' bu (by simpa using he));simp only[Instr.findAsking,Sem.run_bind,hr,Result.andThen_ok,lZ,gU];rw[c,show n+1+i=n+(i+1) by omega]
def IJ{k:bH}{w:bI}:∀(es:bA MapEntry) (n:Nat),(∀e∈es,∃r:Bool,(Op.equal kt k e.key).run P w=.ok r w/\(r=true↔k=e.key))->(∀e∈es,e.key≠k)->
  (Instr.findAsking kt k es n).run P w=.ok none w
 |[],_,_,_=>by simp[Instr.findAsking]
 |x::es,n,a,h=>by
  obtain⟨r,hr,b⟩:=a x (by simp);have:r=false:=by
   cases r with
   |false=>rfl
   |true=>exact absurd (b.1 rfl).symm (h x (by simp))
  subst this;have c:=IJ (k:=k) (w:=w) es (n+1) (λe he=>a e (by simp[he])) (λe he=>h e (by simp[he]));simp only[Instr.findAsking,Sem.run_bind,hr,Result.andThen_ok,lZ,gU];exact c
def VH{fs:cf Field}{k:bH}:∀(es:bA MapEntry),Instr.findNow (.struct fs) k es 0=some none\/Instr.findNow (.struct fs) k es 0=none
 |[]=>.inl rfl
 |x::es=>.inr (by simp[Instr.findNow,Instr.sameNow])
def VI{cs:cf bH}(n:Nat)(h:∀v∈cs.toList,Instr.sameBits n v v=true):Instr.sameBits (n+1) (.agg cs) (.agg cs)=true:=by
 simp only[Instr.sameBits,uL,my,fM];intro x hx;obtain⟨i,a,rfl⟩:=jn.1 hx;rw[List.getElem_zip];exact h _ (oT _)
def ih.agg{κ:Type}{enc:κ->bH}{d:Nat}{l:bA LK}(m:∀a b,enc a=enc b->a=b)(j:kK P d kt=some l)(o:d<=10000)(g:eB P kt=some true)(n:∀k,Typed P kt l (enc k)):ih P kt enc:=by
 have hu:∃fs,P.underlying kt=some (.struct fs):=by
  cases d with
  |zero=>simp[kK]at j
  |succ d=>
   unfold kK at j;unfold eB at g;cases hu:P.underlying kt with
   |none=>simp[hu]at g
   |some x=>cases x<;>simp[hu]at j g ⊢
 obtain⟨fs,hu⟩:=hu;have heq:∀k (es:bA MapEntry) (w:bI),(∀e∈es,∃k',e.key=enc k')->∀e∈es,∃r:Bool,(Op.equal kt (enc k) e.key).run P w=.ok r w/\(r=true↔enc k=e.key):=by
  intro k es w c e he;obtain⟨k',p⟩:=c e he;rw[p];exact IE d kt l j 10000 o _ _ (n k) (n k') w
 refine⟨m,λe k w=>VD e d kt l j 10000 o _ (n k) w,λk es i e w c m hk q=>?_,λk es w c t=>?_,λk=>?_⟩
 ·have hf:=II (kt:=kt) (P:=P) (k:=enc k) (w:=w) es 0 i e (heq k es w c) m hk q;rw[fz]at hf;have s:Instr.findNow (.struct fs) (enc k) es 0=none:=by
   cases es with
   |nil=>simp at m
   |cons x xs=>simp[Instr.findNow,Instr.sameNow]
  simp[Instr.findKey,run_underlying hu,s,hf]
 ·have hf:=IJ (kt:=kt) (P:=P) (k:=enc k) (w:=w) es 0 (heq k es w c) t;rcases VH (fs:=fs) (k:=enc k) es with h|h;·simp[Instr.findKey,run_underlying hu,h]
  ·simp[Instr.findKey,run_underlying hu,h,hf]
 ·have:=n k;unfold Typed at this;rw[g]at this;obtain⟨cs,he,u⟩:=this;rw[he];refine VI 9999 (λv f=>?_);have go:∀(l:bA LK) (vs:bA bH),Cells l vs->∀v∈vs,Instr.sameBits 9999 v v=true:=by
   intro l;induction l with
   |nil=>intro vs h v f;cases vs with
    |nil=>cases f
    |cons _ _=>exact h.elim
   |cons k l y=>intro vs h v f;cases vs with
    |nil=>cases f
    |cons x vs=>
     rcases eH.1 f with rfl|f
     ·have:=h.1;cases k<;>(obtain⟨_,h⟩:=this;rw[h])
      ·exact IH _ _ _
      ·exact VF _ _
      ·exact VG _ _
     ·exact y vs h.2 v f
  exact go l _ u v f
end
structure iH{κ:Type}(enc:κ->bH)(f:κ->bX bH)(es:bA MapEntry)(ck:Nat):Prop where
 key:∀e∈es,∃k,e.key=enc k/\f k=some e.val
 has:∀k v,f k=some v->∃e∈es,e.key=enc k/\e.val=v
 one:es.Pairwise (λa b=>a.key≠b.key)
 born:∀e∈es,e.born<ck
 lF:es.Pairwise (λa b=>a.born≠b.born)
def cM{κ:Type}(b:Nat)(enc:κ->bH)(f:κ->bX bH):Asn:=
 ⟨λh F=>(∃es ck,h[b]?=some (.map es.toArray ck)/\iH enc f es ck)/\∀x,F x↔x=b,λa hl=>⟨by rw[hl b ((a.2 b).2 rfl)];exact a.1,a.2⟩⟩
def cR{κ:Type}[DecidableEq κ]{α:Type}(f:κ->bX α)(k:κ)(v:bX α):κ->bX α:=λx=>if x=k then v else f x
section
variable{P:cS}{κ:Type}[DecidableEq κ]{enc:κ->bH}{f:κ->bX bH}{es:bA MapEntry}{ck:Nat}{kt:bZ}
omit [DecidableEq κ] in
def iH.keys(M:iH enc f es ck):∀e∈es,∃k,e.key=enc k:=λe he=>let ⟨k,h,_⟩:=M.key e he;⟨k,h⟩
omit [DecidableEq κ] in
def iH.at_(M:iH enc f es ck){i:Nat}{e:MapEntry}(c:es[i]?=some e):∀j e',j<i->es[j]?=some e'->e'.key≠e.key:=by
 intro j e' d he;obtain⟨h1,h2⟩:=c2.1 c;obtain⟨a,b⟩:=c2.1 he;have:=mV.1 M.one j i a h1 d;rw[h2,b]at this;exact this
omit [DecidableEq κ] in
def iH.gW(K:ih P kt enc)(M:iH enc f es ck){k:κ}{v:bH}(hf:f k=some v)(w:bI):∃i e,es[i]?=some e/\e.key=enc k/\e.val=v/\(Instr.findKey kt (enc k) es).run P w=.ok (some (i,v)) w:=by
 obtain⟨e,he,hk,c⟩:=M.has k v hf;obtain⟨i,d,rfl⟩:=jn.1 he;have a:es[i]?=some es[i]:=ea d;refine⟨i,es[i],a,hk,c,?_⟩;rw[<- c];exact K.some_ k es i es[i] w M.keys a hk (λj e' g b=>hk▸M.at_ a j e' g b)
omit [DecidableEq κ] in
def iH.hY(K:ih P kt enc)(M:iH enc f es ck){k:κ}(hf:f k=none)(w:bI):(Instr.findKey kt (enc k) es).run P w=.ok none w:=
 K.none_ k es w M.keys (λe he hk=>by
  obtain⟨k',h1,h2⟩:=M.key e he;have:k'=k:=K.inj _ _ (h1.symm.trans hk);rw[this,hf]at h2;cases h2)
omit [DecidableEq κ] in
def iH.empty:iH enc (λ_=>none) [] 0:=⟨by simp,by simp,List.Pairwise.nil,by simp,List.Pairwise.nil⟩
def iH.put(K:ih P kt enc)(M:iH enc f es ck){k:κ}{i:Nat}{e:MapEntry}(r:es[i]?=some e)(hk:e.key=enc k)(v:bH):
  iH enc (cR f k (some v)) (es.set i {e with key:=enc k,val:=v}) ck:=by
 obtain⟨c,g⟩:=c2.1 r;have m:(es.set i {e with key:=enc k,val:=v}).map (·.key)=es.map (·.key):=by
  rw[hT];apply gJ;intro j;rw[hv];split;·next h=>subst h;simp[c,g,hk]
  ·rfl
 have d:(es.set i {e with key:=enc k,val:=v}).map (·.born)=es.map (·.born):=by
  rw[hT];apply gJ;intro j;rw[hv];split;·next h=>subst h;simp[c,g]
  ·rfl
 refine⟨?_,?_,?_,?_,?_⟩
 ·intro x hx;obtain⟨j,p,rfl⟩:=jn.1 hx;rw[Hr];split;·exact⟨k,rfl,by simp[cR]⟩
  ·next o=>
   have l:j<es.length:=by simpa using p
   obtain⟨k',h1,h2⟩:=M.key es[j] (oT l);refine⟨k',h1,?_⟩;have:k'≠k:=by
    rintro rfl;have n:es[j].key=es[i].key:=by rw[h1,g,hk]
    rcases hE i j with h|h;·exact mV.1 M.one i j c l h n.symm
    ·exact mV.1 M.one j i l c bu n
   simp[cR,this,h2]
 ·intro k' t h;unfold cR at h;split at h
  ·next he=>
   simp only[fT]at h;subst he h;exact⟨{e with key:=enc k',val:=v},jn.2 ⟨i,by simpa using c,by simp⟩,rfl,rfl⟩
  ·next o=>
   obtain⟨x,hx,h1,h2⟩:=M.has k' t h;obtain⟨j,p,rfl⟩:=jn.1 hx;have q:i≠j:=by
    rintro rfl;exact o (K.inj _ _ (by rw[<- h1,<- hk,g]))
   refine⟨es[j],jn.2 ⟨j,by simpa using p,by rw[Hr,bJ q]⟩,h1,h2⟩
 ·have:=M.one;rw[<- kk (f:=λe:MapEntry=>e.key) (R:=λa b=>a≠b)]at this ⊢;rw[m];exact this
 ·intro x hx;have:x.born∈(es.set i {e with key:=enc k,val:=v}).map (·.born):=fD.2 ⟨x,hx,rfl⟩;rw[d]at this;obtain⟨y,s,he⟩:=fD.1 this;rw[<- he];exact M.born y s
 ·have:=M.lF;rw[<- kk (f:=λe:MapEntry=>e.born) (R:=λa b=>a≠b)]at this ⊢;rw[d];exact this
def iH.add(K:ih P kt enc)(M:iH enc f es ck){k:κ}(hf:f k=none)(v:bH):iH enc (cR f k (some v)) (es++[{key:=enc k,val:=v,born:=ck}]) (ck+1):=by
 refine⟨?_,?_,?_,?_,?_⟩
 ·intro x hx;rcases gb.1 hx with hx|hx
  ·obtain⟨k',h1,h2⟩:=M.key x hx;refine⟨k',h1,?_⟩;have:k'≠k:=by rintro rfl;rw[hf]at h2;cases h2
   simp[cR,this,h2]
  ·simp only[h9]at hx;subst hx;exact⟨k,rfl,by simp[cR]⟩
 ·intro k' d h;unfold cR at h;split at h
  ·next he=>
   simp only[fT]at h;subst he h;exact⟨{key:=enc k',val:=v,born:=ck},by simp,rfl,rfl⟩
  ·obtain⟨x,hx,h1,h2⟩:=M.has k' d h;exact⟨x,by simp[hx],h1,h2⟩
 ·rw[jE];refine⟨M.one,G4 _ _,λa c b hb=>?_⟩;simp only[h9]at hb;subst hb;obtain⟨k',h1,h2⟩:=M.key a c;intro h;have:k'=k:=K.inj _ _ (h1.symm.trans h);rw[this,hf]at h2;cases h2
 ·intro x hx;rcases gb.1 hx with hx|hx;·have:=M.born x hx;omega
  ·simp only[h9]at hx;subst hx;simp
 ·rw[jE];refine⟨M.lF,G4 _ _,λa c b hb=>?_⟩;simp only[h9]at hb;subst hb;have:=M.born a c;simp;omega
def iH.del(K:ih P kt enc)(M:iH enc f es ck){k:κ}{i:Nat}{e:MapEntry}(n:es[i]?=some e)(hk:e.key=enc k):iH enc (cR f k none) (es.eraseIdx i) ck:=by
 obtain⟨l,c⟩:=c2.1 n;have a:=List.eraseIdx_sublist es i;refine⟨?_,?_,M.one.sublist a,λx hx=>M.born x (a.subset hx),M.lF.sublist a⟩
 ·intro x hx;obtain⟨j,b,d,he⟩:=bg5.1 hx;subst he;obtain⟨k',h1,h2⟩:=M.key es[j] (oT b);refine⟨k',h1,?_⟩;have:k'≠k:=by
   rintro rfl;have g:es[j].key=es[i].key:=by rw[h1,c,hk]
   rcases hE i j with h|h;·exact mV.1 M.one i j l b h g.symm
   ·exact mV.1 M.one j i b l bu g
  simp[cR,this,h2]
 ·intro k' o h;unfold cR at h;split at h;·cases h
  ·next m=>
   obtain⟨x,hx,h1,h2⟩:=M.has k' o h;obtain⟨j,b,rfl⟩:=jn.1 hx;have d:j≠i:=by
    rintro rfl;exact m (K.inj _ _ (by rw[<- h1,<- hk,c]))
   exact⟨es[j],bg5.2 ⟨j,b,d,rfl⟩,h1,h2⟩
def VJ{k:κ}{α:Type}{f:κ->bX α}(hf:f k=none):cR f k none=f:=by
 funext x;unfold cR;split;·next h=>subst h;exact hf.symm
 ·rfl
end
section
variable{E:Env}{L:cr}{w:bI}{P:cS}{κ:Type}[DecidableEq κ]{enc:κ->bH}{f:κ->bX bH}{b:Nat}
omit [DecidableEq κ] in
def cM.at_{i:Nat}(h:Sep E L w)(a:L[i]?=some (cM b enc f)):∃es ck,w.heap[b]?=some (.map es.toArray ck)/\iH enc f es ck:=by
 obtain⟨_,F,⟨h1,_⟩,_⟩:=h.fr i a;exact h1
omit [DecidableEq κ] in
def cM.set{k:Type}{c:k->bH}{f':k->bX bH}(h:Sep E (cM b enc f::L) w){d:bA MapEntry}{a:Nat}(M:iH c f' d a):Sep E (cM b c f'::L) {w with heap:=w.heap.setIfInBounds b (.map d.toArray a)} :=by
 have hb:b<w.heap.size:=by
  obtain⟨es,ck,hb,_⟩:=cM.at_ (i:=0) h rfl;exact(pG.1 hb).1
 refine h.change rfl (by simp) (λF g j=>⟨λx _ hx=>?_,F,⟨⟨d,a,?_,M⟩,g.2⟩,λx hx=>⟨?_,.inl hx⟩⟩)
 ·have:b≠x:=λe=>hx ((g.2 x).2 e.symm);show(w.heap.setIfInBounds b _)[x]?=_;rw[oP,bJ this]
 ·show(w.heap.setIfInBounds b _)[b]?=_;rw[oP,bK rfl,bK hb]
 ·simpa using j x hx
omit [DecidableEq κ] in
def cM.new{g:Nat->bi9}(h:Sep E L w)(k:∀b a,Sep E (cM b enc (λ_=>none)::L) a->g b a):m0 g w:=
 k _ _ (h.new (Grow.alloc w _) (F':=λx=>x=w.heap.size) ⟨⟨[],0,heap_alloc w _,iH.empty⟩,λ_=>mz⟩ (λb hb=>by subst hb;rw[size_alloc];omega))
def mQ(P:cS)(t:bZ):bX (bZ×bH):=
 match P.underlying t with
 |some (.map k e)=>match pR P e with
  |some z=>some (k,z)
  |none=>none
 |_=>none
def VK{t:bZ}{z:bH}(h:pR P t=some z)(w:bI):(zeroValue t).run P w=.ok z w:=by
 unfold pR at h;cases a:P.info? t with
 |none=>simp[a]at h
 |some i=>simp[a]at h;simp[zeroValue,typeInfo,a,h]
def vi{t kt:bZ}{z:bH}(h:mQ P t=some (kt,z)):∃e,P.underlying t=some (.map kt e)/\∀w,(zeroValue e).run P w=.ok z w:=by
 unfold mQ at h;split at h
 ·next k e he=>
  split at h
  ·next b a=>
   simp only[fT,oU]at h;obtain⟨rfl,rfl⟩:=h;exact⟨e,he,VK a⟩
  ·simp at h
 ·simp at h
omit [DecidableEq κ] in
def gE.i{t kt:bZ}{z:bH}(ok:Bool)(i:Nat)(h:Sep E L w)(d:L[i]?=some (cM b enc f))(K:ih P kt enc)(l:mQ P t=some (kt,z))(k:κ):
  gE P t (.map (some b)) (enc k) ok w (match ok with|true=>.tuple #[(f k).getD z,.bool (f k).isSome]|false=>(f k).getD z):=by
 intro w' g;obtain⟨e,c,m⟩:=vi l;obtain⟨es,ck,hb,M⟩:=cM.at_ (h.grow g) d;cases hf:f k with
 |some v=>
  obtain⟨j,x,n,hk,o,a⟩:=M.gW K hf w';cases ok<;>simp[Instr.lookup,run_underlying c,MapKept.run_getObj_map hb,K.pX,a]
 |none=>
  have a:=M.hY K hf w';cases ok<;>simp[Instr.lookup,run_underlying c,MapKept.run_getObj_map hb,K.pX,a,m]
def mapUpdate.i{t kt:bZ}{z:bH}(h:Sep E (cM b enc f::L) w)(K:ih P kt enc)(d:mQ P t=some (kt,z))(k:κ)(v:bH){G:bi9}(g:∀c,Sep E (cM b enc (cR f k (some v))::L) c->G c):
  ∃c,Sem.run P (Instr.mapUpdate t (.map (some b)) (enc k) v) w=.ok () c/\G c:=by
 obtain⟨e,o,r⟩:=vi d;obtain⟨es,ck,hb,M⟩:=cM.at_ (i:=0) h rfl;cases hf:f k with
 |some v0=>
  obtain⟨j,x,l,hk,p,a⟩:=M.gW K hf w;refine⟨{w with heap:=w.heap.setIfInBounds b (.map (es.set j ({x with key:=enc k,val:=v} :MapEntry)).toArray ck)},?_,g _ (cM.set h (M.put K l hk v))⟩;obtain⟨n,m⟩:=c2.1 l;have hm:es.modify j (λe=> {e with key:=enc k,val:=v})=es.set j {x with key:=enc k,val:=v} :=by
   apply gJ;intro q;simp only[List.getElem?_modify,hv];by_cases d:j=q;·subst d;simp[n,m]
   ·simp[d]
  simp[Instr.mapUpdate,run_underlying o,MapKept.run_getObj_map hb,K.pX,a,Instr.keyThatStays,l,hk,K.stay,hm,MapKept.run_setObj_map _ hb]
 |none=>
  have a:=M.hY K hf w;refine⟨{w with heap:=w.heap.setIfInBounds b (.map (es++[({key:=enc k,val:=v,born:=ck} :MapEntry)]).toArray (ck+1))},?_,g _ (cM.set h (M.add K hf v))⟩;simp[Instr.mapUpdate,run_underlying o,MapKept.run_getObj_map hb,K.pX,a,MapKept.run_setObj_map _ hb]
def gX.i{t kt u ty:bZ}{z:bH}(h:Sep E (cM b enc f::L) w)(K:ih P kt enc)(n:mQ P t=some (kt,z))(k:κ){G:bi9}(g:∀c,Sep E (cM b enc (cR f k none)::L) c->G c):
  ∃c,Sem.run P (Builtin.delete_ #[t,u] ty #[.map (some b),enc k]) w=.ok (.tuple #[]) c/\G c:=by
 obtain⟨e,m,q⟩:=vi n;obtain⟨es,ck,hb,M⟩:=cM.at_ (i:=0) h rfl;cases hf:f k with
 |some v0=>
  obtain⟨j,x,d,hk,p,a⟩:=M.gW K hf w;obtain⟨l,o⟩:=c2.1 d;refine⟨{w with heap:=w.heap.setIfInBounds b (.map (es.eraseIdx j).toArray ck)},?_,g _ (cM.set h (M.del K d hk))⟩;simp[Builtin.delete_,run_underlying m,MapKept.run_getObj_map hb,K.pX,a,Array.eraseIdxIfInBounds,l,MapKept.run_setObj_map _ hb]
 |none=>
  have a:=M.hY K hf w;refine⟨{w with heap:=w.heap.setIfInBounds b (.map es.toArray ck)},?_,g _ (by rw[VJ hf];exact cM.set h M)⟩;simp[Builtin.delete_,run_underlying m,MapKept.run_getObj_map hb,K.pX,a,MapKept.run_setObj_map _ hb]
end
end Go.Sp
namespace Go.Kc
open Go Go.Sp
structure Pg where
 kf:Int
 ki:Int
 place:Int
 at_:Int
 owner:Int
 refs:Int
 gen:Int
 VL:Bool
 fl:Bool
def Pg.zero:Pg:=⟨0,0,0,0,0,0,0,false,false⟩
structure TS where
 pg:Int->bX Pg
 files:Int×Int->bX Int
 c5:Int×Int->bX Int
 next:Int
def TS.zero:TS:=⟨λ_=>none,λ_=>none,λ_=>none,0⟩
def TS.of(S:TS)(k:Int×Int):Int:=(S.files k).getD (-1)
def TS.at_(S:TS)(k:Int×Int):Int:=(S.c5 k).getD (-1)
def TS.iT(S:TS)(kf ki o:Int):TS:={S with pg:=cR S.pg S.next (some ⟨kf,ki,0,0,o,0,0,false,false⟩),next:=i64.wrap (S.next+1)}
def TS.make(S:TS)(kf ki o:Int):TS×Int×Int:=
 if kf<0 then(S.iT (-1) S.next o,S.next,0)
 else if S.of (kf,ki)≥0 then(S, -1,4)
 else({S with files:=cR S.files (kf,ki) (some S.next)}.iT kf ki o,S.next,0)
def TS.get(S:TS)(id:Int):Pg×Int:=match S.pg id with
 |some p=>(p,0)
 |none=>(Pg.zero,2)
def TS.cP(S:TS)(id:Int)(p:Pg):TS:={S with pg:=cR S.pg id (some p)}
def TS.put(S:TS)(id place at_:Int):TS×Int:=match S.pg id with
 |none=>(S,2)
 |some p=>
  if place<0\/2<place\/at_<0\/(place=0/\at_≠0)then(S,1)
  else if 0<=S.at_ (place,at_)/\S.at_ (place,at_)≠id then(S,4)
  else({pg:=cR S.pg id (some {p with place:=place,at_:=at_}),files:=S.files,c5:=if place≠0 then cR (cR S.c5 (p.place,p.at_) none) (place,at_) (some id)else cR S.c5 (p.place,p.at_) none,next:=S.next},0)
def TS.bP(S:TS)(id n:Int):TS×Int×Int:=match S.pg id with
 |none=>(S,0,2)
 |some p=>if n< -1000\/1000<n\/i64.wrap (p.refs+n)<0 then(S,0,1)else(S.cP id {p with refs:=i64.wrap (p.refs+n)},i64.wrap (p.refs+n),0)
def TS.drop(S:TS)(id:Int):TS×Int:=match S.pg id with
 |none=>(S,2)
 |some p=>if 0<p.refs\/p.place≠0 then(S,4)else({S with pg:=cR S.pg id none,files:=cR S.files (p.kf,p.ki) none},0)
def TS.own(S:TS)(id o:Int):TS×Int:=match S.pg id with
 |none=>(S,2)
 |some p=>(S.cP id {p with owner:=o},0)
def TS.mark(S:TS)(id:Int)(d:Bool):TS×Int:=match S.pg id with
 |none=>(S,2)
 |some p=>(S.cP id {p with fl:=d},0)
end Go.Kc
namespace Go.Stab
structure Ord{α:Type}(R:α->α->Prop):Prop where
 trans:∀x y z,R x y->R y z->R x z
 vj:∀x,¬ R x x
 tot:∀x y,x≠y->R x y\/R y x
section
variable{α:Type}{R:α->α->Prop}
def Ord.not(O:Ord R){x y:α}(a:x≠y)(h:¬ R x y):R y x:=(O.tot x y a).resolve_left h
def ins(P:bA α)(n:Nat)(x:α):bA α:=P.take n++x::P.drop n
def m8(P:bA α)(n:Nat)(x:α):(ins P n x).length=P.length+1:=by
 unfold ins;simp only[df,gT,hN,ot];omega
def sW(P:bA α)(n:Nat)(x:α):(ins P n x).Perm (x::P):=by
 unfold ins;refine jo.trans ?_;rw[fP]
def sX(P:bA α)(n:Nat)(x:α)(hn:n<=P.length)(i:Nat):(ins P n x)[i]?=if i<n then P[i]? else if i=n then some x else P[i-1]? :=by
 unfold ins;have hl:(P.take n).length=n:=by simp;omega
 by_cases h1:i<n;·rw[bK h1,eQ bu];simp[h1]
 ·rw[bJ h1,fL bu,hl];by_cases h2:i=n;·rw[bK h2];simp[h2]
  ·rw[bJ h2];obtain⟨k,hk⟩:∃k,i-n=k+1:=⟨i-n-1,bu⟩
   rw[hk,G3,rm];congr 1;omega
def x2(P:bA α)(x:α):ins P P.length x=P++[x]:=by simp[ins]
def IK{A P B:bA α}{n:Nat}{x y:α}(hn:P[n]?=some y):((A++ins P n x++B).set (A.length+n) y).set (A.length+n+1) x=A++ins P (n+1) x++B:=by
 have g:n<P.length:=(c2.1 hn).1;have f:=sX P n x bu;have a:=sX P (n+1) x bu;have hl:=m8 P n x;have e:=m8 P (n+1) x;apply gJ;intro i;simp only[hv,eh,df,hl];by_cases b:A.length+n+1=i;·rw[bK b,eV,eQ (by simp;omega),fL bu,a,cK,eV]
 ·rw[bJ b];by_cases c:A.length+n=i;·rw[bK c,eV,eQ (by simp;omega),fL bu,a,eV,<- hn];congr 1;omega
  ·rw[bJ c];by_cases h1:i<A.length;·rw[eQ (by simp;omega),eQ h1,eQ (by simp;omega),eQ h1]
   ·by_cases h2:i<A.length+(P.length+1)
    ·rw[eQ (by simp;omega),fL bu,eQ (by simp;omega),fL bu,f,a];by_cases d:i-A.length<n;·rw[bK d,eV]
     ·rw[bJ d,cK,cK,cK]
    ·rw[fL (by simp;omega),fL (by simp;omega)];simp[hl,e]
def x3{A P B:bA α}{n:Nat}{x y:α}(hn:P[n]?=some y):((A++ins P (n+1) x++B).set (A.length+n+1) y).set (A.length+n) x=A++ins P n x++B:=by
 have g:n<P.length:=(c2.1 hn).1;have f:=sX P (n+1) x bu;have a:=sX P n x bu;have hl:=m8 P (n+1) x;have e:=m8 P n x;apply gJ;intro i;simp only[hv,eh,df,hl];by_cases b:A.length+n=i;·rw[bK b,eV,eQ (by simp;omega),fL bu,a,cK,eV]
 ·rw[bJ b];by_cases c:A.length+n+1=i;·rw[bK c,eV,eQ (by simp;omega),fL bu,a,cK,cK,<- hn];congr 1;omega
  ·rw[bJ c];by_cases h1:i<A.length;·rw[eQ (by simp;omega),eQ h1,eQ (by simp;omega),eQ h1]
   ·by_cases h2:i<A.length+(P.length+1)
    ·rw[eQ (by simp;omega),fL bu,eQ (by simp;omega),fL bu,f,a];by_cases d:i-A.length<n;·rw[bK d,eV]
     ·rw[bJ d,cK,cK,cK]
    ·rw[fL (by simp;omega),fL (by simp;omega)];simp[hl,e]
def pY{l:bA α}(h:l.Pairwise R){i j:Nat}{x y:α}(hx:l[i]?=some x)(b:l[j]?=some y)(a:i<j):R x y:=by
 obtain⟨h1,rfl⟩:=c2.1 hx;obtain⟨h2,rfl⟩:=c2.1 b;exact mV.1 h i j h1 h2 a
def sY{l:bA α}{n:Nat}{x:α}(h:x∈l.take n):∃i,i<n/\l[i]?=some x:=by
 obtain⟨i,a,rfl⟩:=jn.1 h;simp only[gT]at a;exact⟨i,bu,by simp⟩
def x4{l:bA α}{n:Nat}{x:α}(h:x∈l.drop n):∃i,n<=i/\l[i]?=some x:=by
 obtain⟨i,a,rfl⟩:=jn.1 h;simp only[ot]at a;exact⟨n+i,bu,by simp⟩
def x5(O:Ord R){X Y:bA α}{i j:Nat}(n:X.Pairwise R)(o:Y.Pairwise R)(h1:i=0\/Y.length<=j\/∃x y,X[i-1]?=some x/\Y[j]?=some y/\R x y)(h2:j=0\/X.length<=i\/∃x y,Y[j-1]?=some y/\X[i]?=some x/\R y x):
  ∀u∈X.take i++Y.take j,∀v∈X.drop i++Y.drop j,R u v:=by
 intro u hu v g;have lt:∀ {l:bA α} {k:Nat} {z:α},l[k]?=some z->k<l.length:=λh=>(c2.1 h).1;rcases gb.1 hu with hu|hu<;>rcases gb.1 g with g|g
 ·obtain⟨p,hp,b⟩:=sY hu;obtain⟨q,r,a⟩:=x4 g;exact pY n b a bu
 ·obtain⟨p,hp,b⟩:=sY hu;obtain⟨q,r,a⟩:=x4 g;rcases h1 with h1|h1|⟨x,y,hx,m,hr⟩
  ·omega
  ·have:=lt a;omega
  ·have e:p=i-1\/p<i-1:=by omega
   have f:q=j\/j<q:=by omega
   have c:u=x\/R u x:=by
    rcases e with rfl|e;·rw[b]at hx;exact .inl (cV hx)
    ·exact .inr (pY n b hx e)
   have d:y=v\/R y v:=by
    rcases f with rfl|f;·rw[a]at m;exact .inl (cV m).symm
    ·exact .inr (pY o m a f)
   rcases c with rfl|c<;>rcases d with rfl|d;·exact hr
   ·exact O.trans _ _ _ hr d
   ·exact O.trans _ _ _ c hr
   ·exact O.trans _ _ _ c (O.trans _ _ _ hr d)
 ·obtain⟨p,hp,b⟩:=sY hu;obtain⟨q,r,a⟩:=x4 g;rcases h2 with h2|h2|⟨x,y,m,hx,hr⟩
  ·omega
  ·have:=lt a;omega
  ·have e:p=j-1\/p<j-1:=by omega
   have f:q=i\/i<q:=by omega
   have c:u=y\/R u y:=by
    rcases e with rfl|e;·rw[b]at m;exact .inl (cV m)
    ·exact .inr (pY o b m e)
   have d:x=v\/R x v:=by
    rcases f with rfl|f;·rw[a]at hx;exact .inl (cV hx).symm
    ·exact .inr (pY n hx a f)
   rcases c with rfl|c<;>rcases d with rfl|d;·exact hr
   ·exact O.trans _ _ _ hr d
   ·exact O.trans _ _ _ c hr
   ·exact O.trans _ _ _ c (O.trans _ _ _ hr d)
 ·obtain⟨p,hp,b⟩:=sY hu;obtain⟨q,r,a⟩:=x4 g;exact pY o b a bu
def sZ(O:Ord R){P:bA α}{n:Nat}{x:α}(c:P.Pairwise R)(h1:n=0\/∃y,P[n-1]?=some y/\R y x)(h2:P.length<=n\/∃y,P[n]?=some y/\R x y):(ins P n x).Pairwise R:=by
 have key:=x5 O (X:=P) (Y:=[x]) (i:=n) (j:=0) c (G4 _ _) (by
  rcases h1 with h|⟨y,d,hr⟩
  ·exact .inl h
  ·exact .inr (.inr ⟨y,x,d,rfl,hr⟩)) (.inl rfl)
 have e:=x5 O (X:=P) (Y:=[x]) (i:=n) (j:=1) c (G4 _ _) (.inr (.inl (by simp))) (by
  rcases h2 with h|⟨y,d,hr⟩
  ·exact .inr (.inl h)
  ·exact .inr (.inr ⟨y,x,rfl,d,hr⟩))
 unfold ins;rw[jE,ht];have a:=c;rw[<- fP n P,jE]at a;refine⟨a.1,⟨λv b=>e x (by simp) v (by simp[b]),a.2.1⟩,λu hu v b=>?_⟩;rcases eH.1 b with rfl|b;·exact key u (by simp[hu]) _ (by simp)
 ·exact a.2.2 u hu v b
def jV{X Y a b:bA α}{i j:Nat}(h1:a.Perm (X.take i++Y.take j))(h2:b.Perm (X.drop i++Y.drop j))(s1:a.Pairwise R)(s2:b.Pairwise R)(d:∀u∈X.take i++Y.take j,∀v∈X.drop i++Y.drop j,R u v):(a++b).Perm (X++Y)/\(a++b).Pairwise R:=by
 refine⟨(h1.append h2).trans ?_,jE.2 ⟨s1,s2,λu hu v e=>d u (h1.mem_iff.1 hu) v (h2.mem_iff.1 e)⟩⟩;have c:X++Y=(X.take i++X.drop i)++(Y.take j++Y.drop j):=by rw[fP,fP]
 rw[c];simp only[dp];refine oR _ ?_;rw[<- dp,<- dp];exact sC _ mu
def nR(l l':bA α)(a b i:Nat):Prop:=l'.length=l.length/\∀k,l'[k]?=if a<=k/\k<a+i then l[k-a+b]? else if b<=k/\k<b+i then l[k-b+a]? else l[k]?
def nR.zero(l:bA α)(a b:Nat):nR l l a b 0:=⟨rfl,λk=>by rw[cK,cK]⟩
def nR.step{l l':bA α}{a b i n:Nat}{x y:α}(h:nR l l' a b i)(j:a+n<=b)(o:i<n)(hx:l'[b+i]?=some x)(g:l'[a+i]?=some y):
  nR l ((l'.set (a+i) x).set (b+i) y) a b (i+1):=by
 have m:b+i<l'.length:=(c2.1 hx).1;have c:=hx;have d:=g;rw[h.2,cK,cK]at c d;refine⟨by simpa using h.1,λk=>?_⟩;simp only[hv,eh];by_cases e:b+i=k;·rw[bK e,eV,cK,eV,<- d];congr 1;omega
 ·rw[bJ e];by_cases f:a+i=k;·rw[bK f,eV,eV,<- c];congr 1;omega
  ·rw[bJ f,h.2];by_cases h1:a<=k/\k<a+i;·rw[bK h1,eV]
   ·rw[bJ h1];by_cases h2:b<=k/\k<b+i;·rw[bK h2,cK,eV]
    ·rw[bJ h2,cK,cK]
def nR.eq{A U M V B l':bA α}(h:nR (A++U++M++V++B) l' A.length (A.length+U.length+M.length) U.length)(a:U.length=V.length):l'=A++V++M++U++B:=by
 apply gJ;intro k;rw[h.2];have g:∀(U V:bA α) (k:Nat),U.length=V.length->(A++U++M++V++B)[k]?=if k<A.length then A[k]? else if k<A.length+U.length then U[k-A.length]? else if k<A.length+U.length+M.length then M[k-A.length-U.length]? else
   if k<A.length+U.length+M.length+U.length then V[k-A.length-U.length-M.length]? else B[k-A.length-U.length-M.length-U.length]? :=by
  intro U V k a;by_cases h1:k<A.length;·rw[bK h1,eQ (by simp;omega),eQ (by simp;omega),eQ (by simp;omega),eQ h1]
  rw[bJ h1];by_cases h2:k<A.length+U.length;·rw[bK h2,eQ (by simp;omega),eQ (by simp;omega),eQ (by simp;omega),fL bu]
  rw[bJ h2];by_cases b:k<A.length+U.length+M.length
  ·rw[bK b,eQ (by simp;omega),eQ (by simp;omega),fL (by simp;omega)];congr 1;simp;omega
  rw[bJ b];by_cases c:k<A.length+U.length+M.length+U.length
  ·rw[bK c,eQ (by simp;omega),fL (by simp;omega)];congr 1;simp;omega
  rw[bJ c,fL (by simp;omega)];congr 1;simp;omega
 rw[g V U k a.symm,g U V k a];by_cases h1:A.length<=k/\k<A.length+U.length
 ·rw[bK h1,g U V _ a,cK,cK,cK,eV,cK,eV];congr 1;omega
 ·rw[bJ h1];by_cases h2:A.length+U.length+M.length<=k/\k<A.length+U.length+M.length+U.length
  ·rw[bK h2,g U V _ a,cK,eV,cK,cK,cK,eV];congr 1;omega
  ·rw[bJ h2];by_cases b:k<A.length;·rw[bK b,bK b]
   ·rw[bJ b,bJ b,bJ (show ¬ k<A.length+U.length by omega),bJ (show ¬ k<A.length+V.length by omega)];by_cases c:k<A.length+U.length+M.length;·rw[bK c,bK (show k<A.length+V.length+M.length by omega)];congr 1;omega
    ·rw[bJ c,bJ (show ¬ k<A.length+V.length+M.length by omega),bJ (show ¬ k<A.length+U.length+M.length+U.length by omega),bJ (show ¬ k<A.length+V.length+M.length+V.length by omega)];congr 1;omega
end
end Go.Stab
namespace Go.Kc
open Go Go.Vc Go.Sp
structure dI where
 id:Int
 group:Int
 dD:Int
def fq(R:bA dI)(k:Int):bX dI:=R.find? (λe=>e.id==k)
structure Good(R:bA dI):Prop where
 c1:R.Pairwise (λa b=>a.id<b.id)
 ok:∀e∈R,(0<=e.id/\e.id<=16777216)/\(0<=e.group/\e.group<=16777216)/\0<=e.dD/\e.dD<=3
variable{R R':bA dI}
def Good.nil:Good []:=⟨List.Pairwise.nil,λ_ h=>by cases h⟩
def uniq(G:R.Pairwise (λa b:dI=>a.id<b.id)){e e':dI}(h:e∈R)(h':e'∈R)(eD:e.id=e'.id):e=e':=by
 obtain⟨i,d,rfl⟩:=jn.1 h;obtain⟨j,f,rfl⟩:=jn.1 h';rcases Hm i j with c|rfl|c;·have:=mV.1 G i j d f c;omega
 ·rfl
 ·have:=mV.1 G j i f d c;omega
def k7(G:R.Pairwise (λa b:dI=>a.id<b.id)){k:Int}{e:dI}:fq R k=some e↔e∈R/\e.id=k:=by
 unfold fq;constructor;·intro h;exact⟨xn h,by simpa using Ht h⟩
 ·rintro⟨h1,h2⟩;cases hf:R.find? (λe=>e.id==k)with
  |none=>have:=rn.1 hf e h1;simp[h2]at this
  |some e'=>
   have c:=xn hf;have d:e'.id=k:=by simpa using Ht hf
   rw[uniq G c h1 bu]
def s0(G:R.Pairwise (λa b:dI=>a.id<b.id)){k:Int}:fq R k=none↔∀e∈R,e.id≠k:=by
 unfold fq;rw[rn];simp
def Ca(G:R.Pairwise (λa b:dI=>a.id<b.id))(c:R'.Pairwise (λa b:dI=>a.id<b.id)){k:Int}(h:∀e,e.id=k->(e∈R'↔e∈R)):fq R' k=fq R k:=by
 apply Option.ext;intro e;rw[k7 G,k7 c];exact⟨λ⟨h1,h2⟩=>⟨(h e h2).1 h1,h2⟩,λ⟨h1,h2⟩=>⟨(h e h2).2 h1,h2⟩⟩
def iU(R:bA dI)(x:dI):bA dI:=R.filter (λy=>decide (y.id<x.id))++x::R.filter (λy=>decide (x.id<y.id))
def ix(id g:Int):Prop:=id<0\/16777216<id\/g<0\/16777216<g
instance(id g:Int):Decidable (ix id g):=by unfold ix;infer_instance
def jW(R:bA dI)(id g:Int)(ek:Bool):bA dI×Int:=
 if ix id g then(R,1)else if(fq R id).isSome then(R,4)else(iU R ⟨id,g,if ek then 1 else 0⟩,0)
def jv(R:bA dI)(id:Int):bA dI×Int:=if(fq R id).isSome then(R.filter (λe=>e.id !=id),0)else(R,2)
def hH(R:bA dI)(id:Int):bA dI×Int:=if(fq R id).isSome then(R.map (λe=>if e.id=id then {e with dD:=0} else e),0)else(R,2)
def o9(R:bA dI)(g:Int):Int:=(R.filter (λe=>e.group==g)).length
def jX(g:Int)(a:Int->Int->Int×Int)(e:dI):dI:=if e.group=g then⟨e.id,(a e.group e.dD).1,(a e.group e.dD).2⟩else e
def ox(g:Int)(a:Int->Int->Int×Int)(e:dI):Bool:=e.group==g&& !(a e.group e.dD==(e.group,e.dD))
def iI(R:bA dI)(g:Int)(a:Int->Int->Int×Int):bA dI×Int:=(R.map (jX g a),(R.filter (ox g a)).length)
def jY(g a:Int):Int×Int:=(g,min1 (i64.wrap (a+1)) 3)
def m9(R:bA dI)(f t:Int):bA dI×Int:=if t<0\/16777216<t then(R,0)else iI R f (λ_ a=>(t,a))
def x6{x y:dI}(hn:∀e∈R,e.id≠x.id):y∈iU R x↔y=x\/y∈R:=by
 unfold iU;simp only[gb,gp,eH,gD];constructor
 ·rintro(⟨h,_⟩|rfl|⟨h,_⟩);·exact .inr h
  ·exact .inl rfl
  ·exact .inr h
 ·rintro(rfl|h);·exact .inr (.inl rfl)
  ·have:=hn y h;rcases Int.lt_trichotomy y.id x.id with h1|h1|h1;·exact .inl ⟨h,h1⟩
   ·exact absurd h1 this
   ·exact .inr (.inr ⟨h,h1⟩)
def Good.ins(G:Good R){x:dI}(hn:∀e∈R,e.id≠x.id)(hx:(0<=x.id/\x.id<=16777216)/\(0<=x.group/\x.group<=16777216)/\0<=x.dD/\x.dD<=3):Good (iU R x):=by
 refine⟨?_,λe he=>?_⟩
 ·unfold iU;rw[jE,ht];refine⟨G.c1.filter _,⟨λy d=>?_,G.c1.filter _⟩,λa c b hb=>?_⟩;·simpa using(gp.1 d).2
  ·have h1:a.id<x.id:=by simpa using(gp.1 c).2
   rcases eH.1 hb with rfl|hb;·exact h1
   ·have h2:x.id<b.id:=by simpa using(gp.1 hb).2
    omega
 ·rcases(x6 hn).1 he with rfl|h;·exact hx
  ·exact G.ok e h
def Good.add(G:Good R)(id g:Int)(ek:Bool):Good (jW R id g ek).1:=by
 unfold jW;split;·exact G
 ·next hb=>
  split;·exact G
  ·next hf=>
   have hf:fq R id=none:=by simpa using hf
   refine G.ins ((s0 G.c1).1 hf) ?_;unfold ix at hb;refine⟨⟨?_,?_⟩,⟨?_,?_⟩,?_⟩<;>simp only<;>first|omega|(split<;>omega)
def Good.filter(G:Good R)(p:dI->Bool):Good (R.filter p):=⟨G.c1.filter _,λe he=>G.ok e (gp.1 he).1⟩
def Good.drop(G:Good R)(id:Int):Good (jv R id).1:=by
 unfold jv;split;·exact G.filter _
 ·exact G
def Good.map(G:Good R)(f:dI->dI)(eD:∀e,(f e).id=e.id)(a:∀e∈R,(0<=(f e).group/\(f e).group<=16777216)/\0<=(f e).dD/\(f e).dD<=3):Good (R.map f):=by
 refine⟨?_,λe he=>?_⟩;·rw[kk];exact G.c1.imp (λh=>by rw[eD,eD];exact h)
 ·obtain⟨x,hx,rfl⟩:=fD.1 he;exact⟨by rw[eD];exact(G.ok x hx).1,a x hx⟩
def Good.cq(G:Good R)(id:Int):Good (hH R id).1:=by
 unfold hH;split
 ·refine G.map _ (λe=>by split<;>rfl) (λe he=>?_);have:=G.ok e he;split;·exact⟨this.2.1,(show(0:Int)<=0 by decide),(show(0:Int)<=3 by decide)⟩
  ·exact this.2
 ·exact G
def s3(g:Int)(a:Int->Int->Int×Int)(e:dI):(jX g a e).id=e.id:=by unfold jX;split<;>rfl
def Good.each(G:Good R)(g:Int)(a:Int->Int->Int×Int)(b:∀e∈R,e.group=g->(0<=(a e.group e.dD).1/\(a e.group e.dD).1<=16777216)/\0<=(a e.group e.dD).2/\(a e.group e.dD).2<=3):Good (iI R g a).1:=by
 refine G.map _ (s3 g a) (λe he=>?_);unfold jX;split;·next h=>exact b e he h
 ·exact(G.ok e he).2
def VM{g a:Int}(b:0<=a)(c:a<=3):jY g a=(g,if a<3 then a+1 else 3):=by
 unfold jY min1;rw[cX bu bu];congr 1;split<;>split<;>omega
def Good.dD(G:Good R)(g:Int):Good (iI R g jY).1:=by
 refine G.each g jY (λe he _=>?_);have:=G.ok e he;rw[VM this.2.2.1 this.2.2.2];refine⟨this.2.1,?_⟩;simp only;split<;>omega
def Good.move(G:Good R)(f t:Int):Good (m9 R f t).1:=by
 unfold m9;split;·exact G
 ·exact G.each f _ (λe he _=>⟨by simp only;omega,(G.ok e he).2.2⟩)
end Go.Kc
namespace Go.Kc
open Go Go.Vc Go.Sp
namespace By
def pg(n:Nat)(i:Int):Prop:=0<=i/\i<n
instance(n:Nat)(i:Int):Decidable (pg n i):=inferInstanceAs (Decidable (_/\_))
def lG(X:bA UInt8)(i:Int):bA UInt8:=(X.drop (16*i.toNat)).take 16
def lH(X:bA UInt8)(i:Int)(t:bA UInt8):bA UInt8:=X.take (16*i.toNat)++t++X.drop (16*i.toNat+16)
def zs:bA UInt8:=List.replicate 16 0
def rd(n:Nat)(X:bA UInt8)(i:Int):bA UInt8×Int:=if pg n i then(lG X i,0)else([],1)
def wr(n:Nat)(X:bA UInt8)(i:Int)(t:bA UInt8):bA UInt8×Int:=if pg n i/\t.length=16 then(lH X i t,0)else(X,1)
def gt(n:Nat)(X:bA UInt8)(i a:Int):UInt8×Int:=if pg n i/\0<=a/\a<16 then(X.getD (16*i.toNat+a.toNat) 0,0)else(0,1)
def pt(n:Nat)(X:bA UInt8)(i a:Int)(b:UInt8):bA UInt8×Int:=if pg n i/\0<=a/\a<16 then(X.set (16*i.toNat+a.toNat) b,0)else(X,1)
def cl(n:Nat)(X:bA UInt8)(i:Int):bA UInt8×Int:=wr n X i zs
variable{n:Nat}{X:bA UInt8}{i j:Int}
def IL(h:X.length=16*n)(a:pg n i):(lG X i).length=16:=by
 obtain⟨h1,h2⟩:=a;simp only[lG,gT,ot];omega
def Cb{t:bA UInt8}(h:X.length=16*n)(a:pg n i)(b:t.length=16):(lH X i t).length=16*n:=by
 obtain⟨h1,h2⟩:=a;simp only[lH,df,gT,ot];omega
def IM{t:bA UInt8}(h:X.length=16*n)(a:pg n i)(b:t.length=16):iw (hz X) (16*i.toNat) (hz t)=hz (lH X i t):=by
 obtain⟨h1,h2⟩:=a;rw[o7 _ _ _ (by simp;omega)];simp[hz,lH,b,lu]
def IN{k:Nat}(hk:k<16):(lG X i)[k]?=X[16*i.toNat+k]? :=by
 simp[lG,hk]
def Cc(h:X.length=16*n)(t:bA UInt8):(wr n X i t).1.length=16*n:=by
 unfold wr;split;·next a=>exact Cb h a.1 a.2
 ·exact h
def VN(h:X.length=16*n)(a:Int)(b:UInt8):(pt n X i a b).1.length=16*n:=by
 unfold pt;split<;>simpa
end By
end Go.Kc
namespace Go.Kc
open Go Go.Kt Go.Sp
def jw(R:bA dI)(gs:bS):bS:=[3,2,1,0].flatMap λa:Int=>((R.filter λe=>gs.contains e.group&&e.dD==a).map dI.id)
structure eP where
 min:Int
 low:Int
 whole:Bool
deriving DecidableEq
structure e9 where
 cb:bA Bool
 dj:bA UInt8
 used:bA eZ
structure Cs where
 tree:bA G
 fr:e9
 sl:e9
 files:FS
 bV:bA dI
 log:bS
 bt:TS
 kept:Int->bX Int
 guards:bA eP
def gL(n:Int):e9:=⟨lB n,List.replicate (16*(min (max n 0).toNat 1024)) 0,mH⟩
def new(bQ cg:Int)(bU:bS):Cs:=⟨Kt.new,gL bQ,gL cg,g7 bU,[],List.replicate 64 0,TS.zero,λ_=>none,[⟨0,0,false⟩]⟩
def e9.dE(s:e9)(at_:Int)(a:bS):e9:=⟨(nK s.cb at_).1,(By.cl s.cb.length s.dj at_).1,(gB s.used a 1).1⟩
def Cs.chain(S:Cs)(g:Int):bS:=dx S.tree g
def Cs.live(S:Cs)(g:Int):Bool:=dB S.tree g
def Cs.memory(S:Cs)(g:Int):Int:=c0 S.fr.used g
def Cs.swap(S:Cs)(g:Int):Int:=c0 S.sl.used g
def Cs.na(S:Cs)(g:Int):eP:=S.guards.getD g.toNat ⟨0,0,false⟩
def Cs.ct(S:Cs)(p:Int):Cs×Int×Int:=
 let r:=gz S.tree p
 if r.2.2=0 then({S with tree:=r.1,guards:=S.guards++[⟨0,0,false⟩]},r.2)else(S,r.2)
def TS.eA(T:TS)(o:Int):bS:=((List.range T.next.toNat).filter λi:Nat=>match T.pg i with|some p=>p.owner==o|none=>false).map Int.ofNat
def TS.dG(T:TS)(ids:bS)(o:Int):TS:=ids.foldl (λT id=>(T.own id o).1) T
def Cs.remove(S:Cs)(g:Int):Cs×Int:=
 let r:=jh S.tree g
 if r.2=0 then
  let up:=pQ S.tree g
  ({S with tree:=r.1,bt:=S.bt.dG (S.bt.eA g) up,bV:=(m9 S.bV g up).1,fr:={S.fr with used:=(gB S.fr.used [g] (c0 S.fr.used g)).1},sl:={S.sl with used:=(gB S.sl.used [g] (c0 S.sl.used g)).1}},0)
 else(S,r.2)
def Cs.iV(S:Cs)(g:Int)(x:eP):Cs:={S with guards:=S.guards.set g.toNat x}
def Cs.cJ(S:Cs)(g what n:Int):Cs×Int:=
 if S.live g=false then(S,2)else if g6 n=false then(S,1)
 else if what=0 then(S.iV g {S.na g with min:=n},0)
 else if what=1 then(S.iV g {S.na g with low:=n},0)
 else if what=2 then({S with fr:={S.fr with used:=(km S.fr.used g n).1}},(km S.fr.used g n).2)
 else if what=3 then({S with sl:={S.sl with used:=(km S.sl.used g n).1}},(km S.sl.used g n).2)
 else if what=4 then(if 1<n then(S,1)else(S.iV g {S.na g with whole:=n==1},0))
 else(S,1)
def g9(R:bA dI):bS->bA dI×Int
 |[]=>(R,0)
 |g::gs=>let r:=iI R g jY;let q:=g9 r.1 gs;(q.1,r.2+q.2)
def Cs.dD(S:Cs)(t:Int):Cs×Int:=let r:=g9 S.bV (iu S.tree t);({S with bV:=r.1},r.2)
def Cs.text(S:Cs)(p:Pg):bA UInt8:=
 if p.place=1 then(By.rd S.fr.cb.length S.fr.dj p.at_).1 else if p.place=2 then(By.rd S.sl.cb.length S.sl.dj p.at_).1 else(sU S.files (p.kf,p.ki)).1
def Cs.clean(S:Cs)(id:Int)(p:Pg):Cs:=
 if 0<=p.kf/\p.fl=true then {S with files:=(nN S.files (p.kf,p.ki) (S.text p)).1,bt:=(S.bt.mark id false).1} else S
def Cs.fF(S:Cs)(id:Int)(p:Pg)(a:bS):Cs×Bool:=
 if a.any (λg=>decide (hy S.sl.used g<=c0 S.sl.used g))then(S,false)else
 let t:=gf S.sl.cb
 if t.2.2≠0 then(S,false)else
 ({S with sl:=⟨t.1,(By.wr t.1.length S.sl.dj t.2.1 (S.text p)).1,(ds S.sl.used a 1).1⟩,bt:=(S.bt.put id 2 t.2.1).1},true)
def Cs.leave(S:Cs)(id:Int)(p:Pg)(a:bS):Cs:=
 {S with fr:=S.fr.dE p.at_ a,bV:=(jv S.bV id).1,log:=(dZ S.log p.owner).1,kept:=cR S.kept id (some (dZ S.log p.owner).2)}
def Cs.out(S:Cs)(id:Int):Cs×Bool:=
 let p:=(S.bt.get id).1
 let a:=S.chain p.owner
 if 0<=p.kf then
  let b:=S.clean id p
  ({b with bt:=(b.bt.put id 0 0).1}.leave id p a,true)
 else
  let r:=S.fF id p a
  if r.2 then(r.1.leave id p a,true)else(S,false)
def Cs.nodes(S:Cs)(own:eP->Int):bA eL:=
 (List.range S.guards.length).map λg:Nat=>if S.live g then⟨((S.tree[g]?).map G.up).getD (-1),S.memory g,own (S.na g)⟩else⟨((S.tree[g]?).map G.up).getD (-1),0,0⟩
def Cs.held(S:Cs)(t:Int)(own:eP->Int):bA Bool:=
 let l:=S.nodes own
 (List.range l.length).map λg:Nat=>nP l (m7 l t) t g
def pass(held:Int->Bool):bS->Cs->Cs×Bool
 |[],S=>(S,false)
 |id::r,S=>
  if held (S.bt.get id).1.owner then pass held r S
  else let o:=S.out id
   if o.2 then(o.1,true)else pass held r o.1
def hQ(l:bA Bool)(g:Int):Bool:=l.getD g.toNat false
def Cs.cT(S:Cs)(t:Int)(gs:bS)(all:Bool):Cs×Bool:=
 if S.live t=false then(S,false)else
 let mn:=S.held t eP.min
 let lw:=S.held t eP.low
 let o:=jw S.bV gs
 let r:=pass (λg=>hQ mn g||hQ lw g) o S
 if r.2 then(r.1,true)else if all then pass (λg=>hQ mn g) o r.1 else(r.1,false)
def Cs.c6(S:Cs)(t:Int):Cs×Bool:=S.cT t (iu S.tree t) true
def dk(t:Int)(gs:bS):Nat->Cs->Cs×Int
 |0,S=>(S,0)
 |n+1,S=>let r:=S.cT t gs false;let q:=dk t gs n r.1;(q.1,(if r.2 then 1 else 0)+q.2)
def cx(t:Int):bA (Int×Int)->Cs->Cs×Int
 |[],S=>(S,0)
 |(g,k)::r,S=>let a:=dk t [g] k.toNat S;let b:=cx t r a.1;(b.1,a.2+b.2)
def dL(t:Int):Nat->Cs->Cs×Int
 |0,S=>(S,0)
 |n+1,S=>let r:=S.c6 t;if r.2 then let q:=dL t n r.1;(q.1,1+q.2)else(r.1,0)
def Cs.weights(S:Cs)(t:Int):bS:=
 (iu S.tree t).map λg=>if hQ (S.held t eP.min) g=false/\hQ (S.held t eP.low) g=false then o9 S.bV g else 0
def Cs.shrink(S:Cs)(t n:Int):Cs×Int:=
 if S.live t=false\/n<1\/1000<n then(S,0)else
 let a:=cx t ((iu S.tree t).zip (ju n (S.weights t))) S
 let b:=dL t (n-a.2).toNat a.1
 (b.1,a.2+b.2)
def take(g:Int):Nat->Cs->Cs×Int×Int×Int
 |0,S=>(S, -1,0,12)
 |n+1,S=>
  let a:=S.chain g
  let t:=ds S.fr.used a 1
  let full (c:Cs) (b:Int):Cs×Int×Int×Int:=
   let r:=c.c6 b
   if r.2 then take g n r.1 else(r.1, -1,b,12)
  if t.2.2=0 then
   let p:=gf S.fr.cb
   if p.2.2=0 then({S with fr:={S.fr with cb:=p.1,used:=t.1}},p.2.1, -1,0)
   else full {S with fr:={S.fr with used:=(gB t.1 a 1).1}} 0
  else full S t.2.1
def Cs.take(S:Cs)(g:Int):Cs×Int×Int×Int:=Kc.take g (S.bV.length+1) S
def Cs.place(S:Cs)(id at_ g:Int)(text:bA UInt8)(ek:Bool):Cs:=
 {S with fr:={S.fr with dj:=(By.wr S.fr.cb.length S.fr.dj at_ text).1},bt:=((S.bt.own id g).1.put id 1 at_).1,bV:=(jW S.bV id g ek).1}
def Cs.di(S:Cs)(g:Int)(text:bA UInt8):Cs×Int×Int×Int:=
 let t:=S.take g
 if t.2.2.2≠0 then(t.1, -1,t.2.2.1,t.2.2.2)else
 let m:=t.1.bt.make (-1) 0 g
 ({t.1 with bt:=m.1}.place m.2.1 t.2.1 g text false,m.2.1, -1,0)
def Cs.fresh(S:Cs)(g:Int):Cs×Int×Int×Int:=if S.live g=false then(S, -1, -1,2)else S.di g By.zs
def Cs.copy(S:Cs)(id g:Int):Cs×Int×Int×Int:=
 let p:=S.bt.get id
 if p.2≠0\/S.live g=false\/p.1.place=0 then(S, -1, -1,2)else S.di g (S.text p.1)
def Cs.bY(S:Cs)(id g:Int):Cs×Int×Int:=
 let p:=S.bt.get id
 if p.2≠0\/S.live g=false\/(p.1.place=0/\p.1.kf<0)then(S, -1,2)
 else if p.1.place=1 then({S with bV:=(hH S.bV id).1}, -1,0)
 else
  let o:=if p.1.place=0 then g else p.1.owner
  let t:=S.take o
  if t.2.2.2≠0 then(t.1,t.2.2.1,t.2.2.2)else
  let text:=t.1.text p.1
  let a:=if p.1.place=2 then {t.1 with sl:=t.1.sl.dE p.1.at_ (t.1.chain o)} else t.1
  let b:=mJ a.log ((a.kept id).getD 0) (a.memory o)
  (a.place id t.2.1 o text (!b), -1,0)
def Cs.cH(S:Cs)(k:Int×Int)(g:Int):Cs×Int×Int×Int:=
 if eo S.files k=false\/S.live g=false then(S, -1, -1,2)else
 let made:=decide (S.bt.of k<0)
 let m:=S.bt.make k.1 k.2 g
 let a:=if made then {S with bt:=m.1} else S
 let id:=if made then m.2.1 else S.bt.of k
 let b:=a.bY id g
 if b.2.2=0 then(b.1,id, -1,0)
 else if made then({b.1 with bt:=(b.1.bt.drop id).1}, -1,b.2.1,b.2.2)
 else(b.1, -1,b.2.1,b.2.2)
def Cs.here(S:Cs)(id:Int):Int×Bool:=let p:=S.bt.get id;(p.1.at_,p.2==0&&p.1.place==1)
def Cs.get(S:Cs)(id at_:Int):Cs×Int×Int:=
 let h:=S.here id
 if h.2=false then(S,0,2)else
 let r:=By.gt S.fr.cb.length S.fr.dj h.1 at_
 (if r.2=0 then {S with bV:=(hH S.bV id).1} else S,(r.1.toNat:Int),r.2)
def Cs.put(S:Cs)(id at_:Int)(b:UInt8):Cs×Int:=
 let h:=S.here id
 if h.2=false then(S,2)else
 let r:=By.pt S.fr.cb.length S.fr.dj h.1 at_ b
 if r.2=0 then({S with fr:={S.fr with dj:=r.1},bV:=(hH S.bV id).1,bt:=(S.bt.mark id true).1},0)else(S,r.2)
def Cs.bP(S:Cs)(id n:Int):Cs×Int:=
 let r:=S.bt.bP id n
 if r.2.2≠0\/0<r.2.1 then({S with bt:=r.1},r.2.2)else
 let a:={S with bt:=r.1}
 let p:=(a.bt.get id).1
 let e:=a.chain p.owner
 let c:=if p.place=1 then
   let b:=a.clean id p
   {b with fr:=b.fr.dE p.at_ e,bV:=(jv b.bV id).1}
  else if p.place=2 then {a with sl:=a.sl.dE p.at_ e} else a
 let d:=(c.bt.put id 0 0).1.drop id
 ({c with bt:=d.1},d.2)
end Go.Kc
namespace Go.Kw
open Go Go.Kc Go.Kt
structure En where
 k:Nat
 id:Nat
 wr:Bool
 tc:Bool
deriving DecidableEq
def En.ok(e:En):Prop:=(e.k=1\/e.k=2)/\e.id<16777216
def En.enc(e:En):Nat:=e.k+4*e.id+67108864*e.wr.toNat+134217728*e.tc.toNat
structure Rg where
 a:Int
 b:Int
 kind:Int
 file:Int
 idx:Int
 wr:Bool
deriving DecidableEq
def Rg.valid(x:Rg):Bool:=decide (0<=x.a/\x.a<x.b/\x.b<=65536)&&
 (if x.kind=1 then decide (x.file=0/\x.idx=0)else if x.kind=2 then decide (0<=x.file/\x.file<=1048576/\0<=x.idx/\x.idx<=2097152-(x.b-x.a))else false)
def fm:Int->bA Rg->Bool
 |_,[]=>true
 |at_,x::r=>x.valid&&decide (at_<=x.a)&&fm x.b r
def fZ(q:Rg->Bool):bA Rg->Nat
 |[]=>0
 |x::r=>if q x then 0 else fZ q r+1
def eN(l:bA Rg)(x:Rg):bA Rg×Int:=
 if fm 0 l=false\/x.valid=false\/64<=l.length then(l,1)else
 let n:=fZ (λy=>decide (x.a<y.b)) l
 match l[n]? with
 |some y=>if y.a<x.b then(l,4)else(l.take n++x::l.drop n,0)
 |none=>(l.take n++x::l.drop n,0)
def prt(x:Rg)(a b:Int):Rg:={x with idx:=if x.kind=2 then x.idx+(a-x.a)else x.idx,a:=a,b:=b}
def fU(x:Rg)(a b:Int):bA Rg:=if a<b then[prt x a b]else[]
def fG(a b:Int)(x:Rg):bA Rg:=if b<=a then fU x x.a x.b else fU x x.a (min x.b a)++fU x (max x.a b) x.b
def ha(l:bA Rg)(a b:Int):bA Rg:=if fm 0 l then l.flatMap (fG a b)else[]
def Rg.has(x:Rg)(p:Int):Bool:=decide (x.a<=p/\p<x.b)
def j0(l:bA Rg)(p:Int):bX Rg:=if fm 0 l then l[fZ (λx=>x.has p) l]? else none
def dM(x:Rg)(p:Int):Int×Int:=if x.kind=2 then(x.file,x.idx+p-x.a)else(-1,p)
abbrev c7:=bA (Nat×En)
def dV:c7->Nat->bX En
 |[],_=>none
 |(q,e)::r,p=>if q=p then some e else dV r p
def fa:c7->Nat->En->c7
 |[],p,e=>[(p,e)]
 |(q,f)::r,p,e=>if p<q then(p,e)::(q,f)::r else if p=q then(p,e)::r else(q,f)::fa r p e
def hI(a b:Int)(p:Nat):Bool:=decide (a<=p/\(p:Int)<b)
structure Sp where
 dz:bA Rg
 cI:c7
def Sp.new:Sp:=⟨[],[]⟩
def Sp.map(s:Sp)(x:Rg):Sp×Int:=({s with dz:=(eN s.dz x).1},(eN s.dz x).2)
def Sp.cB(s:Sp)(p:Int):bX Rg:=j0 s.dz p
def Sp.entry(s:Sp)(p:Int):bX En:=if 0<=p then dV s.cI p.toNat else none
def Sp.enter(s:Sp)(p id:Int)(k:Nat)(wr:Bool):Sp:=
 if(s.cB p).isSome/\0<=id/\id<16777216 then {s with cI:=fa s.cI p.toNat ⟨k,id.toNat,wr,false⟩} else s
def Sp.ids(s:Sp)(a b:Int):bS:=(s.cI.filter λq=>hI a b q.1).map λq=>(q.2.id:Int)
def Sp.cut(s:Sp)(a b:Int):Sp×bS:=(⟨ha s.dz a b,s.cI.filter λq=> !hI a b q.1⟩,s.ids a b)
def Sp.cq(s:Sp)(p:Int):Sp:=
 match s.entry p with
 |some e=> {s with cI:=fa s.cI p.toNat {e with tc:=true}}
 |none=>s
structure Vs where
 core:Cs
 procs:bA (Int×bX Sp)
structure cG where
 err:Int
 n:Int
 bE:bS
deriving DecidableEq
structure db where
 kind:Int
 a:Int
 b:Int
 c:Int
 d:Int
deriving DecidableEq
def Vs.new(fr sl:Int)(bU:bS):Vs:=⟨Kc.new fr sl bU,[]⟩
def Vs.space(V:Vs)(pid:Int):bX Sp:=if 0<=pid then(V.procs[pid.toNat]?).bind Prod.snd else none
def Vs.group(V:Vs)(pid:Int):Int:=(V.procs.getD pid.toNat (0,none)).1
def Vs.fQ(V:Vs)(pid:Int)(s:bX Sp):Vs:={V with procs:=V.procs.set pid.toNat (V.group pid,s)}
def ep(ids:bS)(S:Cs):Cs:=ids.foldl (λS id=>(S.bP id (-1)).1) S
def dN(ids:bS)(S:Cs):Cs:=ids.foldl (λS id=>(S.bP id 1).1) S
def Vs.exit(V:Vs)(pid:Int):Vs:=
 match V.space pid with
 |some s=> {V with core:=ep (s.ids 0 65536) V.core}.fQ pid none
 |none=>V
structure Pr where
 g:Int
 size:Int
 live:Bool
deriving DecidableEq
def Vs.pr(V:Vs):bA Pr:=V.procs.map λp=>match p.2 with|some s=>⟨p.1,s.cI.length,true⟩|none=>⟨p.1,0,false⟩
def nb(ins:bS):Int->Int×Int->bA Pr->Int×Int
 |_,s,[]=>s
 |i,s,p::r=>nb ins (i+1) (if p.live=true/\s.2<p.size/\ins.contains p.g=true then(i,p.size)else s) r
def pick(l:bA Pr)(ins:bS):Int:=(nb ins 0 (-1,0) l).1
def x7(a:bS)(wh:bA Bool):Nat->Int
 |0=> -1
 |n+1=>let g:=a.getD n 0;if 0<=g/\wh.getD g.toNat false=true then g else x7 a wh n
def kL(v:Int):bS->Nat
 |[]=>0
 |x::r=>if v=x then 0 else kL v r+1
def whole(a:bS)(t:Int)(wh:bA Bool):Int:=if kL t a<a.length then x7 a wh (kL t a+1)else -1
def iy(ins:bS):Int->bA Pr->bS
 |_,[]=>[]
 |i,p::r=>if p.live=true/\ins.contains p.g=true then i::iy ins (i+1) r else iy ins (i+1) r
def l7(T:bA G)(l:bA Pr)(t:Int)(wh:bA Bool):bS:=
 let v:=pick l (iu T t)
 if v<0 then[]else
 let w:=whole (dx T (l.getD v.toNat ⟨0,0,false⟩).g) t wh
 if w<0 then[v]else iy (iu T w) 0 l
def Vs.dg(V:Vs)(l:bS):Vs:=l.foldl Vs.exit V
def nc(S:Cs):bA Bool:=S.guards.map eP.whole
def fH(f:Cs->Int->Cs×Int×Int×Int)(pid:Int):Nat->Vs->cG->Vs×cG×bX Int
 |0,V,o=>(V,o,none)
 |n+1,V,o=>
  let r:=f V.core (V.group pid)
  let V1:Vs:={V with core:=r.1}
  if r.2.2.2=0 then(V1,o,some r.2.1)else
  if r.2.2.2≠12 then(V1, {o with err:=r.2.2.2},none)else
  let d:=l7 V1.core.tree V1.pr r.2.2.1 (nc V1.core)
  let a:=V1.dg d
  let b:cG:={o with bE:=o.bE++d}
  if d= []then(a, {b with err:=12},none)else
  if pid∈d then(a, {b with err:=13},none)else fH f pid n a b
def Vs.enter(V:Vs)(pid p id:Int)(k:Nat)(wr:Bool):Vs:=
 let V1:Vs:={V with core:=(V.core.bP id 1).1}
 match V1.space pid with
 |some s=>V1.fQ pid (some (s.enter p id k wr))
 |none=>V1
def Vs.dW(V:Vs)(f:Cs->Int->Cs×Int×Int×Int)(pid:Int)(o:cG):Vs×cG×bX Int:=fH f pid (V.procs.length+1) V o
def Vs.bY(V:Vs)(pid id:Int)(o:cG):Vs×cG×bX Int:=
 V.dW (λS g=>let r:=S.bY id g;(r.1,id,r.2)) pid o
def Vs.there(V:Vs)(pid p:Int)(s:Sp)(x:Rg)(o:cG):Vs×cG×bX Int:=
 match s.entry p with
 |some e=>V.bY pid e.id o
 |none=>
  let r:=V.dW (λS g=>S.cH (dM x p) g) pid o
  match r.2.2 with
  |some id=>(r.1.enter pid p id 2 x.wr,r.2)
  |none=>r
def Vs.own(V:Vs)(pid p:Int)(s:Sp)(o:cG):Vs×cG×bX Int:=
 match s.entry p with
 |some e=>
  if(V.core.bt.get e.id).1.refs<=1 then V.bY pid e.id o else
  let r:=V.dW (λS g=>S.copy e.id g) pid o
  match r.2.2 with
  |some id=>let V1:=r.1.enter pid p id 1 true;({V1 with core:=(V1.core.bP e.id (-1)).1},r.2)
  |none=>r
 |none=>
  let r:=V.dW (λS g=>S.fresh g) pid o
  match r.2.2 with
  |some id=>(r.1.enter pid p id 1 true,r.2)
  |none=>r
def Vs.cq(V:Vs)(pid p:Int):Vs:=
 match V.space pid with
 |some s=>V.fQ pid (some (s.cq p))
 |none=>V
def cG.zero:cG:=⟨0,0,[]⟩
def cG.bad(e:Int):cG:=⟨e,0,[]⟩
def Vs.load(V:Vs)(pid:Int)(s:Sp)(b:Int):Vs×cG:=
 let p:=b/16
 match s.cB p with
 |none=>(V,.bad 14)
 |some x=>
  if b<0 then(V,.bad 14)else
  if(s.entry p).isNone/\x.kind=1 then(V,.zero)else
  let r:=V.there pid p s x .zero
  match r.2.2 with
  |none=>(r.1,r.2.1)
  |some id=>
   let g:=r.1.core.get id (b%16)
   ({r.1 with core:=g.1}.cq pid p, {r.2.1 with n:=g.2.1})
def Vs.store(V:Vs)(pid:Int)(s:Sp)(b c:Int):Vs×cG:=
 let p:=b/16
 if c<0\/255<c then(V,.bad 1)else
 match s.cB p with
 |none=>(V,.bad 14)
 |some x=>
  if b<0 then(V,.bad 14)else
  if x.wr=false then(V,.bad 15)else
  let r:=if x.kind=2 then V.there pid p s x .zero else V.own pid p s .zero
  match r.2.2 with
  |none=>(r.1,r.2.1)
  |some id=>
   let g:=r.1.core.put id (b%16) (UInt8.ofNat c.toNat)
   ({r.1 with core:=g.1}.cq pid p,r.2.1)
def k8(b c:Int):Prop:=(0<=b/\b<=65536)/\0<=c/\c<=65536
instance(b c:Int):Decidable (k8 b c):=by unfold k8;exact inferInstance
def Vs.map(V:Vs)(pid:Int)(s:Sp)(x:Rg):Vs×cG:=(V.fQ pid (some (s.map x).1),.bad (s.map x).2)
def Vs.call(V:Vs)(s:Sp)(o:db):Vs×cG:=
 let pid:=o.a
 if o.kind=4 then(if V.core.live o.b then({V with procs:=V.procs.set pid.toNat (o.b,some s)},.zero)else(V,.bad 2))else
 if o.kind=5 then(if k8 o.b o.c then V.map pid s ⟨o.c,o.c+o.b,1,0,0,true⟩else(V,.bad 1))else
 if o.kind=6 then(if k8 o.b o.c then
  (if o.d<0\/(V.core.files.bU.length:Int)<=o.d\/nL V.core.files o.d<o.b then(V,.bad 1)else V.map pid s ⟨o.c,o.c+o.b,2,o.d,0,true⟩)else(V,.bad 1))else
 if o.kind=7 then(if k8 o.b o.c then
  (let r:=s.cut o.c (o.c+o.b);let V1:=V.fQ pid (some r.1);({V1 with core:=ep r.2 V1.core},⟨0,r.2.length,[]⟩))else(V,.bad 1))else
 if o.kind=8 then V.load pid s o.b else
 if o.kind=9 then V.store pid s o.b o.c else
 if o.kind=10 then(if 64<=V.procs.length then(V,.bad 3)else
  ({core:=dN (s.ids 0 65536) V.core,procs:=V.procs++[(V.group pid,some s)]},⟨0,V.procs.length,[]⟩))else
 (V.exit pid,.zero)
def Vs.busy(V:Vs)(g:Int):Bool:=g !=0&&V.core.live g&&V.procs.any λp=>p.2.isSome&&p.1==g
def Vs.act(V:Vs)(o:db):Vs×cG:=
 if o.kind=0 then(let r:=V.core.ct o.a;({V with core:=r.1},⟨r.2.2,max r.2.1 0,[]⟩))else
 if o.kind=1 then(if V.busy o.a then(V,.bad 4)else(let r:=V.core.remove o.a;({V with core:=r.1},.bad r.2)))else
 if o.kind=2 then(let r:=V.core.cJ o.a o.b o.c;({V with core:=r.1},.bad r.2))else
 if o.kind=3 then(if V.core.live o.a=false then(V,.bad 2)else if 64<=V.procs.length then(V,.bad 3)else
  ({V with procs:=V.procs++[(o.a,some Sp.new)]},⟨0,V.procs.length,[]⟩))else
 if o.kind=12 then(let r:=V.core.dD o.a;({V with core:=r.1},⟨0,r.2,[]⟩))else
 if o.kind=13 then(let r:=V.core.shrink o.a o.b;({V with core:=r.1},⟨0,r.2,[]⟩))else
 if o.kind<0\/13<o.kind then(V,.bad 1)else
 match V.space o.a with
 |none=>(V,.bad 2)
 |some s=>V.call s o
end Go.Kw
namespace Go.Kc
open Go.Kt
def hZ(n:Nat)(f:Nat->Bool):Nat:=(List.range n).countP f
def rM(n:Nat)(f:Nat->Bool):hZ (n+1) f=hZ n f+(f n).toNat:=by
 unfold hZ;rw[List.range_succ,Hh];cases h:f n<;>simp[xA,h]
def Cd{n:Nat}{f f':Nat->Bool}(h:∀i,i<n->f' i=f i):hZ n f'=hZ n f:=by
 induction n with
 |zero=>rfl
 |succ n a=>rw[rM,rM,a (λi b=>h i bu),h n bu]
def VO{n k:Nat}{f f':Nat->Bool}(hk:k<n)(h:∀i,i<n->i≠k->f' i=f i):hZ n f'+(f k).toNat=hZ n f+(f' k).toNat:=by
 induction n with
 |zero=>omega
 |succ n b=>
  rw[rM,rM];by_cases e:k=n
  ·subst e;rw[Cd (λi a=>h i bu bu)];omega
  ·have h1:=b bu (λi a=>h i bu);have h2:=h n bu (λx=>e x.symm);rw[h2];omega
def VP{n:Nat}{f f':Nat->Bool}(h:∀i,i<n->f i=true->f' i=true):hZ n f<=hZ n f':=by
 induction n with
 |zero=>exact ec _
 |succ n a=>
  rw[rM,rM];have h1:=a (λi b=>h i bu);have h2:=h n bu;cases hf:f n with
  |false=>simp;omega
  |true=>rw[h2 hf];omega
def VQ{n:Nat}{f:Nat->Bool}:hZ n f=0↔∀i,i<n->f i=false:=by
 unfold hZ;rw[Uk];simp
def oy:∀ {T:bA Bool} {i:Nat} {b c:Bool},T[i]?=some b->(T.set i c).count true+b.toNat=T.count true+c.toNat
 |[],i,b,c,h=>by simp at h
 |x::T,0,b,c,h=>by
  simp only[k1,fT]at h;subst h;cases x<;>cases c<;>simp[sG]
 |x::T,i+1,b,c,h=>by
  have:=oy (T:=T) (i:=i) (b:=b) (c:=c) (by simpa using h);simp only[Up,sG];omega
def Ce{T:bA Bool}(h:(gf T).2.2=0):∃i:Nat,T[i]?=some false/\(∀j,j<i->T[j]?=some true)/\gf T=(T.set i true,(i:Int),0):=by
 unfold gf at h ⊢;cases hf:firstFree 0 T with
 |none=>rw[hf]at h;simp at h
 |some i=>
  obtain⟨_,h2,a⟩:=B1 hf;exact⟨i,by simpa using h2,λj b=>by simpa using a j bu b,rfl⟩
def Cf{T:bA Bool}(h:(gf T).2.2≠0):(∀b∈T,b=true)/\gf T=(T, -1,3):=by
 unfold gf at h ⊢;cases hf:firstFree 0 T with
 |none=>exact⟨It hf,rfl⟩
 |some i=>rw[hf]at h;simp at h
def VR{T:bA Bool}{i:Nat}(h:T[i]?=some true):nK T i=(T.set i false,0):=by
 have a:=(c2.1 h).1;unfold nK;rw[cK,dt,dC,h];simp
def j1{g:Int}:gg g=true↔0<=g/\g<64:=by unfold gg;simp
def x8{g:Int}:g6 g=true↔0<=g/\g<=top:=by unfold g6;simp
def s5:∀ {l:bS},nodupB l=true↔l.Nodup
 |[]=>by simp[nodupB]
 |x::l=>by
  unfold nodupB;rw[dF,s5,rq];simp
def nd{l:bS}{n:Int}:jt l n=true↔(∀g∈l,0<=g/\g<64)/\l.Nodup/\0<=n/\n<=top:=by
 unfold jt;rw[dF,dF,s5,x8,fM];simp only[j1,and_assoc]
def Cg(C:bA eZ)(g:Int)(f:eZ->eZ):(iR C g f).length=C.length:=by simp[iR]
def nS(n:Int):∀(l:bS) (C:bA eZ),(dP C l n).length=C.length
 |[],_=>rfl
 |g::l,C=>by
  show(dP (iR C g _) l n).length=_;rw[nS n l,Cg]
def Ch{C:bA eZ}{g h:Int}(f:eZ->eZ)(c:C.length=64)(a:gg g=true)(b:gg h=true):(iR C g f).getD h.toNat ⟨0,0⟩=if h=g then f (C.getD g.toNat ⟨0,0⟩)else C.getD h.toNat ⟨0,0⟩:=by
 rw[j1]at a b;unfold iR;simp only[dC];by_cases e:h=g
 ·subst e;rw[bK rfl,jm bu];rfl
 ·rw[bJ e,iM bu]
def rN(n:Int):∀(l:bS) {C:bA eZ} {h:Int},C.length=64->(∀g∈l,0<=g/\g<64)->l.Nodup->gg h=true->
  (dP C l n).getD h.toNat ⟨0,0⟩=if h∈l then {C.getD h.toNat ⟨0,0⟩with use:=(C.getD h.toNat ⟨0,0⟩).use+n} else C.getD h.toNat ⟨0,0⟩
 |[],_,_,_,_,_,_=>by simp[dP]
 |g::l,C,h,c,hl,hn,d=>by
  have f:gg g=true:=j1.2 (hl g (by simp));have b:=rq.1 hn;show(dP (iR C g _) l n).getD h.toNat _=_;rw[rN n l (by rw[Cg];exact c) (λx hx=>hl x (by simp[hx])) b.2 d,Ch _ c f d];by_cases e:h=g
  ·subst e;rw[bJ b.1,bK rfl,bK (by simp)]
  ·by_cases a:h∈l;·rw[bK a,bJ e,bK (by simp[a])]
   ·rw[bJ a,bJ e,bJ (by simp[e,a])]
def pZ{n:Int}{l:bS}{C:bA eZ}{h:Int}(b:C.length=64)(hl:∀g∈l,0<=g/\g<64)(hn:l.Nodup):c0 (dP C l n) h=c0 C h+if h∈l then n else 0:=by
 unfold c0 hO;cases a:gg h with
 |true=>
  simp only[g4];rw[rN n l b hl hn a];split<;>simp
 |false=>
  have:h∉l:=λhm=>by rw[j1.2 (hl h hm)]at a;cases a
  rw[bJ this];simp
def vk{n:Int}{l:bS}{C:bA eZ}{h:Int}(a:C.length=64)(hl:∀g∈l,0<=g/\g<64)(hn:l.Nodup):hy (dP C l n) h=hy C h:=by
 unfold hy hO;cases b:gg h with
 |true=>
  simp only[g4];rw[rN n l a hl hn b];split<;>simp
 |false=>simp
def s6{C:bA eZ}{g:Int}(a:0<=g/\g<64):C.getD g.toNat ⟨0,0⟩=hO C g:=by
 unfold hO;rw[j1.2 a];rfl
def hP.of{C:bA eZ}(h:hP C)(g:Int):(0<=(hO C g).use/\(hO C g).use<=top)/\0<=(hO C g).cJ/\(hO C g).cJ<=top:=by
 unfold hO;split
 ·next b=>
  rw[j1]at b;have a:g.toNat<C.length:=by rw[h.len];omega
  rw[dC,ea a];exact h.ok _ (oT a)
 ·exact⟨⟨hh _,bN⟩,hh _,bN⟩
def hP.new:hP mH:=⟨rfl,λx hx=>by
 rw[List.eq_of_mem_replicate hx];exact⟨⟨bN,bN⟩,bN,bN⟩⟩
def hP.mk'{C:bA eZ}(a:C.length=64)(h:∀g:Int,0<=g->g<64->(0<=c0 C g/\c0 C g<=top)/\0<=hy C g/\hy C g<=top):hP C:=by
 refine⟨a,λx hx=>?_⟩;obtain⟨i,b,rfl⟩:=jn.1 hx;have:=h i bu bu;unfold c0 hy hO at this;rw[j1.2 ⟨bu,bu⟩]at this;simpa[b]using this
def vl{C:bA eZ}{l:bS}{n:Int}(h:(ds C l n).2.2=0):jt l n=true/\ds C l n=(dP C l n, -1,0)/\∀g∈l,0<n->c0 C g+n<=hy C g:=by
 unfold ds at h ⊢;cases hr:jt l n with
 |false=>rw[hr]at h;simp at h
 |true=>
  rw[hr]at h;simp only[Hi,gU]at h ⊢;cases hf:l.find? (λg=>decide (0<n)&&decide ((C.getD g.toNat ⟨0,0⟩).cJ<(C.getD g.toNat ⟨0,0⟩).use+n))with
  |some g=>rw[hf]at h;simp at h
  |none=>
   refine⟨trivial,rfl,λg a c=>?_⟩;have:=rn.1 hf g a;have b:=(nd.1 hr).1 g a;rw[s6 b]at this;simp only[dF,gD,not_and]at this;unfold c0 hy;have:=this c;omega
def vm{C:bA eZ}{l:bS}{n:Int}(hr:jt l n=true)(h:(ds C l n).2.2≠0):∃g∈l,ds C l n=(C,g,22)/\0<n/\hy C g<c0 C g+n:=by
 unfold ds at h ⊢;rw[hr]at h ⊢;simp only[Hi,gU]at h ⊢;cases hf:l.find? (λg=>decide (0<n)&&decide ((C.getD g.toNat ⟨0,0⟩).cJ<(C.getD g.toNat ⟨0,0⟩).use+n))with
 |none=>rw[hf]at h;simp at h
 |some g=>
  have a:=xn hf;have hp:=Ht hf;have b:=(nd.1 hr).1 g a;rw[s6 b]at hp;simp only[dF,gD]at hp;exact⟨g,a,rfl,hp.1,hp.2⟩
def s7{C:bA eZ}{l:bS}{n:Int}(hr:jt l n=true)(h:∀g∈l,n<=c0 C g):gB C l n=(dP C l (-n),0):=by
 unfold gB;rw[hr];simp only[Hi,gU];have:l.find? (λg=>decide ((C.getD g.toNat ⟨0,0⟩).use<n))=none:=by
  rw[rn];intro g a;rw[s6 ((nd.1 hr).1 g a)];have:=h g a;unfold c0 at this;simp;omega
 rw[this]
def IP{C:bA eZ}{l:bS}{n:Int}(hr:jt l n=true)(h:∃g∈l,c0 C g<n):gB C l n=(C,2):=by
 unfold gB;rw[hr];simp only[Hi,gU];obtain⟨g,a,hl⟩:=h;cases hf:l.find? (λg=>decide ((C.getD g.toNat ⟨0,0⟩).use<n))with
 |some x=>rfl
 |none=>
  have:=rn.1 hf g a;rw[s6 ((nd.1 hr).1 g a)]at this;unfold c0 at hl;simp at this;omega
def hP.try{C:bA eZ}(h:hP C)(l:bS)(n:Int):hP (ds C l n).1:=by
 by_cases a:(ds C l n).2.2=0
 ·obtain⟨hr,he,hle⟩:=vl a;rw[he];obtain⟨h1,h2,c,d⟩:=nd.1 hr;refine hP.mk' (by rw[nS];exact h.len) (λg e b=>?_);rw[pZ h.len h1 h2,vk h.len h1 h2];have ho:=h.of g;unfold c0 hy at*
  split
  ·next hm=>
   rcases Int.lt_or_le 0 n with hp|hp
   ·have:=hle g hm hp;omega
   ·have:n=0:=by omega
    subst this;omega
  ·omega
 ·cases hr:jt l n with
  |false=>
   have:ds C l n=(C, -1,1):=by unfold ds;rw[hr];rfl
   rw[this];exact h
  |true=>
   obtain⟨g,_,he,_⟩:=vm hr a;rw[he];exact h
def hP.dE{C:bA eZ}(h:hP C)(l:bS)(n:Int):hP (gB C l n).1:=by
 cases hr:jt l n with
 |false=>
  have:gB C l n=(C,1):=by unfold gB;rw[hr];rfl
  rw[this];exact h
 |true=>
  by_cases hb:∃g∈l,c0 C g<n;·rw[IP hr hb];exact h
  ·have a:∀g∈l,n<=c0 C g:=λg b=>Int.not_lt.1 (λc=>hb ⟨g,b,c⟩);rw[s7 hr a];obtain⟨h1,h2,e,f⟩:=nd.1 hr;refine hP.mk' (by rw[nS];exact h.len) (λg b d=>?_);rw[pZ h.len h1 h2,vk h.len h1 h2];have ho:=h.of g;unfold c0 hy at*
   split;·next hm=>have:=a g hm;omega
   ·omega
def hP.kM{C:bA eZ}(h:hP C)(g n:Int):hP (km C g n).1:=by
 unfold km;split
 ·next c=>
  rw[dF]at c;refine hP.mk' (by rw[Cg];exact h.len) (λx hx d=>?_);have b:gg x=true:=j1.2 ⟨hx,d⟩;unfold c0 hy hO;rw[b,bK rfl,Ch _ h.len c.1 b];have ho:=h.of x;have a:=h.of g;have e:=x8.1 c.2;unfold hO at ho a;rw[b,bK rfl]at ho;rw[c.1,bK rfl]at a;split;·exact⟨a.1,e⟩
  ·exact ho
 ·exact h
def VS{C:bA eZ}(b:C.length=64)(g n x:Int):c0 (km C g n).1 x=c0 C x:=by
 unfold km;split
 ·next a=>
  rw[dF]at a;unfold c0 hO;cases hx:gg x with
  |false=>simp
  |true=>
   simp only[g4];rw[Ch _ b a.1 hx];split;·next e=>subst e;rfl
   ·rfl
 ·rfl
end Go.Kc
