/- Part of a proof about the core: of its walks and plain laws. -/
import Derived.Test.YtafigbgagbolgaaGreatDoorC12
set_option linter.all false
set_option maxRecDepth 100000
open Go.IntKind(i64 u64)
namespace Go.Mp.Gp
open Go Go.Vc Go.Sp Go.Proofs Go.Shelf Go.Stab Go.Kc Go.Mp
variable{E:Env}{L:ch}{w:World}{R:List dz}{l:Nat}
def Ey{s:Sl}{gs:bU}(a:Ints E L s gs)(u:gs.length<4611686018427387904)(v:Int)(h:Sep E L w):Calls P pW #[Sv s,Iv v] w (bW λr w'=>r=.bool (gs.contains v)/\Sep E L w'):=by
 apply D1;unfold y5 qQ;have d:Calls P vG #[Sv s,Iv v] w (bW λr w'=>∃i:Int,r=Iv i/\(decide (i≥0)=gs.contains v)/\Sep E L w'):=by
  apply D5;unfold y6 qD qO qW;refine⟨λi w=>∃k:Nat,i=k/\k<=gs.length/\(∀j,j<k->gs[j]? ≠some v)/\Sep E L w,λi _=>(gs.length-i).toNat,⟨0,rfl,ec _,λj b=>absurd b (Nat.not_lt_zero _),h⟩,?_⟩;rintro _ i o ⟨k,rfl,y,c,h1⟩;have t:=a.1;rw[a.1];refine cL (λq=>?_) (λp=>⟨-1,rfl,?_,h1⟩)
  ·have hx:gs[k]?=some (gs[k]'bA):=dL;generalize gs[k]'(bA)=x at hx;rw[<- a.1];refine a.el h1 k rfl hx (eD (λe=>⟨_,rfl,?_,h1⟩) (λg=>?_))
   ·have:v∈gs:=by rw[e];exact eu hx
    rw[kI.2 this];simp
   ·rw[cH bA bA];refine⟨⟨k+1,bA,bA,λj b=>?_,h1⟩,by dsimp only;omega⟩;by_cases f:j=k;·subst f;rw[hx];intro e;exact g (cQ e).symm
    ·exact c j bA
  ·have:¬ v∈gs:=by
    intro hm;obtain⟨j,b,e⟩:=h5.1 hm;exact c j bA (by rw[dD b,e])
   have l:gs.contains v=false:=by rw[uP];intro m;exact this (kI.1 m)
   rw[l];rfl
 refine use d ?_;rintro _ o ⟨i,rfl,n,h1⟩;exact⟨_,rfl,by rw[n],h1⟩
def kl(R:List dz)(k:Int):Int:=(e9 R k).elim 0 (·.du)
def uv(R:List dz)(a b:Int):Prop:=kl R b<kl R a\/(kl R a=kl R b/\a<b)
def Fu(R:List dz)(a b:Int):Bool:=decide (kl R b<kl R a)
def Ay(R:List dz):k4 (uv R) (· < ·) (Fu R):=by
 refine⟨⟨λx y z h1 a=>?_,λx h=>?_,λx y h=>?_⟩,λx y h=>bA,λx y h=>?_⟩;·unfold uv at *;omega
 ·unfold uv at h;omega
 ·unfold uv;omega
 ·unfold Fu uv;rw[decide_eq_true_iff];constructor;·exact .inl
  ·rintro(h1|⟨h1,a⟩);·exact h1
   ·exact absurd a (by have:x<y:=h;omega)
def RO(x:Int)(w:World):Calls P DG #[Iv x] w (bW λv w'=>v=.bool false/\w'=w):=by
 apply YO;exact⟨by simp,rfl⟩
def aGD(x y:Int)(w:World):Calls P J4 #[Iv x,Iv y] w (bW λv w'=>∃r:Int,v=Iv r/\decide (r<0)=decide (x<y)/\w'=w):=by
 apply YD;unfold MU qF;refine use (RO x w) ?_;rintro _ _ ⟨rfl,rfl⟩;refine⟨_,rfl,use (RO y _) ?_⟩;rintro _ _ ⟨rfl,rfl⟩;refine⟨_,rfl,dH (dH (cL (λh=>⟨-1,rfl,by simp[h],rfl⟩) (λh=>eW (λa=>⟨1,rfl,?_,rfl⟩) (λa=>⟨0,rfl,?_,rfl⟩))))⟩;·rw[c4 (show ¬ x<y by omega)];rfl
 ·rw[c4 (show ¬ x<y by omega)];rfl
structure km(R:List dz)(gs:bU)(o:bU):Prop where
 ord:o.Pairwise (uv R)
 mem:∀k,k∈o↔∃e,e9 R k=some e/\e.group∈gs
def wI{α:Type}{r:α->α->Prop}(c:∀x,¬ r x x)(i:∀x y z,r x y->r y z->r x z):∀ {a b:List α},a.Pairwise r->b.Pairwise r->(∀k,k∈a↔k∈b)->a=b
 |[],[],_,_,_=>rfl
 |[],y::b,_,_,h=>by have:=(h y).2 (by simp);cases this
 |x::a,[],_,_,h=>by have:=(h x).1 (by simp);cases this
 |x::a,y::b,l,m,h=>by
  have f:=g5.1 l;have g:=g5.1 m;have j:x=y:=by
   rcases ey.1 ((h x).1 (by simp))with e|e;·exact e
   ·rcases ey.1 ((h y).2 (by simp))with e' | e';·exact e'.symm
    ·exact absurd (i _ _ _ (g.1 x e) (f.1 y e')) (c _)
  subst j;rw[wI c i f.2 g.2 (λk=>⟨λd=>?_,λd=>?_⟩)]
  ·rcases ey.1 ((h k).1 (fI _ d))with e|e;·rw[e]at d;exact absurd (f.1 _ d) (c _)
   ·exact e
  ·rcases ey.1 ((h k).2 (fI _ d))with e|e;·rw[e]at d;exact absurd (g.1 _ d) (c _)
   ·exact e
def km.eq{gs o o':bU}(h:km R gs o)(h':km R gs o'):o=o':=
 wI (Ay R).ord.vm (Ay R).ord.trans h.ord h'.ord (λk=>by rw[h.mem,h'.mem])
def aKp(G:Kc.Good R){s:Sl}{gs:bU}(V:Ints E L s gs)(W:gs.length<4611686018427387904)(h:Sep E (fh l R::L) w):
  Calls P JM #[Pb l,Sv s] w (bW λv w'=>∃(t:Sl) (o:bU),v=Sv t/\t.n=o.length/\km R gs o/\Sep E (bC t 1 (bD o)::fh l R::L) w'):=by
 apply XY;unfold Mj qE qJ qM qN qb;refine Al.i h (λA aa h1=>Al.i h1 (λC w2 f=>?_));have f:Sep E (bE C [Sv s]::bE A [Pb l]::fh l R::L) w2:=f;refine ld f 1 rfl rfl rfl ⟨_,rfl,?_⟩;obtain⟨m,B⟩:=fh.open (f.fr 2 rfl);have B:Sep E (cB m encI (gm R)::bE l [.map (some m)]::bE C [Sv s]::bE A [Pb l]::L) w2:=B.ro 4 [1,0,2,3] rfl;refine ld B 1 rfl rfl rfl (aAW (N:=16777217) B (q:=0) rfl (λk v F=>?_) bO (λt ks ab X n U=>?_))
 ·unfold gm at F;cases hf:e9 R k with
  |none=>rw[hf]at F;cases F
  |some e=>
   obtain⟨h1,f⟩:=(kz G.cX).1 hf;have:=(G.ok e h1).1;omega
 have p:∀k,k∈ks↔(e9 R k).isSome=true:=λk=>by
  rw[n.mem];unfold gm;cases e9 R k<;>rfl
 have Y:ks.length<=16777217:=by
  refine p0 16777217 ks (nT.2 (n.cX.imp (λZ he=>bA))) (λx hx=>?_);obtain⟨e,he⟩:=kq.1 ((p x).1 hx);obtain⟨h1,f⟩:=(kz G.cX).1 he;have:=(G.ok e h1).1;omega
 obtain⟨M,j⟩:∃M,M=cB m encI (gm R)::bE l [.map (some m)]::bE C [Sv s]::bE A [Pb l]::L:=⟨_,rfl⟩
 have S:Ints E M s gs:=by rw[j];exact V.cons.cons.cons.cons
 let q:Int->Bool:=λid=> !(gs.contains ((e9 R id).elim 0 (·.group)));refine use (QA (L:=M) (q:=q) ?_ X bA (by rw[j];exact U)) ?_
 ·intro r _ x Q _ D;refine⟨J1,_,rfl,by kernel_rfl,?_⟩;refine use (K:=λv w'=>v=.bool (q x)/\Sep E (bC t 1 (bD r)::M) w') (YA x ⟨C,0,none⟩ ⟨A,0,none⟩ ?_) (λv w' ⟨J,I⟩=>⟨by rw[J],I⟩);unfold MR qF qM qb qc;refine Dr.i D (λae c=>?_);have b:=c;rw[j]at b;refine ld (x:=s) b 3 rfl rfl rfl (ld b 4 rfl rfl rfl ⟨_,rfl,ld b 2 rfl rfl rfl ⟨_,_,Fc (i:=1) b rfl x,use (Ey S.cons W _ c) ?_⟩⟩);rintro _ T ⟨rfl,g⟩;exact⟨_,rfl,rfl,g⟩
 rintro _ ad ⟨u,rfl,hu,D⟩;have hlen:(ks.filter λx=> !q x).length<=ks.length:=lp _ _;refine⟨u,rfl,use (ES (Ay R) (n.cX.filter _) hu bA ?_ D) ?_⟩
 ·intro r x y Q _ c;refine⟨J3,_,rfl,by kernel_rfl,?_⟩;refine use (K:=λv w'=>∃z:Int,v=Iv z/\decide (z<0)=Fu R x y/\Sep E (bC u 1 (bD r)::M) w') (YC x y ⟨A,0,none⟩ ?_) (λv w' ⟨z,J,O,I⟩=>⟨z,by rw[J],O,I⟩);unfold MT qM qQ qb;refine Dr.i c (λT g=>?_);have a:=g;rw[j]at a;refine ld a 4 rfl rfl rfl ⟨_,rfl,ld a 2 rfl rfl rfl ⟨_,_,Fc (i:=1) a rfl y,?_⟩⟩;refine ld a 4 rfl rfl rfl ⟨_,rfl,ld a 2 rfl rfl rfl ⟨_,_,Fc (i:=1) a rfl x,use (aGD _ _ T) ?_⟩⟩;rintro _ _ ⟨z,rfl,O,rfl⟩;exact⟨_,rfl,z,rfl,O,g⟩
 ·rintro _ Q ⟨rfl,o,d,H,c⟩;refine⟨rfl,u,o,rfl,by rw[hu,d.length_eq],⟨H,λk=>?_⟩,?_⟩
  ·rw[d.mem_iff,fO,p];cases hf:e9 R k with
   |none=>simp
   |some e=>simp[q,hf]
  ·rw[j]at c;have g:Sep E (bE l [.map (some m)]::cB m encI (gm R)::bC u 1 (bD o)::L) Q:=c.ro 5 [2,1,0] rfl;exact(fh.shut g).swap
end Go.Mp.Gp
namespace Go.Kc
open Go Go.Kt
def RP{R:List dz}(G:Good R)(gs:bU):Go.Mp.Gp.km R gs (iU R gs):=by
 have c:∀e∈R,Go.Mp.Gp.kl R e.id=e.du:=λe he=>by
  unfold Go.Mp.Gp.kl;rw[(kz G.cX).2 ⟨he,rfl⟩];rfl
 refine⟨?_,λk=>⟨λm=>?_,?_⟩⟩
 ·unfold iU;rw[List.pairwise_flatMap];refine⟨λa _=>?_,?_⟩
  ·rw[jK];refine GK (λ{x y} hx d l=>?_) (G.cX.filter _);rw[fO,dG]at hx d;have h1:x.du=a:=by simpa using hx.2.2
   have g:y.du=a:=by simpa using d.2.2
   right;rw[c x hx.1,c y d.1];exact⟨by rw[h1,g],l⟩
  ·have h:([3,2,1,0]:bU).Pairwise (λa b=>b<a):=by decide
   refine h.imp (λ{a b} j x hx y d=>?_);obtain⟨e,he,rfl⟩:=e4.1 hx;obtain⟨f,hf,rfl⟩:=e4.1 d;rw[fO,dG]at he hf;have h1:e.du=a:=by simpa using he.2.2
   have g:f.du=b:=by simpa using hf.2.2
   left;rw[c e he.1,c f hf.1,h1,g];exact j
 ·obtain⟨e,he,rfl,i⟩:=x8 m;exact⟨e,(kz G.cX).2 ⟨he,rfl⟩,i⟩
 ·rintro⟨e,he,i⟩;obtain⟨h1,rfl⟩:=(kz G.cX).1 he;have g:=(G.ok e h1).2.2;unfold iU;refine A3.2 ⟨e.du,?_,e4.2 ⟨e,fO.2 ⟨h1,by simpa using i⟩,rfl⟩⟩;have:e.du=0\/e.du=1\/e.du=2\/e.du=3:=by omega
  rcases this with h|h|h|h<;>simp[h]
variable{S:Cs}
def Inv0.jF(h:Inv0 S)(g:Int):S.memory g<2147483648:=by
 unfold Cs.memory;by_cases b:0<=g/\g<64
 ·rw[h.fr.use g b.1 b.2];have h1:hY S.bz 1 (below S.tree g)<=hY S.bz 1 (λ_=>true):=by
   unfold hY;refine Vt (λi _ c=>?_);unfold l7 at c ⊢;revert c;cases S.bz.pg (i:Int)with
   |none=>exact id
   |some p=>simp only[pB,dG,A9];exact λh=>h.1
  rw[<- h.fr.all]at h1;have d:=TZ (a:=true) (l:=S.fr.bK);have e:=h.fr.fq;omega
 ·have:fx g=false:=by unfold fx;rw[Bool.and_eq_false_iff];simp;omega
  unfold cJ gU;rw[this];show(0:Int)<2147483648;decide
end Go.Kc
namespace Go.Mp
open Go Go.Vc Go.Sp Go.Proofs Go.Kc
variable{E:Env}{L:ch}{w:World}{A:At}{S:Cs}
def RQ{B:Value}{hB:Int->Bool}{o:bU}{a:Sl}{f d:Nat}(hw:Kt.WF S.tree)(G:Kc.Good S.bY)(z:a.n=o.length)(J:o.length<100000000)(D:∀(x:Int) (X:Asn) (w:World),(∃id∈o,x=(S.bz.get id).1.owner)->Sep E (cd A S++X::bE f [Sv a]::bC a 1 (bD o)::bE d [Pb A.c]::L) w->
   eX P B #[Iv x] w λe w'=>e=.returned (.bool (hB x))/\Sep E (cd A S++X::bE f [Sv a]::bC a 1 (bD o)::bE d [Pb A.c]::L) w')(h:Sep E (cd A S++bE f [Sv a]::bC a 1 (bD o)::bE d [Pb A.c]::L) w):
  Calls P Dd #[B,Pb f,Pb d] w (bW λv w'=>v=.bool (pass hB o S).2/\
   Sep E (cd A (pass hB o S).1++bE f [Sv a]::bC a 1 (bD o)::bE d [Pb A.c]::L) w'):=by
 apply XZ;unfold Mk qD qF qL qO qU qV qW qX qZ qb qc;refine⟨a,h.cellAt 16 rfl 0,?_⟩;refine⟨λx w'=>∃k:Nat,x=k/\k<=o.length/\pass hB o S=pass hB (o.drop k) S/\Sep E (cd A S++bE f [Sv a]::bC a 1 (bD o)::bE d [Pb A.c]::L) w',λx _=>(o.length-x).toNat,⟨0,rfl,ec _,rfl,h⟩,?_⟩;rintro _ _ M ⟨k,rfl,K,hp,h1⟩;refine cL (λI=>?_) (λH=>?_)
 ·have g:k<o.length:=by omega
  obtain⟨id,i⟩:∃id,o[k]?=some id:=⟨_,dD g⟩
  have s:o.drop k=id::o.drop (k+1):=by rw[ln g];rw[dD g]at i;rw[cQ i]
  have m:(((o.length:Nat):Int)-((k+1:Nat):Int)).toNat<(((o.length:Nat):Int)-(k:Int)).toNat:=by omega
  refine(Ints.at_ (q:=17) rfl z).el h1 k rfl i ?_;refine ld h1 18 rfl rfl rfl ⟨_,rfl,ld h1 0 rfl rfl rfl (use (Tp.pd id (h1.fr 11 rfl)) ?_)⟩;rintro _ w2 ⟨rfl,l⟩;have l:=l.put (q:=11) rfl;have l:Sep E (cd A S++bE f [Sv a]::bC a 1 (bD o)::bE d [Pb A.c]::L) w2:=l;obtain⟨p,j⟩:∃p,(S.bz.get id).1=p:=⟨_,rfl⟩
  rw[j];refine⟨_,_,_,_,_,_,_,_,_,_,rfl,Al.i l (λb N C=>eh (vs:=p.vs) _ C rfl (λF r=>?_))⟩;have r:Sep E (cd A S++bE b p.vs::bE f [Sv a]::bC a 1 (bD o)::bE d [Pb A.c]::L) F:=Sep.eA r;refine ld r 16 rfl rfl rfl (eX.use (D p.owner _ _ ⟨id,eu i,by rw[j]⟩ r) ?_);rintro e O ⟨rfl,t⟩;refine⟨_,rfl,cw (λn=>?_) (λc=>?_)⟩
  ·have n:hB p.owner=false:=by simpa using n
   refine ld t 19 rfl rfl rfl (use (aMq id hw G t) ?_);rintro _ Q ⟨rfl,u⟩;have y:pass hB (o.drop k) S=if(S.out id).2 then((S.out id).1,true)else pass hB (o.drop (k+1)) (S.out id).1:=by
    rw[s,pass,j,n];rfl
   refine⟨_,rfl,cw (λho=>?_) (λho=>?_)⟩
   ·rw[hp,y,bM ho];exact⟨rfl,u.cut⟩
   ·rw[c1];rw[tl ho]at u;exact⟨⟨k+1,rfl,g,by rw[hp,y,bJ (by rw[ho];decide),tl ho],u.cut⟩,m⟩
  ·have c:hB p.owner=true:=by simpa using c
   rw[c1];refine⟨⟨k+1,rfl,g,?_,t.cut⟩,m⟩;rw[hp,s,pass,j,c];rfl
 ·have:k=o.length:=by omega
  rw[this,xy]at hp;rw[hp];exact⟨rfl,h1⟩
end Go.Mp
namespace Go.Sp
open Go
variable{E:Env}{L Q:ch}{w:World}
def Sep.wK(a:ch)(h:Sep E (a++(Q++L)) w):Sep E (Q++(a++L)) w:=h.perm (by
 rw[<- dc,<- dc];exact sG _ lO)
end Go.Sp
namespace Go.Mp
open Go Go.Vc Go.Sp Go.Proofs Go.Kc
variable{E:Env}{L:ch}{w:World}{A:At}{S:Cs}
def Fv{l:List Kt.G}{g:Int}(h:Kt.dw l g=true):0<=g/\g<l.length:=by
 obtain⟨n,rfl,x,hx,_⟩:=Kt.iE.1 h;have:=(cT.1 hx).1;omega
def RR(k:Inv S){t:Int}{all:Bool}{sg:Sl}{gs:bU}(am:Ints E L sg gs)(ap:gs.length<=64)(h:Sep E (cd A S++L) w):
  Calls P yI #[Pb A.c,Iv t,Sv sg,.bool all] w (bW λv w'=>v=.bool (S.cO t gs all).2/\Sep E (cd A (S.cO t gs all).1++L) w'):=by
 have F:S.guards.length<=64:=by rw[k.gl];exact k.wf.fq
 apply atn;refine Al.i h (λf an h1=>?_);have h1:Sep E (cd A S++bE f [Pb A.c]::L) an:=Sep.eA h1;refine⟨some ⟨A.c,0,none⟩,h1.cellAt 16 rfl 0,_,rfl,ld h1 0 rfl rfl rfl (use (ke h1 (q:=1) rfl) ?_)⟩;rintro _ _ ⟨rfl,rfl⟩;refine⟨_,rfl,cw (λZ=>?_) (λaa=>?_)⟩
 ·have Z:S.live t=false:=by
   have:Kt.dw S.tree t=false:=by simpa using Z
   exact this
  have e:S.cO t gs all=(S,false):=by unfold Cs.cO;rw[bM Z]
  rw[e];exact⟨rfl,h1.cut⟩
 have aa:S.live t=true:=by
  have:Kt.dw S.tree t=true:=by simpa using aa
  exact this
 obtain⟨mn,H⟩:∃mn,S.held t eH.min=mn:=⟨_,rfl⟩
 obtain⟨lw,G⟩:∃lw,S.held t eH.low=lw:=⟨_,rfl⟩
 have ar:mn.length=S.guards.length:=by rw[<- H];exact wF _ _
 have aq:lw.length=S.guards.length:=by rw[<- G];exact wF _ _
 obtain⟨M,D⟩:∃M,M=cd A S++bE f [Pb A.c]::L:=⟨_,rfl⟩
 refine⟨λa b w'=>∃(s1 s2:Sl) (p q:Nat),a=some ⟨p,0,none⟩/\b=some ⟨q,0,none⟩/\s1.n=mn.length/\s2.n=lw.length/\
  Sep E (bC s1 1 (ea mn)::bC s2 1 (ea lw)::bE p [Sv s1]::bE q [Sv s2]::M) w',Dr.i h1 (λw2 j=>?_),?_⟩
 ·have I:∀ {R:ch} {w:World},Sep E (R++M) w->Sep E (cd A S++(bE f [Pb A.c]::L++R)) w:=by
   intro R w d;have:=d.perm lO;rw[D,dc]at this;exact this
  have s:∀ {R:ch} {w:World} {X:Asn},Sep E (cd A S++X::(bE f [Pb A.c]::L++R)) w->Sep E (X::(R++M)) w:=by
   intro R w X d;refine(Sep.mh d).perm (List.Perm.cons _ ?_);rw[<- dc,<- D];exact lO
  refine aMt (M:=M) (c:=A.c) (bx:=f) (t:=t) (mn:=mn) (lw:=lw) ?_ ?_ ?_ cr cr (by rw[D];exact j) ?_
  ·intro R w d;have:=d.right;rw[D]at this;exact this.cellAt 16 rfl 0
  ·intro R w d;refine use (Au RA k.gl F k.jF (I d)) ?_;rintro _ w' ⟨e,rfl,he,m⟩;rw[H]at he m;exact⟨_,rfl,e,rfl,he,s m⟩
  ·intro R w d;refine use (Au RB k.gl F k.jF (I d)) ?_;rintro _ w' ⟨e,rfl,he,m⟩;rw[G]at he m;exact⟨_,rfl,e,rfl,he,s m⟩
  ·intro s1 s2 p q w' aj ak d;exact⟨s1,s2,p,q,rfl,rfl,aj,ak,d⟩
 rintro _ _ _ w2 ⟨s1,s2,p,q,rfl,rfl,V,ah,j⟩;rw[D]at j;have j:=Sep.wK [bC s1 1 (ea mn),bC s2 1 (ea lw),bE p [Sv s1],bE q [Sv s2]] (Q:=cd A S) j;have j:Sep E (cd A S++bC s1 1 (ea mn)::bC s2 1 (ea lw)::bE p [Sv s1]::bE q [Sv s2]::bE f [Pb A.c]::L) w2:=j;refine⟨_,j.cellAt 20 rfl 0,_,rfl,ld j 0 rfl rfl rfl (use (Gp.aKp k.eo (am.cons.cons.cons.cons.cons.er (A:=A) (S:=S) (q:=9) bO) bA (j.fr 9 rfl)) ?_)⟩;rintro _ au ⟨i,o,rfl,W,ho,Y⟩;have ho:=ho.eq (RP k.eo gs);subst ho;have Y:=Y.g1 (q:=9) rfl;refine⟨i,rfl,Al.i Y (λB av al=>St.i al (by simp) (λao C=>?_))⟩;have C:=Sep.wK [bE B [Sv i],bC i 1 (bD (iU S.bY gs))] (Q:=cd A S) (L:=bC s1 1 (ea mn)::bC s2 1 (ea lw)::bE p [Sv s1]::bE q [Sv s2]::bE f [Pb A.c]::L) C;have C:Sep E (cd A S++bE B [Sv i]::bC i 1 (bD (iU S.bY gs))::bE f [Pb A.c]::bC s1 1 (ea mn)::bC s2 1 (ea lw)::bE p [Sv s1]::bE q [Sv s2]::L) ao:=
  C.ro 23 [0,1,2,3,4,5,6,7,8,9,10,11,12,13,14,15,16,17,22,18,19,20,21] rfl
 have hx:∀x:Int,(∃id∈iU S.bY gs,x=(S.bz.get id).1.owner)->0<=x/\x<S.guards.length:=by
  rintro x ⟨id,ag,rfl⟩;obtain⟨pg,U,_,_⟩:=k.jA ag;have ab:=k.own id pg U;have:=Fv (show Kt.dw S.tree pg.owner=true from ab);rw[k.toInv0.bH U,k.gl];exact this
 have O:(iU S.bY gs).length<100000000:=by
  have z:=RP k.eo gs;have ae:=p0 16777217 (iU S.bY gs) (nT.2 (z.ord.imp (λ{a b} af e=>by subst e;exact(Gp.Ay S.bY).ord.vm a af))) (λx hx=>by
   obtain⟨e,he,rfl,_⟩:=x8 hx;have:=(k.eo.ok e he).1;omega)
  omega
 have n:∀ {T:Cs} {w:World},Sep E (cd A T++bE B [Sv i]::bC i 1 (bD (iU S.bY gs))::bE f [Pb A.c]::bC s1 1 (ea mn)::bC s2 1 (ea lw)::bE p [Sv s1]::bE q [Sv s2]::L) w->Sep E (cd A T++L) w:=
  λd=>d.cut.cut.cut.cut.cut.cut.cut
 refine use (RQ (hB:=λg=>hg mn g||hg lw g) k.wf k.eo W O ?_ C) ?_
 ·intro x X w' J d;obtain⟨y,ai⟩:=hx x J;refine⟨JO,_,rfl,by kernel_rfl,?_⟩;refine use (K:=λv w'=>v=.bool (hg mn x||hg lw x)/\Sep E (cd A S++X::bE B [Sv i]::bC i 1 (bD (iU S.bY gs))::bE f [Pb A.c]::bC s1 1 (ea mn)::bC s2 1 (ea lw)::bE p [Sv s1]::bE q [Sv s2]::L) w')
   (X1 x ⟨p,0,none⟩ ⟨q,0,none⟩ ?_) (λv w' ⟨ad,d⟩=>⟨by rw[ad],d⟩)
  refine⟨s1,d.cellAt 22 rfl 0,wE 20 d rfl V y bA (cw (λl=>⟨by rw[l];rfl,d⟩) (λl=>⟨s2,d.cellAt 23 rfl 0,wE 21 d rfl ah y bA ⟨by rw[l];rfl,d⟩⟩))⟩
 rintro _ aw ⟨rfl,z⟩;have N:S.cO t gs all=if(pass (λg=>hg mn g||hg lw g) (iU S.bY gs) S).2 then((pass (λg=>hg mn g||hg lw g) (iU S.bY gs) S).1,true)else if all then pass (λg=>hg mn g) (iU S.bY gs) (pass (λg=>hg mn g||hg lw g) (iU S.bY gs) S).1 else((pass (λg=>hg mn g||hg lw g) (iU S.bY gs) S).1,false):=by
  unfold Cs.cO;rw[bJ (by rw[aa];decide),H,G]
 refine⟨_,rfl,cw (λl=>?_) (λl=>?_)⟩
 ·rw[N,bM l];exact⟨rfl,n z⟩
 have u:=tm _ l;rw[N,bJ (by rw[l];decide),u];rw[u]at z;refine cw (λr=>?_) (λr=>?_)
 ·rw[bM r];refine use (RQ (hB:=λg=>hg mn g) k.wf k.eo W O ?_ z) ?_
  ·intro x X w' J d;obtain⟨y,ai⟩:=hx x J;refine⟨JP,_,rfl,by kernel_rfl,?_⟩;refine use (K:=λv w'=>v=.bool (hg mn x)/\Sep E (cd A S++X::bE B [Sv i]::bC i 1 (bD (iU S.bY gs))::bE f [Pb A.c]::bC s1 1 (ea mn)::bC s2 1 (ea lw)::bE p [Sv s1]::bE q [Sv s2]::L) w')
    (X2 x ⟨p,0,none⟩ ?_) (λv w' ⟨ad,d⟩=>⟨by rw[ad],d⟩)
   exact⟨s1,d.cellAt 22 rfl 0,wE 20 d rfl V y bA ⟨rfl,d⟩⟩
  rintro _ ax ⟨rfl,ae⟩;exact⟨_,rfl,rfl,n ae⟩
 ·rw[bJ (by rw[r];decide)];exact⟨rfl,n z⟩
end Go.Mp
namespace Go.Kc
open Go Go.Kt
def Az{l:List G}(hw:WF l)(g:Int):(hT l g).length<=64:=by
 unfold hT n2;have:=hw.fq;split
 ·rw[eb];exact mD (lp _ _) (by rw[G3];exact this)
 ·exact ec _
def aL2{p:Nat->Prop}(h:∃n,p n):∃n,p n/\∀m,p m->n<=m:=by
 obtain⟨n,b⟩:=h;induction n using Nat.strongRecOn with
 |_ n c=>
  by_cases h:∃m,m<n/\p m;·obtain⟨m,hm,hp⟩:=h;exact c m hm hp
  ·exact⟨n,b,λm hm=>T7 (λa=>h ⟨m,a,hm⟩)⟩
variable{S:Cs}
def aGz(h:Inv S){g:Int}(b:S.live g=true)(c:(df S.fr.used (S.chain g) 1).2.2=0):(fJ (df S.fr.used (S.chain g) 1).1 (S.chain g) 1).1=S.fr.used:=by
 have a:=l5 h.wf b;have d:=tj h.wf b (n:=1) ⟨bO,bO⟩;obtain⟨_,he,_⟩:=th c;rw[he];show(fJ (dt S.fr.used (c8 S.tree g) 1) (c8 S.tree g) 1).1=_;rw[rD d (λx hx=>?_)];·exact IA h.fr.used.len a.1 a.2.1 1
 ·rw[oc h.fr.used.len a.1 a.2.1,bM hx];have:=(h.fr.used.of x).1.1;unfold cJ;omega
end Go.Kc
namespace Go.Mp
open Go Go.Vc Go.Sp Go.Proofs Go.Kc
variable{E:Env}{L:ch}{w:World}{A:At}{S:Cs}
def RS(a:Inv S){t:Int}(h:Sep E (cd A S++L) w):Calls P tG #[Pb A.c,Iv t] w (bW λv w'=>v=.bool (S.cW t).2/\Sep E (cd A (S.cW t).1++L) w'):=by
 apply Xc;unfold LD qF qJ qZ;refine⟨_,rfl,ld h 0 rfl rfl rfl (use (v8 a.wf (h.fr 1 rfl)) ?_)⟩;rintro _ d ⟨s,rfl,c,h1⟩;have h1:=h1.g1 (q:=1) rfl;have h1:Sep E (cd A S++bC s 1 (bD (Kt.hT S.tree t))::L) d:=Sep.eA (Q:=cd A S) h1;refine⟨s,rfl,use (RR a (t:=t) (all:=true) (Ints.row c) (Az a.wf t) h1) ?_⟩;rintro _ w2 ⟨rfl,b⟩;exact⟨_,rfl,rfl,b.cut⟩
def nM(c:cg)(r:Sl)(K:bh7)(again:bh6)(w:World):Prop:=
  NN c λa35=>∃h:cg,w.cell? ((a35.add 1).add 2)=some (.pointer h)/\Calls P vJ #[(.pointer h),(Sv r),(.int
   .i64 1)] w λs d=>∃i:Int,∃j:Int,s=.returned (.tuple #[(Iv i),(Iv j)])/\∃b:Int->bh6,(bif(j==0)then(NN
   c λp=>∃k:cg,d.cell? ((p.add 1).add 0)=some (.pointer k)/\Calls P tK #[(.pointer k)] d λt e=>∃l:Int,∃
   m:Int,t=.returned (.tuple #[(Iv l),(Iv m)])/\bif(m==0)then(K (.tuple #[(Iv l),(Iv (-1)),(Iv 0)]) e)else
   (NN c λq=>∃n:cg,e.cell? ((q.add 1).add 2)=some (.pointer n)/\Calls P tE #[(.pointer n),(Sv r),
   (Iv 1)] e λu x=>∃y:Int,u=.returned (Iv y)/\b 0 x))else(b i d))/\(∀z:Nat->Value,∀a:Int,∀f:
   World,b a f->Calls P tG #[(.pointer c),(Iv a)] f λv g=>∃o:Bool,v=.returned (.bool o)/\bif o then
   (again g)else(K (.tuple #[(Iv (-1)),(Iv a),(Iv 12)]) g))
def RU{g:Int}{m:Nat}{b:Sl}{K:bh7}{again:bh6}(p:Inv S)(z:S.live g=true)(y:b.n=(S.chain g).length)(h:Sep E (cd A S++bC b 1 (bD (S.chain g))::L) w)(k:∀w',Sep E (cd A (take g (m+1) S).1++bC b 1 (bD (S.chain g))::L) w'->K (.tuple #[Iv (take g (m+1) S).2.1,Iv (take g (m+1) S).2.2.1,Iv (take g (m+1) S).2.2.2]) w')(D:∀S' w',Kc.Inv S'->S'.tree=S.tree->S'.bY.length<S.bY.length->take g (m+1) S=take g m S'->Sep E (cd A S'++bC b 1 (bD (S.chain g))::L) w'->again w'):
  nM (some ⟨A.c,0,none⟩) b K again w:=by
 have H:(S.chain g).length<=64:=p4 p.wf _;have u:Ints E (bC b 1 (bD (S.chain g))::L) b (S.chain g):=Ints.row y;refine⟨_,rfl,ld h 0 rfl rfl rfl (use (Q1 (u.er (A:=A) (S:=S) (q:=4) bO) bA 1 (h.fr 4 rfl)) ?_)⟩;rintro _ C ⟨rfl,h1⟩;have h1:=h1.put (q:=4) rfl;have l:∀(a:Int),take g (m+1) S=(if(S.cW a).2 then take g m (S.cW a).1 else((S.cW a).1, -1,a,12))->∀w',Sep E (cd A S++bC b 1 (bD (S.chain g))::L) w'->
   Calls P tG #[Pb A.c,Iv a] w' λe i=>∃x:Bool,e=.returned (.bool x)/\bif x then again i else K (.tuple #[Iv (-1),Iv a,Iv 12]) i:=by
  intro a he w' h';refine use (RS p (t:=a) h') ?_;rintro _ i ⟨rfl,r⟩;refine⟨_,rfl,cw (λo=>?_) (λo=>?_)⟩
  ·rw[bM o]at he;have ho:et S (S.cW a).1:=et.cO p a _ _;have F:=ho.kept p;exact D _ _ (p.cW a) F.tree (Iy p o) he r
  ·rw[bJ (by rw[o];decide)]at he;rw[he]at k;exact k _ r
 refine⟨_,_,rfl,λa w'=>take g (m+1) S=(if(S.cW a).2 then take g m (S.cW a).1 else((S.cW a).1, -1,a,12))/\Sep E (cd A S++bC b 1 (bD (S.chain g))::L) w',eD (λf=>?_) (λf=>?_),λ_ a w' ⟨he,h'⟩=>l a he w' h'⟩
 ·have h1:Sep E (cd A {S with fr:={S.fr with used:=(df S.fr.used (S.chain g) 1).1}} ++bC b 1 (bD (S.chain g))::L) C:=h1;refine⟨_,rfl,ld h1 0 rfl rfl rfl (use (Rr (q:=14) rfl (h1.fr 2 rfl)) ?_)⟩;rintro _ w2 ⟨rfl,d⟩;have d:=d.put (q:=2) rfl;refine⟨_,_,rfl,eD (λj=>?_) (λj=>?_)⟩
  ·have s:take g (m+1) S=({S with fr:={S.fr with bK:=(fQ S.fr.bK).1,used:=(df S.fr.used (S.chain g) 1).1}},(fQ S.fr.bK).2.1, -1,0):=by
    unfold take;dsimp only;rw[bM f,bM j]
   rw[s]at k;refine k _ ?_;have c:Sep E ((cd A {S with fr:={S.fr with used:=(df S.fr.used (S.chain g) 1).1}} ++bC b 1 (bD (S.chain g))::L).set 2 (fY A.fp (fQ S.fr.bK).1)) w2:=d;unfold cd;simp only;rw[BQ];exact c
  ·have B:=(B3 j).2;have d:Sep E (cd A {S with fr:={S.fr with bK:=(fQ S.fr.bK).1,used:=(df S.fr.used (S.chain g) 1).1}} ++bC b 1 (bD (S.chain g))::L) w2:=by
    have c:Sep E ((cd A {S with fr:={S.fr with used:=(df S.fr.used (S.chain g) 1).1}} ++bC b 1 (bD (S.chain g))::L).set 2 (fY A.fp (fQ S.fr.bK).1)) w2:=d;unfold cd;simp only;rw[BQ];exact c
   rw[B]at d;refine⟨_,rfl,ld d 0 rfl rfl rfl (use (Aj (u.er (A:=A) (q:=4) bO) bA 1 (d.fr 4 rfl)) ?_)⟩;rintro _ G ⟨rfl,c⟩;have c:=c.put (q:=4) rfl;have v:=aGz p z f;have c:Sep E (cd A {S with fr:={S.fr with used:=(fJ (df S.fr.used (S.chain g) 1).1 (S.chain g) 1).1}} ++bC b 1 (bD (S.chain g))::L) G:=c;rw[v]at c;refine⟨_,rfl,?_,c⟩
   conv=>lhs;unfold take
   dsimp only;rw[bM f,bJ j,v]
 ·obtain⟨x,hx,he,_⟩:=ti (tj p.wf z (n:=1) ⟨bO,bO⟩) f;have h1:Sep E (cd A {S with fr:={S.fr with used:=(df S.fr.used (S.chain g) 1).1}} ++bC b 1 (bD (S.chain g))::L) C:=h1;have he:df S.fr.used (S.chain g) 1=(S.fr.used,x,22):=he;have s:take g (m+1) S=(if(S.cW (df S.fr.used (S.chain g) 1).2.1).2 then take g m (S.cW (df S.fr.used (S.chain g) 1).2.1).1 else((S.cW (df S.fr.used (S.chain g) 1).2.1).1, -1,(df S.fr.used (S.chain g) 1).2.1,12)):=by
   conv=>lhs;unfold take
   dsimp only;rw[bJ f]
  refine⟨s,?_⟩;rw[he]at h1;exact h1
def RV{g:Int}(G:Inv S)(t:S.live g=true)(h:Sep E (cd A S++L) w):Calls P DB #[Pb A.c,Iv g] w
    (bW λv w'=>v=.tuple #[Iv (S.take g).2.1,Iv (S.take g).2.2.1,Iv (S.take g).2.2.2]/\Sep E (cd A (S.take g).1++L) w'):=by
  apply YG;generalize p:(λ(v:Value) (w':World)=>v=.tuple #[Iv (S.take g).2.1,Iv (S.take g).2.2.1,Iv (S.take g).2.2.2]/\Sep E (cd A (S.take g).1++L) w')=K;unfold MX q9 qF qJ qQ qZ qj;let c:Sl->World->Nat->Prop:=λa w' n=>∃T m,T.bY.length=n/\Kc.Inv T/\T.tree=S.tree/\n<=m/\S.take g=take g (m+1) T/\a.n=(S.chain g).length/\Sep E (cd A T++bC a 1 (bD (S.chain g))::L) w';have z:∃M2:Sl->World->Nat,∀a w',(∃n,c a w' n)->c a w' (M2 a w')/\∀k,c a w' k->M2 a w'<=k:=by
    refine⟨λa w'=>Classical.epsilon λn=>c a w' n/\∀k,c a w' k->n<=k,λa w' hx=>?_⟩;exact Classical.epsilon_spec (aL2 hx)
  obtain⟨M2,f⟩:=z;refine⟨λa w'=>∃n,c a w' n,M2,⟨_,rfl,ld h 0 rfl rfl rfl (use (rW G.wf (h.fr 1 rfl)) ?_)⟩,?_⟩
  · rintro _ y ⟨a,rfl,b,h1⟩
    have h1:=h1.g1 (q:=1) rfl;have h1:Sep E (cd A S++bC a 1 (bD (S.chain g))::L) y:=Sep.eA (Q:=cd A S) h1;have key:nM (some ⟨A.c,0,none⟩) a K (λw'=>∃n,c a w' n) y:=by
      refine RU (m:=S.bY.length) G t b h1 (λw' h'=>by rw[<- p];exact⟨rfl,h'.cut⟩) (λT w' j e C he h'=>?_);cases hm:S.bY.length with
      |zero=>omega
      |succ m=>exact⟨T.bY.length,T,m,rfl,j,e,bA,by rw[hm]at he;exact(show S.take g=take g (S.bY.length+1) S from rfl).trans (by rw[hm];exact he),b,h'⟩
    exact⟨a,rfl,key⟩
  · intro _ a l B
    obtain⟨⟨T,m,I,j,e,H,he,b,o⟩,D⟩:=f a l B;have u:T.live g=true:=by unfold Cs.live;rw[e];exact t
    have s:T.chain g=S.chain g:=by unfold Cs.chain;rw[e]
    rw[<- s]at o b;have key:nM (some ⟨A.c,0,none⟩) a K (λw'=>(∃n,c a w' n)/\M2 a w'<M2 a l) l:=by
     refine RU (m:=m) j u b o (λw' h'=>?_) (λT' w' r x C i h'=>?_);· rw[<- p,he];exact⟨rfl,h'.cut⟩
     · rw[s]at h' b
       cases hm:m with
       |zero=>omega
       |succ F=>
         rw[hm]at i;have d:c a w' T'.bY.length:=⟨T',F,rfl,r,x.trans e,bA,by rw[he,hm,i],b,h'⟩
         have:=(f a w' ⟨_,d⟩).2 _ d;exact⟨⟨_,d⟩,bA⟩
    exact key
end Go.Mp
namespace Go.Kc
open Go Go.Kt
variable{S:Cs}
def RW(h:Inv S){g:Int}(d:S.live g=true):ha (S.take g).1.bz/\Good (S.take g).1.bY/\(S.take g).1.tree=S.tree:=by
 rcases Cs.fM h d with⟨S0,a,k⟩|⟨S0,t,k⟩
 ·have b:=k.outs.inv h;have c:=k.outs.kept h;rw[k.eq];exact⟨b.ct,b.eo,c.tree⟩
 ·have b:=k.outs.inv h;have c:=k.outs.kept h;rw[k.eq];exact⟨b.ct,b.eo,c.tree⟩
def ha.fresh{T:TS}(h:ha T):T.pg T.next=none:=by
 cases hp:T.pg T.next with
 |none=>rfl
 |some p=>have:=(h.ids _ _ hp).2;omega
end Go.Kc
namespace Go.Mp
open Go Go.Vc Go.Sp Go.Proofs Go.Kc
variable{E:Env}{L:ch}{w:World}{A:At}{S:Cs}
def RX{g:Int}(i:Kc.Inv S)(b:S.live g=true)(t:List UInt8)(h:Sep E (cd A S++L) w):Calls P Dl #[Pb A.c,Iv g,hl t] w
  (bW λv w'=>v=.tuple #[Iv (S.cN g t).2.1,Iv (S.cN g t).2.2.1,Iv (S.cN g t).2.2.2]/\Sep E (cd A (S.cN g t).1++L) w'):=by
 apply X9;unfold Mt qE qZ qj zX;refine use (RV i b h) ?_;rintro _ j ⟨rfl,h1⟩;obtain⟨f,d,_⟩:=RW i b;refine⟨_,_,_,rfl,gV (λhf=>?_) (λhe=>?_)⟩
 ·have e:S.cN g t=((S.take g).1, -1,(S.take g).2.2.1,(S.take g).2.2.2):=by unfold Cs.cN;dsimp only;rw[bM hf]
  rw[e];exact⟨rfl,h1⟩
 ·have e:S.cN g t=(({(S.take g).1 with bz:=((S.take g).1.bz.make (-1) 0 g).1} :Cs).place ((S.take g).1.bz.make (-1) 0 g).2.1 (S.take g).2.1 g t false,((S.take g).1.bz.make (-1) 0 g).2.1, -1,0):=by
   unfold Cs.cN;dsimp only;rw[cM]
  rw[e];refine⟨_,rfl,ld h1 0 rfl rfl rfl (use (Tp.Ak (-1) 0 g f.fresh (h1.fr 11 rfl)) ?_)⟩;rintro _ w2 ⟨rfl,a⟩;have a:=a.put (q:=11) rfl;have a:Sep E (cd A {(S.take g).1 with bz:=((S.take g).1.bz.make (-1) 0 g).1} ++L) w2:=a;refine⟨_,_,rfl,use (Rw _ _ g t false (by exact d) a) ?_⟩;rintro _ k ⟨rfl,c⟩;exact⟨rfl,rfl,c⟩
def aHP:g9 P tx=some (1,1,[.int .u8 0]):=by kernel_rfl
def aLA{id g:Int}(t:Kc.Inv S)(h:Sep E (cd A S++L) w):Calls P JB #[Pb A.c,Iv id,Iv g] w
  (bW λv w'=>v=.tuple #[Iv (S.copy id g).2.1,Iv (S.copy id g).2.2.1,Iv (S.copy id g).2.2.2]/\Sep E (cd A (S.copy id g).1++L) w'):=by
 apply Xj;unfold LM qF qL qU qV qX qY qZ qg zJ zX;refine⟨_,rfl,ld h 0 rfl rfl rfl (use (Tp.pd id (h.fr 11 rfl)) ?_)⟩;rintro _ r ⟨rfl,h1⟩;have h1:Sep E (cd A S++L) r:=h1.put (q:=11) rfl;obtain⟨p,hp⟩:∃p,S.bz.get id=p:=⟨_,rfl⟩
 rw[hp];refine⟨_,_,_,_,_,_,_,_,_,_,rfl,Al.i h1 (λb w2 l=>eh (vs:=p.1.vs) _ l rfl (λs c=>?_))⟩;have c:Sep E (cd A S++bE b p.1.vs::L) s:=Sep.eA c;have d:(p.2≠0\/S.live g=false\/p.1.place=0)->S.copy id g=(S, -1, -1,2):=by
  intro o;unfold Cs.copy;rw[hp];dsimp only;rw[bM o]
 refine⟨λw'=>p.2=0/\S.live g=true/\p.1.place≠0/\Sep E (cd A S++bE b p.1.vs::L) w',gV (λhf=>?_) (λhe=>?_),?_⟩;·rw[d (.inl hf)];exact⟨rfl,c.cut⟩
 ·refine⟨_,rfl,ld c 0 rfl rfl rfl (use (ke c (q:=1) rfl) ?_)⟩;rintro _ _ ⟨rfl,rfl⟩;refine⟨_,rfl,cw (λi=>?_) (λa=>?_)⟩
  ·have i:Kt.dw S.tree g=false:=by simpa using i
   rw[d (.inr (.inl i))];exact⟨rfl,c.cut⟩
  ·have a:Kt.dw S.tree g=true:=by simpa using a
   refine ld c 16 rfl rfl rfl (eD (λf=>?_) (λf=>⟨bA,a,f,c⟩));rw[d (.inr (.inr f))];exact⟨rfl,c.cut⟩
 ·rintro _ u ⟨he,a,k,j⟩
  iterate 9 refine ld j 16 rfl rfl rfl ?_
  refine use (As p.1 j) ?_;rintro _ x ⟨rfl,m⟩;have e:S.copy id g=S.cN g (S.text p.1):=by
   unfold Cs.copy;rw[hp];dsimp only;rw[bJ (by rw[a];simp[he,k])]
  rw[e];refine⟨_,rfl,use (RX t a _ m) ?_⟩;rintro _ y ⟨rfl,n⟩;exact⟨_,_,_,rfl,rfl,n.cut⟩
def RY{m:Nat}{f:Int->Option Int}{id:Int}{q:Nat}(h:Sep E L w)(a:L[q]?=some (nL m f)):gk P Cj (.map (some m)) (Iv id) false w (.int .u64 ((f id).getD 0)):=by
 obtain⟨b,h1⟩:=Sep.cC.1 (h.fr q a);have:=gk.i false 0 h1 rfl Tp.mg Ru id;simp only at this;cases hf:f id with
 |none=>rw[hf]at this;exact this
 |some x=>rw[hf]at this;exact this
def aKY{m:Nat}{f:Int->Option Int}{q:Nat}(h:Sep E L w)(b:L[q]?=some (nL m f))(id:Int):0<=(f id).getD 0/\(f id).getD 0<18446744073709551616:=by
 obtain⟨a,_⟩:=Sep.cC.1 (h.fr q b);cases hf:f id with
 |none=>exact⟨by simp,by simp⟩
 |some x=>exact a id x hf
def aI7{T:TS}{id:Int}(h:(T.get id).2=0):T.pg id=some (T.get id).1:=by
 unfold TS.get at h ⊢;cases hp:T.pg id with
 |none=>rw[hp]at h;exact absurd h (by simp)
 |some p=>rfl
def RZ{id g:Int}(I:Kc.Inv S)(h:Sep E (cd A S++L) w):Calls P Di #[Pb A.c,Iv id,Iv g] w
  (bW λv w'=>v=.tuple #[Iv (S.cb id g).2.1,Iv (S.cb id g).2.2]/\Sep E (cd A (S.cb id g).1++L) w'):=by
 apply X4;unfold Mn q9 qE qF qG qJ qL qM qP qQ qU qV qX qY qZ qg qh zH zJ zS zX;refine⟨_,rfl,ld h 0 rfl rfl rfl (use (Tp.pd id (h.fr 11 rfl)) ?_)⟩;rintro _ aj ⟨rfl,h1⟩;have h1:Sep E (cd A S++L) aj:=h1.put (q:=11) rfl;obtain⟨p,hp⟩:∃p,S.bz.get id=p:=⟨_,rfl⟩
 have z:p.2=0->S.bz.pg id=some p.1:=λK=>by rw[<- hp]at K ⊢;exact aI7 K
 rw[hp];refine⟨_,_,_,_,_,_,_,_,_,_,rfl,Al.i h1 (λb w2 ae=>eh (vs:=p.1.vs) _ ae rfl (λak f=>?_))⟩;have f:Sep E (cd A S++bE b p.1.vs::L) ak:=Sep.eA f;let bad:Prop:=p.2≠0\/S.live g=false\/(p.1.place=0/\p.1.kf<0);refine ld f 16 rfl rfl rfl ⟨λo w'=>o=(if p.1.place=0 then g else p.1.owner)/\¬ bad/\p.1.place≠1/\Sep E (cd A S++bE b p.1.vs::L) w',
  ⟨λx w'=>(x=true↔bad)/\Sep E (cd A S++bE b p.1.vs::L) w',gV (λhf=>⟨⟨λ_=>.inl hf,λ_=>rfl⟩,f⟩) (λhe=>?_),?_⟩,?_⟩
 ·refine⟨_,rfl,ld f 0 rfl rfl rfl (use (ke f (q:=1) rfl) ?_)⟩;rintro _ _ ⟨rfl,rfl⟩;refine⟨_,rfl,cw (λa=>?_) (λt=>?_)⟩
  ·have a:Kt.dw S.tree g=false:=by simpa using a
   exact⟨⟨λ_=>.inr (.inl a),λ_=>rfl⟩,f⟩
  ·have t:Kt.dw S.tree g=true:=by simpa using t
   have u:¬ S.live g=false:=by rw[show S.live g=true from t];decide
   refine ld f 16 rfl rfl rfl (eD (λr=>ld f 16 rfl rfl rfl ⟨⟨λa=>.inr (.inr ⟨r,by simpa using a⟩),λa=>?_⟩,f⟩) (λr=>⟨⟨λa=>(by cases a),λa=>?_⟩,f⟩))
   ·rcases a with a|a|a;·exact absurd he a
    ·exact absurd a u
    ·simpa using a.2
   ·rcases a with a|a|a;·exact absurd he a
    ·exact absurd a u
    ·exact absurd a.1 r
 ·rintro _ x al ⟨hx,k⟩;refine cw (λW=>?_) (λV=>?_)
  ·have j:=hx.1 W;have e:S.cb id g=(S, -1,2):=by unfold Cs.cb;rw[hp];dsimp only;rw[bM j]
   rw[e];exact⟨rfl,k.cut⟩
  ·have j:¬ bad:=λG=>by have:=hx.2 G;rw[V]at this;cases this
   refine ld k 16 rfl rfl rfl (eD (λab=>?_) (λy=>ld k 16 rfl rfl rfl (eD (λr=>⟨(bM r).symm,j,y,k⟩) (λah=>⟨(bJ ah).symm,j,y,k⟩))));refine⟨_,rfl,ld k 0 rfl rfl rfl (use (Gp.Fe I.eo id (k.fr 9 rfl)) ?_)⟩;rintro _ Z ⟨rfl,i⟩;have i:=i.put (q:=9) rfl;have i:Sep E (cd A {S with bY:=(j7 S.bY id).1} ++bE b p.1.vs::L) Z:=i;have e:S.cb id g=({S with bY:=(j7 S.bY id).1}, -1,0):=by unfold Cs.cb;rw[hp];dsimp only;rw[bJ j,bM ab]
   rw[e];exact⟨_,rfl,rfl,i.cut⟩
 rintro _ o al ⟨ho,j,y,k⟩;have B:S.live o=true:=by
  rw[ho];split
  ·cases ag:S.live g with
   |true=>rfl
   |false=>exact absurd (.inr (.inl ag)) j
  ·have:p.2=0:=AV λG=>j (.inl G);exact I.own id p.1 (z this)
 refine use (RV I B k) ?_;rintro _ Z ⟨rfl,i⟩;obtain⟨H,N,C⟩:=RW I B;obtain⟨T,F⟩:∃T,S.take o=T:=⟨_,rfl⟩
 rw[F]at i H N C ⊢;have O:Kt.WF T.1.tree:=by rw[C];exact I.wf
 refine⟨_,_,_,rfl,gV (λhf=>?_) (λhe=>?_)⟩
 ·have e:S.cb id g=(T.1,T.2.2.1,T.2.2.2):=by unfold Cs.cb;rw[hp];dsimp only;rw[bJ j,bJ y,<- ho,F,bM hf]
  rw[e];exact⟨rfl,i.cut⟩
 iterate 9 refine ld i 16 rfl rfl rfl ?_
 refine use (As p.1 i) ?_;rintro _ aq ⟨rfl,D⟩;obtain⟨d,n⟩:∃d,d=if p.1.place=2 then {T.1 with sl:=T.1.sl.di p.1.at_ (T.1.chain o)} else T.1:=⟨_,rfl⟩
 have U:d.bY=T.1.bY:=by rw[n];split<;>rfl
 refine⟨_,rfl,λw'=>Sep E (cd A d++bE b p.1.vs::L) w',ld D 16 rfl rfl rfl (eD (λad=>?_) (λai=>by rw[n,bJ ai];exact D)),?_⟩
 ·refine Dr.i D (λam l=>⟨_,rfl,ld l 0 rfl rfl rfl (ld l 0 rfl rfl rfl (ld l 0 rfl rfl rfl (ld l 16 rfl rfl rfl ⟨_,rfl,ld l 0 rfl rfl rfl (use (rW O (l.fr 1 rfl)) ?_)⟩)))⟩);rintro _ aa ⟨J,rfl,R,c⟩;have c:=c.g1 (q:=1) rfl;have c:Sep E (cd A T.1++bC J 1 (bD (T.1.chain o))::bE b p.1.vs::L) aa:=Sep.eA (Q:=cd A T.1) c;refine⟨J,rfl,ld c 17 rfl rfl rfl ⟨rfl,ld c 0 rfl rfl rfl (ld c 0 rfl rfl rfl (ld c 0 rfl rfl rfl ⟨rfl,use (Rt p.1.at_ (Ints.row R) (p4 O _) c) ?_⟩))⟩⟩;rintro _ an ⟨rfl,m⟩;rw[n,bM ad];exact⟨rfl,m.cut⟩
 intro _ am l;have e:S.cb id g=(d.place id T.2.1 o (T.1.text p.1) (!(l2 d.log ((d.kept id).getD 0) (d.memory o))), -1,0):=by
  rw[n];unfold Cs.cb;rw[hp];dsimp only;rw[bJ j,bJ y,<- ho,F,cM]
 rw[e];refine Dr.i l (λaa c=>⟨_,rfl,ld c 0 rfl rfl rfl ⟨_,rfl,ld c 0 rfl rfl rfl ⟨_,RY c (q:=12) rfl,use (uq o c) ?_⟩⟩⟩);rintro _ an ⟨rfl,m⟩;obtain⟨k0,ap⟩:=aKY m (q:=12) rfl id;obtain⟨X,af⟩:∃X:Nat,(d.kept id).getD 0=X:=⟨((d.kept id).getD 0).toNat,bA⟩
 refine⟨_,rfl,_,RY m (q:=12) rfl,rfl,ld m 0 rfl rfl rfl ⟨rfl,ld m 0 rfl rfl rfl ⟨rfl,?_⟩⟩⟩;rw[af];refine use (aLz (m.fr 10 rfl) bA o _) ?_;rintro _ Y ⟨rfl,s⟩;have s:Sep E (cd A d++bE b p.1.vs::L) Y:=s.put (q:=10) rfl;refine⟨_,rfl,use (Rw id T.2.1 o (T.1.text p.1) _ (by rw[U];exact N) s) ?_⟩;rintro _ ao ⟨rfl,M⟩;exact⟨rfl,rfl,M.cut⟩
end Go.Mp
namespace Go.Kc
open Go Go.Kt
variable{S:Cs}
def aJg(h:Inv S)(i:S.bz.next<16777216){k:Int×Int}{g:Int}(l:S.live g=true)(hf:ed S.files k=true)(hm:S.bz.of k<0):Inv {S with bz:=(S.bz.make k.1 k.2 g).1} :=by
 obtain⟨kf,ki⟩:=k;have d:=rJ hf;have f:=oe S.bz (kf:=kf) (ki:=ki) (o:=g) ⟨h.ct.next,i⟩ (.inr hm);have j:=h.toInv0.make i (kf:=kf) (ki:=ki) l (.inr ⟨hm,hf⟩);have e:fX S.bz kf ki=(kf,ki):=by unfold fX;rw[bJ (by have:0<=kf:=d;omega)]
 have b:∀x p,(S.bz.make kf ki g).1.pg x=some p->p.kf<0->p.place≠0:=by
  intro x q c a;rw[f.2.2]at c;split at c
  ·rw[<- cQ c,e]at a;have:kf<0:=a;have:0<=kf:=d;omega
  ·exact h.anon _ _ c a
 exact⟨j,b⟩
def R0{F:FS}{k:Int×Int}:(s3 F k).2≠0↔ed F k=false:=by
 unfold s3;by_cases h:ed F k=false;·rw[bM h];simp[h]
 ·rw[bJ h];split<;>simp[h]
end Go.Kc
namespace Go.Mp
open Go Go.Vc Go.Sp Go.Proofs Go.Kc
variable{E:Env}{L:ch}{w:World}{A:At}{S:Cs}
def aLF{k:Int×Int}{g:Int}(x:Kc.Inv S)(D:S.bz.next<16777216)(h:Sep E (cd A S++L) w):Calls P Jx #[Pb A.c,.agg #[Iv k.1,Iv k.2],Iv g] w
  (bW λv w'=>v=.tuple #[Iv (S.cD k g).2.1,Iv (S.cD k g).2.2.1,Iv (S.cD k g).2.2.2]/\Sep E (cd A (S.cD k g).1++L) w'):=by
 apply Xf;unfold LH q9 qF qQ qZ qg qj zQ zZ;refine Al.i h (λb F h1=>?_);have h1:Sep E (cd A S++bE b [Iv k.1,Iv k.2]::L) F:=Sep.eA h1;have r:(ed S.files k=false\/S.live g=false)->S.cD k g=(S, -1, -1,2):=by
  intro B;unfold Cs.cD;rw[bM B]
 refine⟨λw'=>ed S.files k=true/\S.live g=true/\Sep E (cd A S++bE b [Iv k.1,Iv k.2]::L) w',Dr.i h1 (λw2 l=>⟨_,rfl,ld l 0 rfl rfl rfl (ld l 16 rfl rfl rfl (ld l 16 rfl rfl rfl (use (PC k (l.fr 8 rfl)) ?_)))⟩),?_⟩
 ·rintro _ u ⟨rfl,c⟩;have c:=c.put (q:=8) rfl;have c:Sep E (cd A S++bE b [Iv k.1,Iv k.2]::L) u:=c;refine⟨_,_,rfl,gV (λhf=>?_) (λhe=>?_)⟩;·rw[r (.inl (R0.1 hf))];exact⟨rfl,c.cut⟩
  ·have j:ed S.files k=true:=by
    cases C:ed S.files k with
    |true=>rfl
    |false=>exact absurd he (R0.2 C)
   refine⟨_,rfl,ld c 0 rfl rfl rfl (use (ke c (q:=1) rfl) ?_)⟩;rintro _ _ ⟨rfl,rfl⟩;refine⟨_,rfl,cw (λs=>?_) (λd=>?_)⟩
   ·have s:Kt.dw S.tree g=false:=by simpa using s
    rw[r (.inr s)];exact⟨rfl,c.cut⟩
   ·have d:Kt.dw S.tree g=true:=by simpa using d
    exact⟨j,d,c⟩
 rintro _ w2 ⟨j,d,l⟩;refine Dr.i l (λu c=>⟨_,rfl,ld c 0 rfl rfl rfl (ld c 16 rfl rfl rfl (ld c 16 rfl rfl rfl (use (Tp.wz k (c.fr 11 rfl)) ?_)))⟩);rintro _ G ⟨rfl,m⟩;have m:=m.put (q:=11) rfl;have m:Sep E (cd A S++bE b [Iv k.1,Iv k.2]::L) G:=m;obtain⟨a,i⟩:∃a,a=if S.bz.of k<0 then {S with bz:=(S.bz.make k.1 k.2 g).1} else S:=⟨_,rfl⟩
 obtain⟨i1,p⟩:∃i1,i1=if S.bz.of k<0 then(S.bz.make k.1 k.2 g).2.1 else S.bz.of k:=⟨_,rfl⟩
 have y:Kc.Inv a:=by
  rw[i];split;·next hm=>exact aJg x D d j hm
  ·exact x
 have e:S.cD k g=if(a.cb i1 g).2.2=0 then((a.cb i1 g).1,i1, -1,0)else if S.bz.of k<0 then({(a.cb i1 g).1 with bz:=((a.cb i1 g).1.bz.drop i1).1}, -1,(a.cb i1 g).2.1,(a.cb i1 g).2.2)else((a.cb i1 g).1, -1,(a.cb i1 g).2.1,(a.cb i1 g).2.2):=by
  rw[i,p];unfold Cs.cD;rw[bJ (by rw[j,d];simp)];by_cases hm:S.bz.of k<0;·simp only[hm,decide_true,fP]
  ·simp only[hm,decide_false,gq,kK]
 refine⟨_,rfl,λid w'=>id=i1/\Sep E (cd A a++bE b [Iv k.1,Iv k.2]::L) w',cL (λhm=>?_) (λhm=>⟨by rw[p,cM],by rw[i,cM];exact m⟩),?_⟩
 ·refine Dr.i m (λH n=>⟨_,rfl,ld n 0 rfl rfl rfl (ld n 16 rfl rfl rfl (ld n 16 rfl rfl rfl (use (Tp.Ak k.1 k.2 g x.ct.fresh (n.fr 11 rfl)) ?_)))⟩);rintro _ I ⟨rfl,f⟩;have f:=f.put (q:=11) rfl;exact⟨_,_,rfl,by rw[p,bM hm],by rw[i,bM hm];exact f⟩
 rintro _ id H ⟨rfl,n⟩;refine use (RZ y n) ?_;rintro _ I ⟨rfl,f⟩;rw[e];refine⟨_,_,rfl,eD (λz=>?_) (λt=>cL (λhm=>?_) (λhm=>?_))⟩;·rw[bM z];exact⟨rfl,f.cut⟩
 ·rw[bJ t,bM hm];refine⟨_,rfl,ld f 0 rfl rfl rfl (use (Tp.wA id (f.fr 11 rfl)) ?_)⟩;rintro _ J ⟨rfl,o⟩;have o:=o.put (q:=11) rfl;have o:Sep E (cd A {(a.cb id g).1 with bz:=((a.cb id g).1.bz.drop id).1} ++bE b [Iv k.1,Iv k.2]::L) J:=o;exact⟨_,rfl,rfl,o.cut⟩
 ·rw[bJ t,cM];exact⟨rfl,f.cut⟩
def pd{id at_:Int}(g:Kc.Inv S)(h:Sep E (cd A S++L) w):Calls P Je #[Pb A.c,Iv id,Iv at_] w
  (bW λv w'=>v=.tuple #[.int .u8 (S.get id at_).2.1,Iv (S.get id at_).2.2]/\Sep E (cd A (S.get id at_).1++L) w'):=by
 apply WH;unfold Lm qQ qZ qo qp;refine use (Rv id h) ?_;rintro _ i ⟨rfl,h1⟩;refine⟨_,_,rfl,cw (λb=>?_) (λc=>?_)⟩
 ·have b:(S.here id).2=false:=by simpa using b
  have e:S.get id at_=(S,0,2):=by unfold Cs.get;dsimp only;rw[bM b]
  rw[e];exact⟨rfl,h1⟩
 have c:(S.here id).2=true:=by simpa using c
 refine⟨_,rfl,ld h1 0 rfl rfl rfl (use (aDQ (S.here id).1 at_ (h1.fr 3 rfl)) ?_)⟩;rintro _ _ ⟨rfl,rfl⟩;have e:S.get id at_=(if(By.gt S.fr.bK.length S.fr.cG (S.here id).1 at_).2=0 then {S with bY:=(j7 S.bY id).1} else S,((By.gt S.fr.bK.length S.fr.cG (S.here id).1 at_).1.toNat:Int),(By.gt S.fr.bK.length S.fr.cG (S.here id).1 at_).2):=by
  unfold Cs.get;dsimp only;rw[bJ (by rw[c];decide)]
 rw[e];refine⟨_,_,rfl,eD (λd=>?_) (λf=>?_)⟩
 ·rw[bM d];refine⟨_,rfl,ld h1 0 rfl rfl rfl (use (Gp.Fe g.eo id (h1.fr 9 rfl)) ?_)⟩;rintro _ j ⟨rfl,a⟩;have a:=a.put (q:=9) rfl;exact⟨_,rfl,rfl,a⟩
 ·rw[bJ f];exact⟨rfl,h1⟩
def uo{id at_:Int}{x:UInt8}(n:Kc.Inv S)(h:Sep E (cd A S++L) w):Calls P Ji #[Pb A.c,Iv id,Iv at_,.int .u8 x.toNat] w
  (bW λv w'=>v=Iv (S.put id at_ x).2/\Sep E (cd A (S.put id at_ x).1++L) w'):=by
 apply WI;unfold Ln qQ qZ qp;refine use (Rv id h) ?_;rintro _ o ⟨rfl,h1⟩;refine⟨_,_,rfl,cw (λg=>?_) (λi=>?_)⟩
 ·have g:(S.here id).2=false:=by simpa using g
  have e:S.put id at_ x=(S,2):=by unfold Cs.put;dsimp only;rw[bM g]
  rw[e];exact⟨rfl,h1⟩
 have i:(S.here id).2=true:=by simpa using i
 refine⟨_,rfl,ld h1 0 rfl rfl rfl (use (aDS (S.here id).1 at_ x (h1.fr 3 rfl)) ?_)⟩;rintro _ w2 ⟨rfl,a⟩;have a:=a.put (q:=3) rfl;obtain⟨r,j⟩:∃r,By.pt S.fr.bK.length S.fr.cG (S.here id).1 at_ x=r:=⟨_,rfl⟩
 have e:S.put id at_ x=if r.2=0 then({S with fr:={S.fr with cG:=r.1},bY:=(j7 S.bY id).1,bz:=(S.bz.mark id true).1},0)else(S,r.2):=by
  unfold Cs.put;dsimp only;rw[bJ (by rw[i];decide),j]
 rw[j]at a ⊢;rw[e];have a:Sep E (cd A {S with fr:={S.fr with cG:=r.1}} ++L) w2:=a;refine⟨_,rfl,eD (λk=>?_) (λc=>?_)⟩
 ·rw[bM k];refine⟨_,rfl,ld a 0 rfl rfl rfl (use (Gp.Fe n.eo id (a.fr 9 rfl)) ?_)⟩;rintro _ m ⟨rfl,b⟩;have b:=b.put (q:=9) rfl;have b:Sep E (cd A {S with fr:={S.fr with cG:=r.1},bY:=(j7 S.bY id).1} ++L) m:=b;refine⟨_,rfl,_,rfl,ld b 0 rfl rfl rfl (use (Tp.Ri id true (b.fr 11 rfl)) ?_)⟩;rintro _ p ⟨rfl,f⟩;have f:=f.put (q:=11) rfl;exact⟨_,rfl,by rw[k],f⟩
 ·rw[bJ c];have d:r.1=S.fr.cG:=by
   rw[<- j]at c ⊢;unfold By.pt at c ⊢;split;·next l=>rw[bM l]at c;exact absurd rfl c
   ·rfl
  rw[d]at a;exact⟨rfl,a⟩
def AA{id n:Int}(Z:Kc.Inv S)(h:Sep E (cd A S++L) w):Calls P vy #[Pb A.c,Iv id,Iv n] w
  (bW λv w'=>v=Iv (S.bX id n).2/\Sep E (cd A (S.bX id n).1++L) w'):=by
 apply WJ;unfold Lo qE qJ qL qP qQ qU qV qX qY qZ qg qj;refine⟨_,rfl,ld h 0 rfl rfl rfl (use (Tp.aKq id n (h.fr 11 rfl)) ?_)⟩;rintro _ U ⟨rfl,h1⟩;have h1:=h1.put (q:=11) rfl;obtain⟨r,D⟩:∃r,S.bz.bX id n=r:=⟨_,rfl⟩
 obtain⟨a,i⟩:∃a:Cs,a= {S with bz:=r.1} :=⟨_,rfl⟩
 rw[D]at h1 ⊢;have h1:Sep E (cd A a++L) U:=by rw[i];exact h1
 have x:(r.2.2≠0\/0<r.2.1)->S.bX id n=(a,r.2.2):=by
  intro C;unfold Cs.bX;rw[D,i];dsimp only;rw[bM C]
 refine⟨_,_,rfl,λw'=>¬ (r.2.2≠0\/0<r.2.1)/\Sep E (cd A a++L) w',gV (λhf=>?_) (λhe=>eW (λK=>?_) (λK=>⟨bA,h1⟩)),?_⟩;·rw[x (.inl hf)];exact⟨rfl,h1⟩
 ·rw[x (.inr K)];exact⟨rfl,h1⟩
 rintro _ w2 ⟨C,y⟩;have H:Kt.WF a.tree:=by rw[i];exact Z.wf
 have R:Kc.Good a.bY:=by rw[i];exact Z.eo
 refine⟨_,rfl,ld y 0 rfl rfl rfl (use (Tp.pd id (y.fr 11 rfl)) ?_)⟩;rintro _ V ⟨rfl,o⟩;have o:Sep E (cd A a++L) V:=o.put (q:=11) rfl;obtain⟨p,hp⟩:∃p,(a.bz.get id).1=p:=⟨_,rfl⟩
 rw[hp];refine⟨_,_,_,_,_,_,_,_,_,_,rfl,Al.i o (λb ab G=>eh (vs:=p.vs) _ G rfl (λW s=>?_))⟩;have s:Sep E (cd A a++bE b p.vs::L) W:=Sep.eA s;refine Dr.i s (λad z=>⟨_,rfl,ld z 0 rfl rfl rfl (ld z 16 rfl rfl rfl (use (rW H (z.fr 1 rfl)) ?_))⟩);rintro _ X ⟨k,rfl,J,g⟩;have g:=g.g1 (q:=1) rfl;have g:Sep E (cd A a++bC k 1 (bD (a.chain p.owner))::bE b p.vs::L) X:=Sep.eA (Q:=cd A a) g;have B:Ints E (bC k 1 (bD (a.chain p.owner))::bE b p.vs::L) k (a.chain p.owner):=Ints.row J;have u:(a.chain p.owner).length<=64:=p4 H _;obtain⟨f,j⟩:∃f:Cs,f=if p.place=1 then {a.clean id p with fr:=(a.clean id p).fr.di p.at_ (a.chain p.owner),bY:=(iT (a.clean id p).bY id).1} else if p.place=2 then {a with sl:=a.sl.di p.at_ (a.chain p.owner)} else a:=⟨_,rfl⟩
 have e:S.bX id n=({f with bz:=((f.bz.put id 0 0).1.drop id).1},((f.bz.put id 0 0).1.drop id).2):=by
  clear h1 y o G s g B;subst j hp i;unfold Cs.bX;rw[D];dsimp only;rw[bJ C]
 refine⟨_,rfl,λw'=>Sep E (cd A f++bC k 1 (bD (a.chain p.owner))::bE b p.vs::L) w',ld g 17 rfl rfl rfl (eD (λN=>?_) (λM=>eD (λO=>?_) (λT=>by rw[j,bJ M,bJ T];exact g))),?_⟩
 ·iterate 9 refine ld g 17 rfl rfl rfl ?_
  refine use (Rq id p g) ?_;rintro _ Y ⟨rfl,t⟩;have I:(a.clean id p).bY=a.bY:=by unfold Cs.clean;split<;>rfl
  refine⟨rfl,Dr.i t (λF c=>⟨_,rfl,ld c 0 rfl rfl rfl (ld c 0 rfl rfl rfl (ld c 0 rfl rfl rfl (ld c 17 rfl rfl rfl (use (Rs p.at_ B u c) ?_))))⟩)⟩;rintro _ m ⟨rfl,d⟩;refine⟨rfl,_,rfl,ld d 0 rfl rfl rfl (use (Gp.wA (by show Kc.Good (a.clean id p).bY;rw[I];exact R) id (d.fr 9 rfl)) ?_)⟩;rintro _ aa ⟨rfl,l⟩;have l:=l.put (q:=9) rfl;rw[j,bM N];exact⟨_,rfl,l⟩
 ·refine Dr.i g (λF c=>⟨_,rfl,ld c 0 rfl rfl rfl (ld c 0 rfl rfl rfl (ld c 0 rfl rfl rfl (ld c 17 rfl rfl rfl (use (Rt p.at_ B u c) ?_))))⟩);rintro _ m ⟨rfl,d⟩;rw[j,bJ M,bM O];exact⟨rfl,d⟩
 intro _ Y t;refine⟨_,rfl,ld t 0 rfl rfl rfl (use (Tp.uo id 0 0 (t.fr 11 rfl)) ?_)⟩;rintro _ F ⟨rfl,c⟩;have c:=c.put (q:=11) rfl;have c:Sep E (cd A {f with bz:=(f.bz.put id 0 0).1} ++bC k 1 (bD (a.chain p.owner))::bE b p.vs::L) F:=c;refine⟨_,rfl,_,rfl,ld c 0 rfl rfl rfl (use (Tp.wA id (c.fr 11 rfl)) ?_)⟩;rintro _ m ⟨rfl,d⟩;have d:=d.put (q:=11) rfl;have d:Sep E (cd A {f with bz:=((f.bz.put id 0 0).1.drop id).1} ++bC k 1 (bD (a.chain p.owner))::bE b p.vs::L) m:=d;rw[e];exact⟨_,rfl,rfl,d.cut.cut⟩
def aID(h:Sep E (cd A S++L) w):Calls P Jc #[Pb A.c] w (bW λv w'=>v=Iv (S.files.bP.length:Nat)/\Sep E (cd A S++L) w'):=by
 apply WE;unfold Lk qQ qZ;refine⟨_,rfl,ld h 0 rfl rfl rfl (use (aBP h (q:=8) rfl) ?_)⟩;rintro _ _ ⟨rfl,rfl⟩;exact⟨_,rfl,rfl,h⟩
def aFx(f:Int)(h:Sep E (cd A S++L) w):Calls P Jd #[Pb A.c,Iv f] w (bW λv w'=>v=Iv (nm S.files f)/\Sep E (cd A S++L) w'):=by
 apply WG;unfold Ll qQ qZ;refine⟨_,rfl,ld h 0 rfl rfl rfl (use (Py h (q:=8) rfl f) ?_)⟩;rintro _ _ ⟨rfl,rfl⟩;exact⟨_,rfl,rfl,h⟩
def uw(id:Int)(h:Sep E (cd A S++L) w):Calls P rP #[Pb A.c,Iv id] w (bW λv w'=>v=.tuple #[.agg (S.bz.get id).1.vs.toArray,Iv (S.bz.get id).2]/\Sep E (cd A S++L) w'):=by
 apply We;unfold KT qU qV qX qY qZ;refine Al.i h (λb d h1=>?_);have h1:=Sep.eA (Q:=cd A S) h1;refine⟨_,rfl,ld h1 0 rfl rfl rfl (use (Tp.pd id (h1.fr 11 rfl)) ?_)⟩;rintro _ w2 ⟨rfl,a⟩;have a:=a.put (q:=11) rfl;have a:=Sep.mh (Q:=cd A S) (L:=L) a;refine⟨_,_,_,_,_,_,_,_,_,_,rfl,eh (vs:=(S.bz.get id).1.vs) _ a rfl (λe c=>?_)⟩
 iterate 9 refine ld c 0 rfl rfl rfl ?_
 exact⟨rfl,c.tail⟩
def wL(h:Sep E (cd A S++L) w):Calls P tA #[Pb A.c] w (bW λv w'=>v=Pb A.t/\Sep E (cd A S++L) w'):=by
 apply Wf;unfold KU qZ;exact⟨_,rfl,ld h 0 rfl rfl rfl ⟨rfl,h⟩⟩
def aKm{g:Int}(m:Kc.Inv S)(h:Sep E (cd A S++L) w):Calls P JC #[Pb A.c,Iv g] w
  (bW λv w'=>v=.tuple #[Iv (S.fresh g).2.1,Iv (S.fresh g).2.2.1,Iv (S.fresh g).2.2.2]/\Sep E (cd A (S.fresh g).1++L) w'):=by
 apply Xk;unfold LN qF qZ zX;refine⟨_,rfl,ld h 0 rfl rfl rfl (use (ke h (q:=1) rfl) ?_)⟩;rintro _ _ ⟨rfl,rfl⟩;refine⟨_,rfl,cw (λd=>?_) (λa=>?_)⟩
 ·have d:Kt.dw S.tree g=false:=by simpa using d
  have e:S.fresh g=(S, -1, -1,2):=by unfold Cs.fresh;rw[bM (show S.live g=false from d)]
  rw[e];exact⟨rfl,h⟩
 ·have a:Kt.dw S.tree g=true:=by simpa using a
  have e:S.fresh g=S.cN g By.zs:=by unfold Cs.fresh;rw[bJ (by rw[show S.live g=true from a];decide)]
  rw[e];refine makeSlice.i h aHP bO (e7 _) bO bO (λb l h1=>?_);have h1:Sep E (bE b (gW By.zs)::(cd A S++L)) l:=h1;have f:=Q7 By.zs h1 (q:=0) (o:=0) (n:=16) (c:=16) rfl rfl (λj k=>by
   rw[e5,vk,dD k];rfl)
  refine⟨_,f,use (RX m a By.zs h1.tail) ?_⟩;rintro _ w2 ⟨rfl,i⟩;exact⟨_,_,_,rfl,rfl,i⟩
def Fw{R:List dz}:∀(l:bU) (g:Int),gO R (l++[g])=((ia (gO R l).1 g jy).1,(gO R l).2+(ia (gO R l).1 g jy).2)
 |[],g=>by simp[gO]
 |x::l,g=>by
  rw[oJ,gO,Fw l g,gO];simp only[xB,uW];omega
def gy{R:List dz}(G:Kc.Good R):R.length<=16777217:=by
 have h:=p0 16777217 (R.map dz.id) (by
  rw[nT,jK];exact G.cX.imp (λa he=>bA)) (λx hx=>by
  obtain⟨e,he,rfl⟩:=e4.1 hx;have:=(G.ok e he).1;omega)
 simpa using h
def aLy{t:Int}(u:Kc.Inv S)(h:Sep E (cd A S++L) w):Calls P Ja #[Pb A.c,Iv t] w
  (bW λv w'=>v=Iv (S.du t).2/\Sep E (cd A (S.du t).1++L) w'):=by
 apply WC;unfold Li qD qI qJ qQ qW qZ;refine⟨_,rfl,ld h 0 rfl rfl rfl (use (v8 u.wf (h.fr 1 rfl)) ?_)⟩;rintro _ z ⟨s,rfl,p,h1⟩;have h1:=h1.g1 (q:=1) rfl;obtain⟨gs,b⟩:∃gs,Kt.hT S.tree t=gs:=⟨_,rfl⟩
 have F:gs.length<=64:=by rw[<- b];exact Az u.wf t
 have e:S.du t=({S with bY:=(gO S.bY gs).1},(gO S.bY gs).2):=by unfold Cs.du;rw[b]
 rw[b]at p h1;rw[e];have h1:Sep E (cd A S++bC s 1 (bD gs)::L) z:=Sep.eA (Q:=cd A S) h1;have j:∀k,0<=(gO S.bY (gs.take k)).2/\(k<=gs.length->(gO S.bY (gs.take k)).2<=k*16777217):=by
  intro k;induction k with
  |zero=>simp[gO]
  |succ k r=>
   by_cases o:k<gs.length
   ·have hx:gs[k]?=some gs[k]:=dD o;rw[fw hx,Fw];have i:=x6 (gs.take k) u.eo;have a:=gy i.1;have f:(ia (gO S.bY (gs.take k)).1 gs[k] jy).2<=((gO S.bY (gs.take k)).1.length:Nat):=by
     unfold ia;simp only;have:=lp (oa gs[k] jy) (gO S.bY (gs.take k)).1;omega
    have H:0<=(ia (gO S.bY (gs.take k)).1 gs[k] jy).2:=by unfold ia;simp only;omega
    have I:=r.2 bA;refine⟨by simp only;omega,λ_=>by simp only;omega⟩
   ·have l:gs.take (k+1)=gs.take k:=by rw[hE bA,hE bA]
    rw[l];exact⟨r.1,λJ=>bA⟩
 refine⟨s,rfl,λn x w'=>(∃k:Nat,x=k/\k<=gs.length/\n=(gO S.bY (gs.take k)).2/\Sep E (cd A {S with bY:=(gO S.bY (gs.take k)).1} ++bC s 1 (bD gs)::L) w'),λ_ x _=>(gs.length-x).toNat,⟨0,rfl,ec _,rfl,h1⟩,?_⟩;rintro _ _ _ w2 ⟨k,rfl,o,rfl,a⟩;refine cL (λG=>?_) (λD=>?_)
 ·have c:k<gs.length:=by omega
  obtain⟨g,i⟩:∃g,gs[k]?=some g:=⟨_,dD c⟩
  have m:=x6 (gs.take k) u.eo;have hlen:=gy m.1;refine(Ints.at_ (q:=16) rfl p).el a k rfl i ⟨_,rfl,ld a 0 rfl rfl rfl (use (Gp.aMo m.1 g (by show(gO S.bY (gs.take k)).1.length<_;omega) (a.fr 9 rfl)) ?_)⟩;rintro _ K ⟨rfl,f⟩;have f:=f.put (q:=9) rfl;have d:=Fw (R:=S.bY) (gs.take k) g;rw[<- fw i]at d;have B:=(j (k+1)).1;have C:=(j (k+1)).2 c;have y:(gO S.bY (gs.take (k+1))).2=(gO S.bY (gs.take k)).2+(ia (gO S.bY (gs.take k)).1 g jy).2:=by rw[d]
  have l:(gO S.bY (gs.take (k+1))).1=(ia (gO S.bY (gs.take k)).1 g jy).1:=by rw[d]
  refine⟨_,rfl,?_⟩;rw[c1];have hw:i64.wrap ((gO S.bY (gs.take k)).2+(ia (gO S.bY (gs.take k)).1 g jy).2)=(gO S.bY (gs.take (k+1))).2:=by rw[cH bA bA,y]
  refine⟨⟨k+1,rfl,c,hw,by rw[l];exact f⟩,?_⟩;show(((gs.length:Nat):Int)-((k+1:Nat):Int)).toNat<(((gs.length:Nat):Int)-(k:Int)).toNat;omega
 ·have:k=gs.length:=by omega
  subst this;rw[fN]at a ⊢;exact⟨rfl,a.cut⟩
def aIE{g c5 n:Int}(V:Kc.Inv S)(h:Sep E (cd A S++L) w):Calls P I8 #[Pb A.c,Iv g,Iv c5,Iv n] w
  (bW λv w'=>v=Iv (S.cf g c5 n).2/\Sep E (cd A (S.cf g c5 n).1++L) w'):=by
 apply WB;unfold Lh qF qK qQ qW qZ qg;have B:S.live g=false->S.cf g c5 n=(S,2):=by intro e;unfold Cs.cf;rw[bM e]
 have r:S.live g=true->gf n=false->S.cf g c5 n=(S,1):=by intro e f;unfold Cs.cf;rw[bJ (by rw[e];decide),bM f]
 have C:S.live g=true->gf n=true->S.cf g c5 n=(if c5=0 then(S.iV g {S.mP g with min:=n},0)
   else if c5=1 then(S.iV g {S.mP g with low:=n},0)
   else if c5=2 then({S with fr:={S.fr with used:=(hs S.fr.used g n).1}},(hs S.fr.used g n).2)
   else if c5=3 then({S with sl:={S.sl with used:=(hs S.sl.used g n).1}},(hs S.sl.used g n).2)
   else if c5=4 then(if 1<n then(S,1)else(S.iV g {S.mP g with whole:=n==1},0))else(S,1)):=by
  intro e f;unfold Cs.cf;rw[bJ (by rw[e];decide),bJ (by rw[f];decide)]
 have R:=ou;refine⟨λw'=>S.live g=true/\gf n=true/\Sep E (cd A S++L) w',⟨_,rfl,ld h 0 rfl rfl rfl (use (ke h (q:=1) rfl) ?_)⟩,?_⟩
 ·rintro _ _ ⟨rfl,rfl⟩;refine⟨_,rfl,cw (λt=>?_) (λc=>?_)⟩
  ·have t:Kt.dw S.tree g=false:=by simpa using t
   rw[B t];exact⟨rfl,h⟩
  ·have c:Kt.dw S.tree g=true:=by simpa using c
   refine cL (λM=>?_) (λM=>eW (λN=>?_) (λN=>⟨c,?_,h⟩));·rw[r c (by unfold gf;rw[c4 (show ¬ 0<=n by omega)];rfl)];exact⟨rfl,h⟩
   ·rw[r c (by unfold gf;rw[c4 (show ¬ n<=top by omega),sN])];exact⟨rfl,h⟩
   ·unfold gf;rw[dh (show 0<=n by omega),dh (show n<=top by omega)];rfl
 rintro _ W ⟨c,f,h1⟩;rw[C c f];have U:=Fv (show Kt.dw S.tree g=true from c);obtain⟨k,rfl⟩:∃k:Nat,g=k:=⟨g.toNat,bA⟩
 have z:k<S.guards.length:=by rw[V.gl];omega
 obtain⟨x,hx⟩:∃x,S.guards[k]?=some x:=⟨_,dD z⟩
 have O:S.mP (k:Int)=x:=by unfold Cs.mP;rw[dk,dK,hx];rfl
 rw[O];obtain⟨p,l⟩:=iA.open (h1.fr 13 rfl);refine⟨_,rfl,A.gs,h1.cellAt 0 rfl 12,kZ eH.lJ 0 l rfl p rfl hx (λb s _=>?_)⟩;have d:∀(y:eH) {w':World},Sep E (bC A.gs 3 (bQ eH.vs (S.guards.set k y))::(cd A S++L).eraseIdx 13) w'->Sep E (cd A (S.iV (k:Int) y)++L) w':=by
  intro y w' Q;have D:Sep E (iA A.gs (S.guards.set k y)::(cd A S++L).eraseIdx 13) w':=Sep.cC.2 ⟨by simpa using p,Q⟩;exact D.put (q:=13) rfl
 refine eD (λG=>?_) (λi=>eD (λH=>?_) (λm=>eD (λI=>?_) (λu=>eD (λJ=>?_) (λF=>eD (λK=>?_) (λT=>?_)))))
 ·rw[bM G];refine⟨_,rfl,tT eH.lJ (a':={x with min:=n}) (j:=0) l s hx bO rfl (λw2 a=>⟨rfl,d _ a⟩)⟩
 ·rw[bJ i,bM H];refine⟨_,rfl,tT eH.lJ (a':={x with low:=n}) (j:=1) l s hx bO rfl (λw2 a=>⟨rfl,d _ a⟩)⟩
 ·rw[bJ i,bJ m,bM I];refine⟨_,rfl,ld h1 0 rfl rfl rfl (use (QW (h1.fr 4 rfl) (k:Int) n) ?_)⟩;rintro _ w2 ⟨rfl,a⟩;have a:=a.put (q:=4) rfl;exact⟨_,rfl,rfl,a⟩
 ·rw[bJ i,bJ m,bJ u,bM J];refine⟨_,rfl,ld h1 0 rfl rfl rfl (use (QW (h1.fr 7 rfl) (k:Int) n) ?_)⟩;rintro _ w2 ⟨rfl,a⟩;have a:=a.put (q:=7) rfl;exact⟨_,rfl,rfl,a⟩
 ·rw[bJ i,bJ m,bJ u,bJ F,bM K];refine eW (λo=>?_) (λo=>?_);·rw[bM o];exact⟨rfl,h1⟩
  ·rw[cM];refine⟨_,rfl,tT eH.lJ (a':={x with whole:=n==1}) (j:=2) l s hx bO rfl (λw2 a=>⟨rfl,d _ a⟩)⟩
 ·rw[bJ i,bJ m,bJ u,bJ F,bJ T];exact⟨rfl,h1⟩
def R1:g9 P tw=some (24,3,[Iv 0,Iv 0,.bool false]):=by kernel_rfl
def aFP{s:Sl}{q:Nat}{l:List eH}{x:eH}(b:s.n=l.length)(j:l.length<1000000)(h:Sep E (bE q (eH.vs x)::bC s 3 (bQ eH.vs l)::L) w){G:Sl->bh6}(g:∀s' a,Sep E (iA s' (l++[x])::L) a->G s' a):
  ∃e:Sl,∃a,Sem.run P (Builtin.append_ #[tw,tw] tw #[Sv s,.slice (some ⟨q,0,none⟩) 1 1]) w=.ok (Sv e) a/\G e a:=by
 have f:=Src.bE (n:=1) (c:=1) h (i:=0) rfl R1 rfl (λu hu=>by simp[eH.vs]at hu;rcases hu with rfl|rfl|rfl<;>rfl);refine bC.append h.swap R1 rfl f bA (by rw[b];omega) (λs' a d h1=>?_);refine g s' a (Sep.cC.2 ⟨by rw[d,b];simp,?_⟩);rw[mX,o4];exact(h1.fr 0 rfl).ro 2 [0] rfl
def qk(A:At)(row:List Value)(b a up:Asn)(S:Cs):ch:=
 [bE A.c row,b,fY A.fp S.fr.bK,ga A.fb S.fr.bK.length S.fr.cG,c6 A.fu S.fr.used,fY A.sp S.sl.bK,ga A.sb S.sl.bK.length S.sl.cG,c6 A.su S.sl.used,
  ic A.fi S.files,Gp.fh A.ge S.bY,fE A.lg S.log,Tp.c0 A.pg S.bz,nL A.m S.kept,a,up,cy A.o]
def aFu{p:Int}(G:Kc.Inv S)(h:Sep E (cd A S++L) w):Calls P I6 #[Pb A.c,Iv p] w
  (bW λv w'=>v=.tuple #[Iv (S.bZ p).2.1,Iv (S.bZ p).2.2]/\∃gs us:Sl,Sep E (cd {A with gs:=gs,us:=us} (S.bZ p).1++L) w'):=by
 apply Wy;unfold Le qC qK qZ qj qx;refine⟨_,rfl,ld h 0 rfl rfl rfl (use (Ez G.wf (h.fr 1 rfl)) ?_)⟩;rintro _ O ⟨rfl,h1⟩;have h1:=h1.put (q:=1) rfl;obtain⟨r,g⟩:∃r,Kt.gr S.tree p=r:=⟨_,rfl⟩
 rw[g]at h1 ⊢;refine⟨_,_,rfl,eD (λa=>?_) (λd=>?_)⟩
 ·have e:S.bZ p=({S with tree:=r.1,guards:=S.guards++[⟨0,0,false⟩]},r.2):=by unfold Cs.bZ;rw[g];dsimp only;rw[bM a]
  rw[e];have k:r.1=S.tree++[⟨p,true⟩]:=by
   rw[<- g]at a ⊢;unfold Kt.gr at a ⊢;split at a;·exact absurd a (by simp)
   ·next l=>
    rw[bJ l];split at a;·exact absurd a (by simp)
    ·next m=>
     rw[bJ m];split at a;·exact absurd a (by simp)
     ·next n=>rw[bJ n]
  have N:=G.wf.fq;have h1:Sep E (qk A A.row (dT A.t r.1) (iA A.gs S.guards) (jb A.us S.tree) S++L) O:=h1;refine⟨_,rfl,A.gs,h1.cellAt 0 rfl 12,Al.i h1 (λq w2 I=>?_)⟩;obtain⟨z,J⟩:=iA.open (I.fr 14 rfl);refine aFP (x:=⟨0,0,false⟩) z (by rw[G.gl];omega) (J.fr 1 rfl) (λgs D s=>?_);have s:Sep E (iA gs (S.guards++[⟨0,0,false⟩])::(qk A A.row (dT A.t r.1) (iA A.gs S.guards) (jb A.us S.tree) S++L).eraseIdx 13) D:=s;have t:=s.put (q:=13) rfl;have t:Sep E (qk A A.row (dT A.t r.1) (iA gs (S.guards++[⟨0,0,false⟩])) (jb A.us S.tree) S++L) D:=t;refine⟨_,rfl,St.i (b:=A.c) (c:=A.row) (o:=12) (L:=(qk A A.row (dT A.t r.1) (iA gs (S.guards++[⟨0,0,false⟩])) (jb A.us S.tree) S++L).eraseIdx 0) t (by simp[At.row]) (λQ i=>?_)⟩;have i:Sep E (qk A ({A with gs:=gs} :At).row (dT A.t r.1) (iA gs (S.guards++[⟨0,0,false⟩])) (jb A.us S.tree) S++L) Q:=i;refine⟨_,rfl,A.us,i.cellAt 0 rfl 13,Al.i i (λq2 R K=>?_)⟩;obtain⟨B,M⟩:=jb.open (K.fr 15 rfl);refine rV (x:=p) (by simpa using B) (by simp;omega) (M.fr 1 rfl) (λus F C u=>?_);have u:Sep E (jb us r.1::(qk A ({A with gs:=gs} :At).row (dT A.t r.1) (iA gs (S.guards++[⟨0,0,false⟩])) (jb A.us S.tree) S++L).eraseIdx 14) F:=by
   refine Sep.cC.2 ⟨by rw[C,k];simp,?_⟩;have H:r.1.map Kt.G.up=S.tree.map Kt.G.up++[p]:=by rw[k];simp
   rw[H];exact u
  have f:=u.put (q:=14) rfl;have f:Sep E (qk A ({A with gs:=gs} :At).row (dT A.t r.1) (iA gs (S.guards++[⟨0,0,false⟩])) (jb us r.1) S++L) F:=f;refine⟨_,rfl,St.i (b:=A.c) (c:=({A with gs:=gs} :At).row) (o:=13) (L:=(qk A ({A with gs:=gs} :At).row (dT A.t r.1) (iA gs (S.guards++[⟨0,0,false⟩])) (jb us r.1) S++L).eraseIdx 0) f (by simp[At.row]) (λT y=>?_)⟩;exact⟨rfl,gs,us,y⟩
 ·have e:S.bZ p=(S,r.2):=by unfold Cs.bZ;rw[g];dsimp only;rw[bJ d]
  have j:r.1=S.tree:=by
   rw[<- g]at d ⊢;unfold Kt.gr at d ⊢;split;·rfl
   ·next l=>
    rw[bJ l]at d;split;·rfl
    ·next m=>
     rw[bJ m]at d;split;·rfl
     ·next n=>rw[bJ n]at d;exact absurd rfl d
  rw[e];rw[j]at h1;exact⟨rfl,A.gs,A.us,h1⟩
end Go.Mp
namespace Go.Kc
open Go Go.Kt
def aF4{T:TS}{g:Int}:(T.ee g).Pairwise (· < ·):=by
 unfold TS.ee;rw[jK];exact(GM.filter _).imp (λ{a b} h=>by show(a:Int)<(b:Int);omega)
def R2{l:List G}{g:Int}(h:(iF l g).2≠0):(iF l g).1=l:=by
 unfold iF at h ⊢;split;·rfl
 ·next a=>
  rw[bJ a]at h;split;·rfl
  ·next b=>
   rw[bJ b]at h;split;·rfl
   ·next c=>rw[bJ c]at h;exact absurd rfl h
def aHI(l:List G)(g:Int):(iF l g).1.map G.up=l.map G.up/\(iF l g).1.length=l.length:=by
 by_cases h:(iF l g).2≠0;·rw[R2 h];exact⟨rfl,rfl⟩
 ·have h:(iF l g).2=0:=by omega
  unfold iF at h ⊢;split at h;·exact absurd h (by simp)
  ·next d=>
   rw[bJ d];split at h;·exact absurd h (by simp)
   ·next b=>
    rw[bJ b];split at h;·exact absurd h (by simp)
    ·next f=>
     rw[bJ f];have a:dw l g=true:=by
      cases a:dw l g with
      |true=>rfl
      |false=>exact absurd a b
     obtain⟨n,rfl,x,hx,_⟩:=iE.1 a;have c:=(cT.1 hx).1;refine⟨?_,by simp⟩;rw[dk,hx,hq];apply g6;intro i;rw[jg];split;·next e=>subst e;rw[eb,bM c,ew,hx];rfl
     ·rfl
end Go.Kc
namespace Go.Mp
open Go Go.Vc Go.Sp Go.Proofs Go.Kc
variable{E:Env}{L:ch}{w:World}{A:At}{S:Cs}
def aLf(a b:Nat)(w:World):Sem.run P (Instr.index IW (.agg #[Pb a,Pb b]) (Iv 0)) w=.ok (Pb a) w:=by kernel_rfl
def aJD(a b:Nat)(w:World):Sem.run P (Instr.index IW (.agg #[Pb a,Pb b]) (Iv 1)) w=.ok (Pb b) w:=by kernel_rfl
def aD8(T:TS)(l:bU)(x o:Int):T.dq (l++[x]) o=((T.dq l o).own x o).1:=by
 unfold TS.dq;rw[A1];rfl
def aGH{g:Int}(W:Kc.Inv S)(h:Sep E (cd A S++L) w):Calls P I7 #[Pb A.c,Iv g] w
  (bW λv w'=>v=Iv (S.remove g).2/\Sep E (cd A (S.remove g).1++L) w'):=by
 apply WA;unfold Lg qC qD qJ qO qQ qW qZ;obtain⟨up,K⟩:∃up,Kt.lT S.tree g=up:=⟨_,rfl⟩
 obtain⟨r,C⟩:∃r,Kt.iF S.tree g=r:=⟨_,rfl⟩
 refine⟨_,rfl,ld h 0 rfl rfl rfl (use (aIG h (q:=1) rfl) ?_)⟩;rintro _ _ ⟨rfl,rfl⟩;rw[K];refine⟨_,rfl,_,rfl,ld h 0 rfl rfl rfl (use (Go.Mp.nI W.wf (h.fr 1 rfl)) ?_)⟩;rintro _ af ⟨rfl,h1⟩;have h1:=h1.put (q:=1) rfl;rw[C]at h1 ⊢;refine⟨_,rfl,gV (λhf=>?_) (λhe=>?_)⟩
 ·have e:S.remove g=(S,r.2):=by unfold Cs.remove;rw[C];dsimp only;rw[bJ hf]
  have F:r.1=S.tree:=by rw[<- C]at hf ⊢;exact R2 hf
  rw[F]at h1;rw[e];exact⟨rfl,h1⟩
 have D:=aHI S.tree g;rw[C]at D;have h1:Sep E (cd A {S with tree:=r.1} ++L) af:=by
  have e:jb A.us r.1=jb A.us S.tree:=by unfold jb;rw[D.1,D.2]
  unfold cd;simp only;rw[e];exact h1
 have e:S.remove g=({S with tree:=r.1,bz:=S.bz.dq (S.bz.ee g) up,bY:=(mO S.bY g up).1,fr:={S.fr with used:=(fJ S.fr.used [g] (cJ S.fr.used g)).1},sl:={S.sl with used:=(fJ S.sl.used [g] (cJ S.sl.used g)).1}},0):=by
  unfold Cs.remove;rw[C,K];dsimp only;rw[bM he]
 rw[e];have B:Tp.fq S.bz 16777216:=λk Z=>by
  obtain⟨p,hp⟩:=kq.1 Z;have:=W.ct.ids _ _ hp;have:=W.ids;omega
 refine⟨_,rfl,ld h1 0 rfl rfl rfl (use (Tp.aKs g B bO (h1.fr 11 rfl)) ?_)⟩;rintro _ w2 ⟨s,ids,rfl,n,F,j⟩;have J:(ids.filter λx=> !Tp.r4 S.bz g x)=S.bz.ee g:=by
  refine Gp.wI (r:=(· < · :Int->Int->Prop)) (λx=>Hl x) (λx y z=>Int.lt_trans) (n.cX.filter _) aF4 (λk=>?_);rw[fO,n.mem,Cb W.ct];unfold Tp.r4;cases S.bz.pg k with
  |none=>simp
  |some p=>simp[bne]
 rw[J]at F j;have j:=j.g1 (q:=11) rfl;have j:Sep E (cd A {S with tree:=r.1} ++bC s 1 (bD (S.bz.ee g))::L) w2:=Sep.eA (Q:=cd A {S with tree:=r.1}) j;have hlen:(S.bz.ee g).length<=16777216:=by
  rw[<- J];exact mD (lp _ _) (n.le B)
 obtain⟨O,ae⟩:∃O,S.bz.ee g=O:=⟨_,rfl⟩
 rw[ae]at F j hlen ⊢;refine⟨s,rfl,λx w'=>∃k:Nat,x=k/\k<=O.length/\Sep E (cd A {S with tree:=r.1,bz:=S.bz.dq (O.take k) up} ++bC s 1 (bD O)::L) w',λx _=>(O.length-x).toNat,⟨0,rfl,ec _,j⟩,?_⟩;rintro _ _ aj ⟨k,rfl,Z,i⟩;refine cL (λai=>?_) (λah=>?_)
 ·have I:k<O.length:=by omega
  obtain⟨x,hx⟩:∃x,O[k]?=some x:=⟨_,dD I⟩
  refine(Ints.at_ (q:=16) rfl F).el i k rfl hx ⟨_,rfl,ld i 0 rfl rfl rfl (use (Tp.Rh x up (i.fr 11 rfl)) ?_)⟩;rintro _ ab ⟨rfl,f⟩;have f:=f.put (q:=11) rfl;rw[c1];refine⟨_,rfl,⟨k+1,rfl,I,by rw[fw hx,aD8];exact f⟩,?_⟩;show(((O.length:Nat):Int)-((k+1:Nat):Int)).toNat<(((O.length:Nat):Int)-(k:Int)).toNat;omega
 have aa:k=O.length:=by omega
 subst aa;rw[fN]at i;have i:=i.cut;refine⟨_,rfl,ld i 0 rfl rfl rfl (use (Gp.aLE W.eo g up (by have:=gy W.eo;omega) (i.fr 9 rfl)) ?_)⟩;rintro _ ab ⟨rfl,f⟩;have f:=f.put (q:=9) rfl;obtain⟨T,G⟩:∃T:Cs,T= {S with tree:=r.1,bz:=S.bz.dq O up,bY:=(mO S.bY g up).1} :=⟨_,rfl⟩
 have f:Sep E (cd A T++L) ab:=by rw[G];exact f
 have X:T.fr.used=S.fr.used:=by rw[G]
 have Y:T.sl.used=S.sl.used:=by rw[G]
 obtain⟨d,u⟩:∃d:Cs,d= {T with fr:={T.fr with used:=(fJ S.fr.used [g] (cJ S.fr.used g)).1}} :=⟨_,rfl⟩
 obtain⟨t,H⟩:∃t:Cs,t= {d with sl:={d.sl with used:=(fJ S.sl.used [g] (cJ S.sl.used g)).1}} :=⟨_,rfl⟩
 refine⟨_,rfl,Dr.i f (λak M=>⟨_,rfl,ld M 0 rfl rfl rfl ⟨_,rfl,ld M 0 rfl rfl rfl ?_⟩⟩)⟩;refine⟨λx w'=>(x=0/\Sep E (cd A T++L) w')\/(x=1/\Sep E (cd A d++L) w')\/(x=2/\Sep E (cd A t++L) w'),λx _=>(2-x).toNat,.inl ⟨rfl,M⟩,?_⟩;rintro _ x ad (⟨rfl,o⟩|⟨rfl,o⟩|⟨rfl,o⟩)
 ·refine bT bO ⟨some ⟨A.fu,0,none⟩,ad,aLf _ _ _,Al.i o (λq U m=>?_)⟩;have m:Sep E (cd A T++bE q (bD [g])::L) U:=Sep.eA m;refine use (Ai m (q:=4) rfl g) ?_;rintro _ ag ⟨rfl,N⟩;refine⟨_,rfl,use (Aj (s:=⟨some ⟨q,0,none⟩,1,1⟩) (l:=[g]) ((Ints.gY (L:=bE q (bD [g])::L) (b:=q) (c:=1) (gs:=[g]) (q:=0) rfl).er (A:=A) (S:=T) (q:=4) bO) (by simp) _ (N.fr 4 rfl)) ?_⟩;rintro _ V ⟨rfl,a⟩;have a:=a.put (q:=4) rfl;have a:Sep E (cd A d++bE q (bD [g])::L) V:=by rw[u,<- X];exact a
  exact⟨_,rfl,.inr (.inl ⟨bO,a.cut⟩),show((2:Int)-i64.wrap (0+1)).toNat<((2:Int)-0).toNat by decide⟩
 ·refine bT bO ⟨some ⟨A.su,0,none⟩,ad,aJD _ _ _,Al.i o (λq U m=>?_)⟩;have m:Sep E (cd A d++bE q (bD [g])::L) U:=Sep.eA m;refine use (Ai m (q:=7) rfl g) ?_;rintro _ ag ⟨rfl,N⟩;refine⟨_,rfl,use (Aj (s:=⟨some ⟨q,0,none⟩,1,1⟩) (l:=[g]) ((Ints.gY (L:=bE q (bD [g])::L) (b:=q) (c:=1) (gs:=[g]) (q:=0) rfl).er (A:=A) (S:=d) (q:=7) bO) (by simp) _ (N.fr 7 rfl)) ?_⟩;rintro _ V ⟨rfl,a⟩;have a:=a.put (q:=7) rfl;have R:d.sl.used=S.sl.used:=by rw[u];exact Y
  have a:Sep E (cd A t++bE q (bD [g])::L) V:=by rw[H,<- R];exact a
  exact⟨_,rfl,.inr (.inr ⟨bO,a.cut⟩),show((2:Int)-i64.wrap (1+1)).toNat<((2:Int)-1).toNat by decide⟩
 ·refine bF bO ⟨rfl,?_⟩;have:t= {S with tree:=r.1,bz:=S.bz.dq O up,bY:=(mO S.bY g up).1,fr:={S.fr with used:=(fJ S.fr.used [g] (cJ S.fr.used g)).1},sl:={S.sl with used:=(fJ S.sl.used [g] (cJ S.sl.used g)).1}} :=by
   rw[H,u,G]
  rw[this]at o;exact o
end Go.Mp
namespace Go.Kc
open Go Go.Kt
variable{S:Cs}
def R3(t:Int)(gs:bU):∀(n:Nat) (S:Cs),dd t gs (n+1) S=(((dd t gs n S).1.cO t gs false).1,(dd t gs n S).2+if((dd t gs n S).1.cO t gs false).2 then 1 else 0)
 |0,S=>Prod.ext rfl ((Int.add_zero _).trans (Bc _).symm)
 |n+1,S=>by
  have a:=R3 t gs n (S.cO t gs false).1;rw[dd,a,dd];rw[xB];exact⟨rfl,(Hk _ _ _).symm⟩
def Fx(t:Int)(gs:bU):∀(n:Nat) (S:Cs),0<=(dd t gs n S).2/\(dd t gs n S).2<=n
 |0,S=>by simp[dd]
 |n+1,S=>by
  have:=Fx t gs n (S.cO t gs false).1;rw[dd];dsimp only;split<;>omega
def R4(t:Int):∀(l:List (Int×Int)) (g k:Int) (S:Cs),cq t (l++[(g,k)]) S=((dd t [g] k.toNat (cq t l S).1).1,(cq t l S).2+(dd t [g] k.toNat (cq t l S).1).2)
 |[],g,k,S=>by simp[cq]
 |(x,y)::l,g,k,S=>by
  rw[oJ,cq,R4 t l g k,cq];rw[xB];exact⟨rfl,(Hk _ _ _).symm⟩
def R5(t:Int):∀(l:List (Int×Int)) (S:Cs),(∀x∈l,0<=x.2/\x.2<=16777217)->0<=(cq t l S).2/\(cq t l S).2<=l.length*16777217
 |[],S,_=>by simp[cq]
 |(x,y)::l,S,h=>by
  have h1:=h _ (fj ..);have b:=R5 t l (dd t [x] y.toNat S).1 (λz a=>h z (fI _ a));have c:=Fx t [x] y.toNat S;rw[cq];simp only[hS]at h1 ⊢;omega
def aG6{n:Int}{l:bU}(b:h8 n l=true){i:Nat}{x:Int}(hx:l[i]?=some x):∃p,(iR n l)[i]?=some p/\0<=p/\p<=x:=by
 have a:=(ui b).2.2;have e:=(a x (eu hx)).1;by_cases h:n<=0\/cn l=0
 ·have c:=(cT.1 hx).1;refine⟨0,?_,e7 _,e⟩;rw[E1 b h,lN,bM c]
 ·have d:0<cn l:=by have:=ov (l:=l) (λy k=>(a y k).1);omega
  obtain⟨p,_,f,g,j⟩:=r2 b d hx;exact⟨_,by rw[<- E0 b d bA];exact f,g,j⟩
def aFJ{n:Int}{l:bU}(a:h8 n l=true):(iR n l).length=l.length:=by
 unfold iR;rw[bJ (by rw[a];decide)];split;·simp
 ·split;·rfl
  ·exact p7 a
def aHj(G:Good S.bY)(g:Int):0<=oW S.bY g/\oW S.bY g<=16777217:=by
 have h1:=Go.Mp.gy G;have a:0<=oW S.bY g/\oW S.bY g<=(S.bY.length:Nat):=by
  unfold oW;refine⟨bA,?_⟩;have:=lp (λe:dz=>e.group==g) S.bY;omega
 omega
end Go.Kc
namespace Go.Mp
open Go Go.Vc Go.Sp Go.Proofs Go.Kc
variable{E:Env}{L:ch}{w:World}{A:At}{S:Cs}
def aFr{l:List Kt.G}{t g:Int}(h:g∈Kt.hT l t):Kt.dw l g=true:=by
 unfold Kt.hT at h;split at h
 ·unfold Kt.n2 at h;obtain⟨i,a,rfl⟩:=e4.1 h;rw[fO,dG]at a;exact a.2.1
 ·cases h
def Ints.one{s:Sl}{gs:bU}{q k:Nat}{g:Int}(e:L[q]?=some (bC s 1 (bD gs)))(o:s.n=gs.length)(a:gs[k]?=some g)(n c:Nat)(h1:n=1):Ints E L ⟨gb s.p k s.c 1,n,c⟩ [g]:=by
 subst h1;refine⟨rfl,λw h i x hx=>?_⟩;have l:=(cT.1 a).1
 match i,hx with
 |0,hx=>
  simp at hx;subst hx;obtain⟨b,spare,hp,h1,f,j,d⟩:=bC.h2 (h.fr q e) bA;have m:(bD gs).length=gs.length:=by simp
  refine⟨⟨b,k,none⟩,?_,?_⟩
  ·unfold gb;rw[cM,hp];show some _=some _;congr 1;show(⟨b,0,none⟩:Addr).add (k*1)=_;rw[cj];congr 1;omega
  ·rw[cj,lu,bC.cell d bA,y9,a];rfl
 |i+1,hx=>simp at hx
def aIH{t n:Int}(N:Kc.Inv S)(h:Sep E (cd A S++L) w):Calls P Jb #[Pb A.c,Iv t,Iv n] w
  (bW λv w'=>v=Iv (S.shrink t n).2/\Sep E (cd A (S.shrink t n).1++L) w'):=by
 apply WD;unfold Lj qD qF qI qJ qO qQ qW qZ qg qh qm;have ah:S.guards.length<=64:=by rw[N.gl];exact N.wf.fq
 have am:(S.live t=false\/n<1\/1000<n)->S.shrink t n=(S,0):=by intro aJ;unfold Cs.shrink;rw[bM aJ]
 refine⟨λw'=>S.live t=true/\1<=n/\n<=1000/\Sep E (cd A S++L) w',⟨_,rfl,ld h 0 rfl rfl rfl (use (ke h (q:=1) rfl) ?_)⟩,?_⟩
 ·rintro _ _ ⟨rfl,rfl⟩;refine⟨_,rfl,cw (λaL=>?_) (λF=>?_)⟩
  ·have aL:Kt.dw S.tree t=false:=by simpa using aL
   rw[am (.inl aL)];exact⟨rfl,h⟩
  ·have F:Kt.dw S.tree t=true:=by simpa using F
   refine cL (λaN=>?_) (λaN=>eW (λd=>?_) (λd=>⟨F,bA,bA,h⟩));·rw[am (.inr (.inl aN))];exact⟨rfl,h⟩
   ·rw[am (.inr (.inr d))];exact⟨rfl,h⟩
 rintro _ bk ⟨F,bg,bh,h1⟩;obtain⟨In,hIn⟩:∃In,Kt.hT S.tree t=In:=⟨_,rfl⟩
 obtain⟨mn,al⟩:∃mn,S.held t eH.min=mn:=⟨_,rfl⟩
 obtain⟨lw,ak⟩:∃lw,S.held t eH.low=lw:=⟨_,rfl⟩
 have bf:mn.length=S.guards.length:=by rw[<- al];exact wF _ _
 have be:lw.length=S.guards.length:=by rw[<- ak];exact wF _ _
 have a9:In.length<=64:=by rw[<- hIn];exact Az N.wf t
 have aE:∀g∈In,0<=g/\g<S.guards.length:=λg e=>by rw[N.gl];exact Fv (aFr (by rw[hIn];exact e))
 refine⟨_,rfl,ld h1 0 rfl rfl rfl (use (v8 N.wf (h1.fr 1 rfl)) ?_)⟩;rintro _ w2 ⟨a,rfl,V,X⟩;rw[hIn]at V X;have X:=X.g1 (q:=1) rfl;have X:Sep E (cd A S++bC a 1 (bD In)::L) w2:=Sep.eA (Q:=cd A S) X;refine⟨a,rfl,use (Au RA N.gl ah N.jF X) ?_⟩;rintro _ bl ⟨M,rfl,aA,aO⟩;rw[al]at aA aO;refine⟨M,rfl,use (Au RB N.gl ah N.jF aO) ?_⟩;rintro _ bm ⟨sl,rfl,az,aP⟩;rw[ak]at az aP;refine⟨sl,rfl,pb (n:=a.n) bA aP (λY a8 aB aa=>?_)⟩;rw[V]at aB aa;have aa:Sep E (cd A S++bC Y 1 (bD (List.replicate In.length 0))::bC sl 1 (ea lw)::bC M 1 (ea mn)::bC a 1 (bD In)::L) a8:=Sep.eA (Q:=cd A S) aa;obtain⟨W,aH⟩:∃W,S.weights t=W:=⟨_,rfl⟩
 have O:W.length=In.length:=by rw[<- aH,<- hIn];simp[Cs.weights]
 have J:∀(k:Nat) (g:Int),In[k]?=some g->W[k]?=some (if hg mn g=false/\hg lw g=false then oW S.bY g else 0):=by
  intro k g e;rw[<- aH];unfold Cs.weights;rw[hIn,ew,e,al,ak];rfl
 have ad:∀x∈W,0<=x/\x<=16777217:=by
  intro x hx;obtain⟨k,o⟩:=pw.1 hx;have R:=(cT.1 o).1;obtain⟨g,e⟩:∃g,In[k]?=some g:=⟨_,dL⟩
  rw[J k g e]at o;cases o;have:=aHj N.eo g;split<;>omega
 obtain⟨Z,ae⟩:∃Z:Nat->bU,Z= λk=>W.take k++List.replicate (In.length-k) 0:=⟨_,rfl⟩
 have ar:∀k,k<=In.length->(Z k).length=In.length:=λk o=>by rw[ae];simp[O];omega
 have aV:Z 0=List.replicate In.length 0:=by rw[ae];simp
 have aW:Z In.length=W:=by rw[ae];simp only;rw[hG,<- O,fN];simp
 have aX:∀(k:Nat) (x:Int),W[k]?=some x->k<In.length->(Z k).set k x=Z (k+1):=by
  intro k x hx o;rw[ae];simp only;rw[fw hx,ik k _ (by simp;omega),dc];congr 1;rw[g7,O,pE bA,hG,show In.length-k=(In.length-(k+1))+1 by omega,nV];rfl
 have aI:∀k:Nat,W[k]?=some 0->k<In.length->Z k=Z (k+1):=by
  intro k hx o;rw[ae];simp only;rw[fw hx,dc];congr 1;rw[show In.length-k=(In.length-(k+1))+1 by omega,nV];rfl
 rw[<- aV]at aa;refine⟨λx w'=>∃k:Nat,x=k/\k<=In.length/\Sep E (cd A S++bC Y 1 (bD (Z k))::bC sl 1 (ea lw)::bC M 1 (ea mn)::bC a 1 (bD In)::L) w',λx _=>(In.length-x).toNat,⟨0,rfl,ec _,aa⟩,?_⟩;rintro _ _ bn ⟨k,rfl,o,I⟩;refine cL (λR=>?_) (λaw=>?_)
 ·have l:k<In.length:=by omega
  obtain⟨g,e⟩:∃g,In[k]?=some g:=⟨_,dD l⟩
  have av:=aE g (eu e);have r:(((In.length:Nat):Int)-((k+1:Nat):Int)).toNat<(((In.length:Nat):Int)-(k:Int)).toNat:=by omega
  refine(Ints.at_ (q:=19) rfl V).el I k rfl e ?_;refine⟨λb w'=>(b=true↔(hg mn g=false/\hg lw g=false))/\Sep E (cd A S++bC Y 1 (bD (Z k))::bC sl 1 (ea lw)::bC M 1 (ea mn)::bC a 1 (bD In)::L) w',
   wE 18 I rfl aA av.1 bA (cw (λu=>wE 17 I rfl az av.1 bA ⟨?_,I⟩) (λu=>⟨?_,I⟩)),?_⟩
  ·have u:hg mn g=false:=by simpa using u
   simp[u]
  ·have u:hg mn g=true:=by simpa using u
   simp[u]
  rintro _ b aM ⟨u,f⟩;refine cw (λaZ=>?_) (λaY=>?_)
  ·refine⟨_,rfl,ld f 0 rfl rfl rfl (use (Gp.aKk N.eo g (by have:=gy N.eo;omega) (f.fr 9 rfl)) ?_)⟩;rintro _ a3 ⟨rfl,i⟩;have i:=i.put (q:=9) rfl;have i:Sep E (cd A S++bC Y 1 (bD (Z k))::bC sl 1 (ea lw)::bC M 1 (ea mn)::bC a 1 (bD In)::L) a3:=i;have hx:=J k g e;rw[bM (u.1 aZ)]at hx;refine⟨_,rfl,iY (i.fr 16 rfl) (by rw[ar k o];exact aB) bA (by rw[ar k o];omega) (λa4 d=>?_)⟩;rw[dk,aX k _ hx l]at d;have d:=d.put (q:=16) rfl;rw[c1];exact⟨⟨k+1,rfl,l,d⟩,r⟩
  ·have hx:=J k g e;rw[bJ (by rw[<- u,aY];decide)]at hx;rw[aI k hx l]at f;rw[c1];exact⟨⟨k+1,rfl,l,f⟩,r⟩
 have aj:k=In.length:=by omega
 subst aj;rw[aW]at I;have G:h8 n W=true:=by
  unfold h8;rw[dh (show 0<=n by omega),dh (show n<=1048576 by omega),dh (show W.length<=64 by omega)];refine fB.2 (λx hx=>?_);have:=ad x hx;have:=ou;rw[dh (show 0<=x by omega),dh (show x<=top by omega)];rfl
 refine use (aIB bA bA (I.fr 16 rfl)) ?_;rintro _ aM ⟨aq,rfl,ay,f⟩;have f:=f.g1 (q:=16) rfl;have f:Sep E (cd A S++bC aq 1 (bD (iR n W))::bC Y 1 (bD W)::bC sl 1 (ea lw)::bC M 1 (ea mn)::bC a 1 (bD In)::L) aM:=Sep.eA (Q:=cd A S) f;obtain⟨C,ao⟩:∃C,iR n W=C:=⟨_,rfl⟩
 have aQ:C.length=In.length:=by rw[<- ao,aFJ G,O]
 have ab:∀(k:Nat) (p:Int),C[k]?=some p->0<=p/\p<=16777217:=by
  intro k p hp;have R:=(cT.1 hp).1;obtain⟨x,hx⟩:∃x,W[k]?=some x:=⟨_,dL⟩
  obtain⟨bj,ax,i,d⟩:=aG6 G hx;rw[ao,hp]at ax;cases ax;have:=ad x (eu hx);omega
 rw[ao]at f ay;obtain⟨s,y⟩:∃s,s=bC aq 1 (bD C)::bC Y 1 (bD W)::bC sl 1 (ea lw)::bC M 1 (ea mn)::bC a 1 (bD In)::L:=⟨_,rfl⟩
 have aS:Ints E s aq C:=by rw[y];exact Ints.row ay
 have ag:∀ {T:Cs} {w:World},Sep E (cd A T++s) w->Sep E (cd A T++L) w:=λan=>by rw[y]at an;exact an.cut.cut.cut.cut.cut
 have aK:∀ {T:Cs} {w:World},Sep E (cd A T++s) w->a.n<=a.c:=λan=>by rw[y]at an;exact bC.cap (an.fr 20 rfl)
 have aT:∀(k:Nat) (g:Int) (m c:Nat),In[k]?=some g->m=1->Ints E s ⟨gb a.p k a.c 1,m,c⟩ [g]:=λk g m c e hm=>Ints.one (q:=4) (by rw[y];rfl) V e m c hm;have f:Sep E (cd A S++s) aM:=by rw[y];exact f
 clear y;obtain⟨Q,ap⟩:∃Q,In.zip C=Q:=⟨_,rfl⟩
 have ba:Q.length=In.length:=by rw[<- ap,List.length_zip,aQ,Nat.min_self]
 have aF:∀x∈Q,0<=x.2/\x.2<=16777217:=by
  intro x hx;rw[<- ap]at hx;obtain⟨k,o⟩:=pw.1 (List.of_mem_zip hx).2;exact ab k _ o
 have aD:S.shrink t n=((dE t (n-(cq t Q S).2).toNat (cq t Q S).1).1,(cq t Q S).2+(dE t (n-(cq t Q S).2).toNat (cq t Q S).1).2):=by
  unfold Cs.shrink;rw[bJ (by rw[F];simp;omega),hIn,aH,ao,ap]
 rw[aD];have af:=λk=>R5 t (Q.take k) S (λx hx=>aF x (mx hx));refine⟨aq,rfl,λdx x w'=>∃k:Nat,x=k/\k<=C.length/\dx=(cq t (Q.take k) S).2/\Sep E (cd A (cq t (Q.take k) S).1++s) w',λ_ x _=>(C.length-x).toNat,⟨0,rfl,ec _,rfl,f⟩,?_⟩;rintro _ _ _ a3 ⟨k,rfl,o,rfl,i⟩;refine cL (λR=>?_) (λaw=>?_)
 ·have l:k<C.length:=by omega
  obtain⟨p,hp⟩:∃p,C[k]?=some p:=⟨_,dD l⟩
  obtain⟨g,e⟩:∃g,In[k]?=some g:=⟨_,dL⟩
  have a7:=ab k p hp;have a1:Q[k]?=some (g,p):=by rw[<- ap,List.getElem?_zip_eq_some];exact⟨e,hp⟩
  have H:=R4 t (Q.take k) g p S;rw[<- fw a1]at H;have D:Kc.Inv (cq t (Q.take k) S).1:=Inv.cq _ N;have aJ:=af k;have bc:(Q.take k).length<=64:=by rw[g7];omega
  obtain⟨T,aG⟩:∃T,cq t (Q.take k) S=T:=⟨_,rfl⟩
  rw[aG]at H D i aJ ⊢;refine aS.pre.el i k rfl hp ?_;refine⟨λdx x w'=>∃j:Nat,x=j/\(j:Int)<=p/\dx=T.2+(dd t [g] j T.1).2/\Sep E (cd A (dd t [g] j T.1).1++s) w',λ_ x _=>(p-x).toNat,⟨0,rfl,bA,(Int.add_zero _).symm,i⟩,?_⟩;rintro _ _ _ a4 ⟨j,rfl,bi,rfl,d⟩;have bb:=Fx t [g] j T.1;refine cL (λai=>?_) (λai=>?_)
  ·have bd:=aK d;have aR:Kc.Inv (dd t [g] j T.1).1:=Inv.dd _ D;rw[c1 (k:=k) bA];refine⟨⟨bA,bA⟩,⟨bA,bA⟩,use (RR aR (t:=t) (all:=false) (sg:=⟨gb a.p ((k:Nat):Int).toNat a.c 1,(((k+1:Nat):Int)).toNat-((k:Nat):Int).toNat,a.c-((k:Nat):Int).toNat⟩) (gs:=[g]) ?_ (by simp) d) ?_⟩
   ·rw[dk];exact aT k g _ _ e bA
   rintro _ a2 ⟨rfl,B⟩;have z:=R3 t [g] j T.1;have r:(p-((j+1:Nat):Int)).toNat<(p-(j:Int)).toNat:=by omega
   refine⟨_,rfl,cw (λK=>?_) (λK=>?_)⟩
   ·rw[K,bM rfl]at z;rw[c1,cH bA bA];exact⟨⟨j+1,rfl,bA,by rw[z,Hk],by rw[z];exact B⟩,r⟩
   ·rw[K]at z;rw[c1];exact⟨⟨j+1,rfl,bA,by rw[z];simp,by rw[z];exact B⟩,r⟩
  ·have ai:p.toNat=j:=by omega
   rw[ai]at H;rw[c1];refine⟨⟨k+1,rfl,l,by rw[H],by rw[H];exact d⟩,?_⟩;show(((C.length:Nat):Int)-((k+1:Nat):Int)).toNat<(((C.length:Nat):Int)-(k:Int)).toNat;omega
 have aj:k=Q.length:=by omega
 have au:=af k;rw[aj,fN]at i au ⊢;have D:Kc.Inv (cq t Q S).1:=Inv.cq _ N;obtain⟨T,aG⟩:∃T,cq t Q S=T:=⟨_,rfl⟩
 rw[aG]at i D au ⊢;refine⟨λdx w'=>∃U:Cs,Kc.Inv U/\T.2<=dx/\(T.2<dx->dx<=n)/\dE t (n-T.2).toNat T.1=((dE t (n-dx).toNat U).1,(dx-T.2)+(dE t (n-dx).toNat U).2)/\Sep E (cd A U++s) w',λdx _=>(n-dx).toNat,⟨T.1,D,e7 _,λa5=>absurd a5 bA,Prod.ext rfl (by simp),i⟩,?_⟩;rintro _ dx a4 ⟨U,aU,hle,a6,he,d⟩;refine cL (λR=>?_) (λaw=>?_)
 ·obtain⟨m,hm⟩:∃m,(n-dx).toNat=m+1:=⟨(n-dx).toNat-1,bA⟩
  rw[hm]at he;have a0:(n-(dx+1)).toNat=m:=by omega
  refine use (RS aU (t:=t) d) ?_;rintro _ a2 ⟨rfl,B⟩;refine⟨_,rfl,cw (λK=>?_) (λK=>?_)⟩
  ·have aC:dE t (m+1) U=((dE t m (U.cW t).1).1,1+(dE t m (U.cW t).1).2):=by rw[dE];rw[bM K]
   rw[cH bA bA];refine⟨⟨(U.cW t).1,aU.cW t,bA,λ_=>bA,?_,B⟩,by show(n-(dx+1)).toNat<(n-dx).toNat;omega⟩;rw[he,a0,aC];refine Prod.ext rfl ?_;show dx-T.2+(1+_)=dx+1-T.2+_;omega
  ·have aC:dE t (m+1) U=((U.cW t).1,0):=by rw[dE];rw[bJ (by rw[K];decide)]
   rw[he,aC];exact⟨by show Value.int .i64 dx=Value.int .i64 (T.2+(dx-T.2+0));congr 1;omega,ag B⟩
 ·have hm:(n-dx).toNat=0:=by omega
  rw[hm]at he;rw[he];exact⟨by show Value.int .i64 dx=Value.int .i64 (T.2+(dx-T.2+0));congr 1;omega,ag d⟩
end Go.Mp
namespace Go.Mp
open Go Go.Vc Go.Sp Go.Proofs
variable{E:Env}{L:ch}{w W:World}
noncomputable def gQ:Array Oper:=((Tryz.f34.body.bind (wG 1)).getD #[])
def aMD:Oper:={dst:=none,op:=.assign (.const (.pointer none)),type:=0,pos:= "",after:= #[],guard:=none}
noncomputable def Fy(i:Nat):Oper:=(gQ[i]?).getD aMD
def r5:dS:={fork:=λr=>Nat.beq r 1}
noncomputable def T0C(fr sl:Int)(sz:Sl):Tr:=(iQ [Iv fr,Iv sl,Sv sz] 0 .nil).put (some 6) (.pointer none)
def R6(K:bh7):Exit->Tr->bh6:=mI (vc P fD gG cz r5 998 .ret (oQ P fD [.tmp 6] K (λ_ _=>False))) (oQ P fD [.tmp 6] K (λ_ _=>False))
def aLj{P:Program}{τ:TypeId->K1}{ρ:TypeId->Kd}{cz:FuncId->Bool}{A:dS}{n i j:Nat}{a ops:Array Oper}{Q:Exit->Tr->bh6}{T:Tr}{w:World}(h1:A.join j=none)(f:A.sig j=none)(g:A.fork j=true):
  vc P τ ρ cz A (n+3) (.seq (.region i a false) (.seq (.region j ops true) .ret)) Q T w=
   kL P τ ρ cz A a (mI (λT w=>Dr (λw'=>gK P τ ρ cz A ops (mI (vc P τ ρ cz A (n+1) .ret Q) Q) ops.size (Array.replicate ops.size false) T w') w) Q) a.toList T w:=by
 have b:vb A (.seq (.region j ops true) .ret)=none:=by simp[vb,lW,h1]
 have c:vb A .ret=none:=rfl;have d:∀T w,vc P τ ρ cz A (n+2) (.seq (.region j ops true) .ret) Q T w=Dr (λw'=>gK P τ ρ cz A ops (mI (vc P τ ρ cz A (n+1) .ret Q) Q) ops.size (Array.replicate ops.size false) T w') w:=by
  intro T w;rw[vc];simp only[c];rw[vc];unfold va;simp only[f,g,hr]
 rw[vc];simp only[b];rw[vc];unfold va;dsimp only;have e:vc P τ ρ cz A (n+2) (.seq (.region j ops true) .ret) Q= λT w=>Dr (λw'=>gK P τ ρ cz A ops (mI (vc P τ ρ cz A (n+1) .ret Q) Q) ops.size (Array.replicate ops.size false) T w') w:=by
  funext T w;exact d T w
 rw[e]
noncomputable def Fz:Array Oper:=((Tryz.f34.body.bind (wG 0)).getD #[])
def aAT:Tryz.f34.body=some (.seq (.region 0 Fz false) (.seq (.region 1 gQ true) .ret)):=by kernel_rfl
def aCO:Tryz.f34.results= #[.tmp 6]:=by kernel_rfl
def azR(next:Tr->bh6)(Q:Exit->Tr->bh6)(T:Tr)(w:World):kL P fD gG cz r5 Fz (mI next Q) Fz.toList T w=next (T.put (some 6) (.pointer none)) w:=by kernel_rfl
def aEd(fr sl:Int)(sz:Sl)(K:bh7)(w:World):
  j3 P fD gG cz r5 Tryz.f34 #[Iv fr,Iv sl,Sv sz] K (λ_ _=>False) w=Dr (λw'=>gK P fD gG cz r5 gQ (R6 K) gQ.size (Array.replicate gQ.size false) (T0C fr sl sz) w') w:=by
 unfold j3;rw[aAT,aCO];dsimp only;rw[show(1000:Nat)=997+3 from rfl,aLj rfl rfl rfl,azR];rfl
def aD7:kP P r5 Tryz.f34 3=true:=by kernel_rfl
def aCI:ef gQ=true:=by decide+kernel
def wM:gQ.size=16:=by kernel_rfl
def aCc(K:bh7)(T:Tr)(w:World):R6 K .normal T w=K (T.get 6) w:=by kernel_rfl
variable(T:Tr)(next:Tr->bh6)(Q:Exit->Tr->bh6)
abbrev gR(i:Nat):=nd P fD gG cz r5 (Fy i) T w next Q
def FA:gR (w:=w) T next Q 0=Calls P Co #[] w λe w'=>∃p:cg,e=.returned (.pointer p)/\next (T.put (some 7) (.pointer p)) w':=by kernel_rfl
def FB:gR (w:=w) T next Q 1=next (T.put (some 8) (T.get 0)) w:=by kernel_rfl
def FD:gR (w:=w) T next Q 2=Calls P vx #[T.get 8] w λe w'=>∃a b c:cg,e=.returned (.agg #[.pointer a,.pointer b,.pointer c])/\next (T.put (some 9) (.agg #[.pointer a,.pointer b,.pointer c])) w':=by kernel_rfl
def FE:gR (w:=w) T next Q 3=next (T.put (some 10) (T.get 1)) w:=by kernel_rfl
def FF:gR (w:=w) T next Q 4=Calls P vx #[T.get 10] w λe w'=>∃a b c:cg,e=.returned (.agg #[.pointer a,.pointer b,.pointer c])/\next (T.put (some 11) (.agg #[.pointer a,.pointer b,.pointer c])) w':=by kernel_rfl
def FG:gR (w:=w) T next Q 5=next (T.put (some 12) (T.get 2)) w:=by kernel_rfl
def FH:gR (w:=w) T next Q 6=Calls P Cp #[T.get 12] w λe w'=>∃p:cg,e=.returned (.pointer p)/\next (T.put (some 13) (.pointer p)) w':=by kernel_rfl
def FI:gR (w:=w) T next Q 7=Calls P Cq #[] w λe w'=>∃p:cg,e=.returned (.pointer p)/\next (T.put (some 14) (.pointer p)) w':=by kernel_rfl
def FJ:gR (w:=w) T next Q 8=Calls P Cr #[] w λe w'=>∃p:cg,e=.returned (.pointer p)/\next (T.put (some 15) (.pointer p)) w':=by kernel_rfl
def FK:gR (w:=w) T next Q 9=Calls P Ct #[] w λe w'=>∃p:cg,e=.returned (.pointer p)/\next (T.put (some 16) (.pointer p)) w':=by kernel_rfl
def aMx:gR (w:=w) T next Q 10=mE (λq=>next (T.put (some 17) (.map (some q)))) w:=by kernel_rfl
def aMy:gR (w:=w) T next Q 11=∃x:Sl,∃w',Sem.run P (Instr.makeSlice tw (Iv 1) (Iv 1)) w=.ok (Sv x) w'/\next (T.put (some 18) (Sv x)) w':=by kernel_rfl
def aMz:gR (w:=w) T next Q 12=Al (.cells #[Iv (-1)] 3) (λq=>next (T.put (some 19) (.slice (some q) 1 1))) w:=by kernel_rfl
def aMB:gR (w:=w) T next Q 14=Al (.cells (T.get 20).cells Ck) (λq=>next (T.put (some 21) (.pointer (some q)))) w:=by kernel_rfl
def aMC:gR (w:=w) T next Q 15=next (T.put (some 6) (T.get 21)) w:=by kernel_rfl
end Go.Mp
namespace Go.Mp
open Go Go.Vc Go.Sp Go.Proofs
variable{E:Env}{L:ch}{w W:World}
def wN(t a b1 c b b2 d f g lg pg:cg)(m:Option Nat)(gs up:Sl):List Value:=
 [.pointer t,.pointer a,.pointer b1,.pointer c,.pointer b,.pointer b2,.pointer d,.pointer f,.pointer g,.pointer lg,.pointer pg,.map m,Sv gs,Sv up]
def aMA(T:Tr)(next:Tr->bh6)(Q:Exit->Tr->bh6):gR (w:=w) T next Q 13=u2 P Ck #[(0,T.get 7),(1,T.get 9),(2,T.get 11),(3,T.get 13),(4,T.get 14),(5,T.get 15),(6,T.get 16),(7,T.get 17),(8,T.get 18),(9,T.get 19)] (λv=>next (T.put (some 20) v) w):=by kernel_rfl
def aHb(t a b1 c b b2 d f g lg pg:cg)(m:Option Nat)(gs up:Sl)(F:Value->Prop):
  u2 P Ck #[(0,.pointer t),(1,.agg #[.pointer a,.pointer b1,.pointer c]),(2,.agg #[.pointer b,.pointer b2,.pointer d]),(3,.pointer f),(4,.pointer g),(5,.pointer lg),(6,.pointer pg),(7,.map m),(8,Sv gs),(9,Sv up)] F
   =F (.agg (wN t a b1 c b b2 d f g lg pg m gs up).toArray):=by kernel_rfl
def lb:List Nat:=[7,8,9,10,11,12,13,14,15,16,17,18,19,20,21,6]
def aB3:(List.range 16).map (e3 gQ)=lb:=by decide+kernel
def FL{i:Nat}(h:i<16):some (e3 gQ i)=lb[i]? :=by
 rw[<- aB3,ew,my h];rfl
def kF{i d:Nat}(h:lb[i]?=some d):e3 gQ i=d:=by
 have a:i<16:=(cT.1 h).1;have:=FL a;rw[h]at this;exact cQ this
def AB(ops:Array Oper)(i j:Nat):Bool:=match ops[i]? with
 |some o=>o.after.toList.any λe=>Region.binds .any e&&Nat.beq e.on j
 |none=>false
def R7{ops:Array Oper}{i j:Nat}(h:AB ops i j=true):waits ops i j:=by
 unfold AB at h;split at h
 ·next o ho=>
  obtain⟨e,he,a⟩:=sK.1 h;rw[dG]at a;exact⟨o,ho,e,he,a.1,je a.2⟩
 ·cases h
def ph:List (List Nat):=[[7],[8],[9],[10],[11],[12],[13],[14],[15],[16],[17],[18],[19],[20,7,9,11,13,14,15,16,17,18,19],[21,20],[6,21]]
def aDu:((List.range 16).all λi=>(List.range 16).all λj=>Nat.beq i j||AB gQ i j|| !((ph.getD i []).contains (lb.getD j 0)))=true:=by decide+kernel
def R8{i j:Nat}{T:Tr}{v:Value}(h:i<16)(c:j<16)(g:i≠j)(hw:¬ waits gQ i j):∀s∈ph.getD i [],(T.put (some (e3 gQ j)) v).get s=T.get s:=by
 intro s k;have h1:=fB.1 (fB.1 aDu i (fW.2 h)) j (fW.2 c);simp only[jr,hR]at h1;have a:=FL c;have b:lb.getD j 0=e3 gQ j:=by rw[dK,<- a];rfl
 rw[b]at h1;have f:e3 gQ j<8000:=by
  have:∀d∈lb,d<8000:=by decide
  exact this _ (eu a.symm)
 rw[Tr.dM _ _ _ _ f];split
 ·next e=>
  subst e;rcases h1 with(h1|h1)|h1;·exact absurd (je h1) g
  ·exact absurd (R7 h1) hw
  ·have:=kI.2 k;rw[h1]at this;cases this
 ·rfl
def wO(v c:Value):Asn:=e8 λb=>cC (v=Pb b) (bE b c.cells.toList)
def ow(v:Value):Prop:=∃p:cg,v=.pointer p
def wP(v:Value):Prop:=∃a b c:cg,v=.agg #[.pointer a,.pointer b,.pointer c]
noncomputable def FC(fr sl:Int)(sz:Sl):Nat->Tr->Prop
 |1,T=>T.get 8=Iv fr
 |2,T=>wP (T.get 9)
 |3,T=>T.get 10=Iv sl
 |4,T=>wP (T.get 11)
 |5,T=>T.get 12=Sv sz
 |0,T=>ow (T.get 7)
 |6,T=>ow (T.get 13)
 |7,T=>ow (T.get 14)
 |8,T=>ow (T.get 15)
 |9,T=>ow (T.get 16)
 |10,T=>∃m:Option Nat,T.get 17=.map m
 |11,T=>∃s:Sl,T.get 18=Sv s
 |12,T=>∃s:Sl,T.get 19=Sv s
 |13,T=>∃t a b1 d c b2 e f g lg pg m gs up,T.get 7=.pointer t/\T.get 9=.agg #[.pointer a,.pointer b1,.pointer d]/\T.get 11=.agg #[.pointer c,.pointer b2,.pointer e]/\T.get 13=.pointer f/\T.get 14=.pointer g/\
   T.get 15=.pointer lg/\T.get 16=.pointer pg/\T.get 17=.map m/\T.get 18=Sv gs/\T.get 19=Sv up/\T.get 20=.agg (wN t a b1 d c b2 e f g lg pg m gs up).toArray
 |14,T=>∃b,T.get 21=Pb b
 |15,T=>T.get 6=T.get 21
 |_,_=>False
noncomputable def OC(O:Nat->Value->ch):Nat->Tr->ch
 |0,T=>O 0 (T.get 7)
 |2,T=>O 1 (T.get 9)
 |4,T=>O 2 (T.get 11)
 |6,T=>O 3 (T.get 13)
 |7,T=>O 4 (T.get 14)
 |8,T=>O 5 (T.get 15)
 |9,T=>O 6 (T.get 16)
 |10,T=>O 7 (T.get 17)
 |11,T=>O 8 (T.get 18)
 |12,T=>O 9 (T.get 19)
 |14,T=>[wO (T.get 21) (T.get 20)]
 |_,_=>[]
def aMj{fr sl:Int}{sz:Sl}{i:Nat}{T T':Tr}(a:i<16)(h:∀s∈ph.getD i [],T'.get s=T.get s):FC fr sl sz i T->FC fr sl sz i T':=by
 match i,a with
 |0,_=>simp only[FC];rw[h 7 bO];exact id
 |1,_=>simp only[FC];rw[h 8 bO];exact id
 |2,_=>simp only[FC];rw[h 9 bO];exact id
 |3,_=>simp only[FC];rw[h 10 bO];exact id
 |4,_=>simp only[FC];rw[h 11 bO];exact id
 |5,_=>simp only[FC];rw[h 12 bO];exact id
 |6,_=>simp only[FC];rw[h 13 bO];exact id
 |7,_=>simp only[FC];rw[h 14 bO];exact id
 |8,_=>simp only[FC];rw[h 15 bO];exact id
 |9,_=>simp only[FC];rw[h 16 bO];exact id
 |10,_=>simp only[FC];rw[h 17 bO];exact id
 |11,_=>simp only[FC];rw[h 18 bO];exact id
 |12,_=>simp only[FC];rw[h 19 bO];exact id
 |13,_=>simp only[FC];rw[h 7 bO,h 9 bO,h 11 bO,h 13 bO,h 14 bO,h 15 bO,h 16 bO,h 17 bO,h 18 bO,h 19 bO,h 20 bO];exact id
 |14,_=>simp only[FC];rw[h 21 bO];exact id
 |15,_=>simp only[FC];rw[h 6 bO,h 21 bO];exact id
 |n+16,a=>exact absurd a bA
def aMk{O:Nat->Value->ch}{i:Nat}{T T':Tr}(a:i<16)(h:∀s∈ph.getD i [],T'.get s=T.get s):OC O i T'=OC O i T:=by
 match i,a with
 |0,_=>simp only[OC];rw[h 7 bO]
 |1,_=>rfl
 |2,_=>simp only[OC];rw[h 9 bO]
 |3,_=>rfl
 |4,_=>simp only[OC];rw[h 11 bO]
 |5,_=>rfl
 |6,_=>simp only[OC];rw[h 13 bO]
 |7,_=>simp only[OC];rw[h 14 bO]
 |8,_=>simp only[OC];rw[h 15 bO]
 |9,_=>simp only[OC];rw[h 16 bO]
 |10,_=>simp only[OC];rw[h 17 bO]
 |11,_=>simp only[OC];rw[h 18 bO]
 |12,_=>simp only[OC];rw[h 19 bO]
 |13,_=>rfl
 |14,_=>simp only[OC];rw[h 21 bO,h 20 bO]
 |15,_=>rfl
 |n+16,a=>exact absurd a bA
structure qn(E:Env)(L0:ch)(fr sl:Int)(sz:Sl)(O:Nat->Value->ch):Prop where
 tree:∀ {L w},Sep E L w->Calls P Co #[] w (bW λv w'=>ow v/\Sep E (O 0 v++L) w')
 bN:∀ {L w},Sep E L w->Calls P vx #[Iv fr] w (bW λv w'=>wP v/\Sep E (O 1 v++L) w')
 bR:∀ {L w},Sep E L w->Calls P vx #[Iv sl] w (bW λv w'=>wP v/\Sep E (O 2 v++L) w')
 files:∀ {R w},Sep E (R++L0) w->Calls P Cp #[Sv sz] w (bW λv w'=>ow v/\Sep E (O 3 v++(R++L0)) w')
 bY:∀ {L w},Sep E L w->Calls P Cq #[] w (bW λv w'=>ow v/\Sep E (O 4 v++L) w')
 log:∀ {L w},Sep E L w->Calls P Cr #[] w (bW λv w'=>ow v/\Sep E (O 5 v++L) w')
 bz:∀ {L w},Sep E L w->Calls P Ct #[] w (bW λv w'=>ow v/\Sep E (O 6 v++L) w')
 kept:∀ {L w b},Sep E (cB b (Value.int .i64) (λ_=>none)::L) w->Sep E (O 7 (.map (some b))++L) w
 guards:∀ {L w b},Sep E (bE b [Iv 0,Iv 0,.bool false]::L) w->Sep E (O 8 (.slice (some ⟨b,0,none⟩) 1 1)++L) w
 up:∀ {L w b},Sep E (bE b [Iv (-1)]::L) w->Sep E (O 9 (.slice (some ⟨b,0,none⟩) 1 1)++L) w
def hA(T:Tr)(d:Nat)(v:Value)(h:d<8000):(T.put (some d) v).get d=v:=by rw[Tr.dM _ _ _ _ h,bM rfl]
def lf(T:Tr){d s:Nat}(v:Value)(h:d<8000)(a:s≠d):(T.put (some d) v).get s=T.get s:=by rw[Tr.dM _ _ _ _ h,bJ a]
def aHC{α:Type _}(A L:List α)(x:α):((A++[x])++L).Perm (x::(A++L)):=by
 rw[dc];exact il
def aFB{fr sl:Int}{sz:Sl}{O:Nat->Value->ch}(H:qn E L fr sl sz O)(h:Sep E L w):Calls P Cm #[Iv fr,Iv sl,Sv sz] w (bW λv w'=>
  ∃b t J b1 N K b2 Q f g lg pg m gs up,v=Pb b/\Sep E (bE b (wN t J b1 N K b2 Q f g lg pg m gs up)::
   (O 0 (.pointer t)++(O 1 (.agg #[.pointer J,.pointer b1,.pointer N])++(O 2 (.agg #[.pointer K,.pointer b2,.pointer Q])++(O 3 (.pointer f)++(O 4 (.pointer g)++(O 5 (.pointer lg)++(O 6 (.pointer pg)++(O 7 (.map m)++
    (O 8 (Sv gs)++(O 9 (Sv up)++L))))))))))) w'):=by
 refine BO (τ:=fD) (ρ:=gG) (cz:=cz) (A:=r5) mixed Tryz.func34 aD7 ?_;rw[aEd];refine Dr.i h (λar h1=>?_);refine aJJ (λT=>T.get 0=Iv fr/\T.get 1=Iv sl/\T.get 2=Sv sz) (FC fr sl sz) (OC O) aCI ?_ ?_ ?_ ?_ ?_ ?_ h1
 ·rintro T i v u ⟨ah,ai,aj⟩;rw[wM]at u;have am:=FL u;have:∀d∈lb,d<8000/\0≠d/\1≠d/\2≠d:=by decide
  obtain⟨k,k0,an,ao⟩:=this _ (eu am.symm);rw[lf _ _ k k0,lf _ _ k an,lf _ _ k ao];exact⟨ah,ai,aj⟩
 ·intro i j T v u x S hw;rw[wM]at u x;exact aMj u (R8 u x S hw)
 ·intro i j T v u x S hw;rw[wM]at u x;exact aMk u (R8 u x S hw)
 ·intro T w i o R hx ho ab s next q
  have u:i<16:=by rw[<- wM];exact(pv.1 ho).1
  have ag:Fy i=o:=by unfold Fy;rw[ho];rfl
  have l:∀j,AB gQ i j=true->FC fr sl sz j T:=by
   intro j x;obtain⟨aq,Y,e,he,aa,rfl⟩:=R7 x;rw[ho]at Y;cases Y;exact ab e he aa
  subst ag
  match i,u with
  |0,_=>
   rw[kF (d:=7) rfl]at q;refine(FA T next _).mpr ?_;refine use (H.tree s) ?_;rintro _ w2 ⟨⟨p,rfl⟩,r⟩;refine⟨p,rfl,q _ _ ?_ ?_⟩;·simp only[FC];rw[hA _ _ _ bO];exact⟨p,rfl⟩
   ·simp only[OC];rw[hA _ _ _ bO];exact r
  |1,_=>
   rw[kF (d:=8) rfl]at q;refine(FB T next _).mpr ?_;refine q _ _ ?_ s;simp only[FC];rw[hA _ _ _ bO];exact hx.1
  |2,_=>
   rw[kF (d:=9) rfl]at q;have e:T.get 8=Iv fr:=l 1 (by decide+kernel);refine(FD T next _).mpr ?_;rw[e];refine use (H.bN s) ?_;rintro _ w2 ⟨⟨a,b,c,rfl⟩,r⟩;refine⟨a,b,c,rfl,q _ _ ?_ ?_⟩;·simp only[FC];rw[hA _ _ _ bO];exact⟨a,b,c,rfl⟩
   ·simp only[OC];rw[hA _ _ _ bO];exact r
  |3,_=>
   rw[kF (d:=10) rfl]at q;refine(FE T next _).mpr ?_;refine q _ _ ?_ s;simp only[FC];rw[hA _ _ _ bO];exact hx.2.1
  |4,_=>
   rw[kF (d:=11) rfl]at q;have e:T.get 10=Iv sl:=l 3 (by decide+kernel);refine(FF T next _).mpr ?_;rw[e];refine use (H.bR s) ?_;rintro _ w2 ⟨⟨a,b,c,rfl⟩,r⟩;refine⟨a,b,c,rfl,q _ _ ?_ ?_⟩;·simp only[FC];rw[hA _ _ _ bO];exact⟨a,b,c,rfl⟩
   ·simp only[OC];rw[hA _ _ _ bO];exact r
  |5,_=>
   rw[kF (d:=12) rfl]at q;refine(FG T next _).mpr ?_;refine q _ _ ?_ s;simp only[FC];rw[hA _ _ _ bO];exact hx.2.2
  |6,_=>
   rw[kF (d:=13) rfl]at q;have e:T.get 12=Sv sz:=l 5 (by decide+kernel);refine(FH T next _).mpr ?_;rw[e];refine use (H.files s) ?_;rintro _ w2 ⟨⟨p,rfl⟩,r⟩;refine⟨p,rfl,q _ _ ?_ ?_⟩;·simp only[FC];rw[hA _ _ _ bO];exact⟨p,rfl⟩
   ·simp only[OC];rw[hA _ _ _ bO];exact r
  |7,_=>
   rw[kF (d:=14) rfl]at q;refine(FI T next _).mpr ?_;refine use (H.bY s) ?_;rintro _ w2 ⟨⟨p,rfl⟩,r⟩;refine⟨p,rfl,q _ _ ?_ ?_⟩;·simp only[FC];rw[hA _ _ _ bO];exact⟨p,rfl⟩
   ·simp only[OC];rw[hA _ _ _ bO];exact r
  |8,_=>
   rw[kF (d:=15) rfl]at q;refine(FJ T next _).mpr ?_;refine use (H.log s) ?_;rintro _ w2 ⟨⟨p,rfl⟩,r⟩;refine⟨p,rfl,q _ _ ?_ ?_⟩;·simp only[FC];rw[hA _ _ _ bO];exact⟨p,rfl⟩
   ·simp only[OC];rw[hA _ _ _ bO];exact r
  |9,_=>
   rw[kF (d:=16) rfl]at q;refine(FK T next _).mpr ?_;refine use (H.bz s) ?_;rintro _ w2 ⟨⟨p,rfl⟩,r⟩;refine⟨p,rfl,q _ _ ?_ ?_⟩;·simp only[FC];rw[hA _ _ _ bO];exact⟨p,rfl⟩
   ·simp only[OC];rw[hA _ _ _ bO];exact r
  |10,_=>
   rw[kF (d:=17) rfl]at q;refine(aMx T next _).mpr ?_;refine cB.new (enc:=Value.int .i64) s (λb w2 r=>q _ _ ?_ ?_);·simp only[FC];rw[hA _ _ _ bO];exact⟨some b,rfl⟩
   ·simp only[OC];rw[hA _ _ _ bO];exact H.kept r
  |11,_=>
   rw[kF (d:=18) rfl]at q;refine(aMy T next _).mpr ?_;refine makeSlice.i s (by kernel_rfl:g9 P tw=some (24,3,[Iv 0,Iv 0,.bool false])) bO (e7 _) bO bO (λb w2 r=>q _ _ ?_ ?_);·simp only[FC];rw[hA _ _ _ bO];exact⟨⟨some ⟨b,0,none⟩,1,1⟩,rfl⟩
   ·simp only[OC];rw[hA _ _ _ bO];exact H.guards r
  |12,_=>
   rw[kF (d:=19) rfl]at q;refine(aMz T next _).mpr ?_;refine Al.i s (λb w2 r=>q _ _ ?_ ?_);·simp only[FC];rw[hA _ _ _ bO];exact⟨⟨some ⟨b,0,none⟩,1,1⟩,rfl⟩
   ·simp only[OC];rw[hA _ _ _ bO];exact H.up r
  |13,_=>
   rw[kF (d:=20) rfl]at q;obtain⟨t,U⟩:=l 0 (by decide+kernel);obtain⟨J,b1,N,V⟩:=l 2 (by decide+kernel);obtain⟨K,b2,Q,y⟩:=l 4 (by decide+kernel);obtain⟨f,z⟩:=l 6 (by decide+kernel);obtain⟨g,B⟩:=l 7 (by decide+kernel);obtain⟨lg,C⟩:=l 8 (by decide+kernel);obtain⟨pg,D⟩:=l 9 (by decide+kernel);obtain⟨m,F⟩:=l 10 (by decide+kernel);obtain⟨gs,G⟩:=l 11 (by decide+kernel);obtain⟨up,I⟩:=l 12 (by decide+kernel);refine(aMA T next _).mpr ?_;rw[U,V,y,z,B,C,D,F,G,I,aHb];refine q _ _ ?_ s;simp only[FC];rw[hA _ _ _ bO];have k:(20:Nat)<8000:=by decide
   rw[lf _ _ k bO,lf _ _ k bO,lf _ _ k bO,lf _ _ k bO,lf _ _ k bO,lf _ _ k bO,lf _ _ k bO,lf _ _ k bO,lf _ _ k bO,lf _ _ k bO];exact⟨t,J,b1,N,K,b2,Q,f,g,lg,pg,m,gs,up,U,V,y,z,B,C,D,F,G,I,rfl⟩
  |14,_=>
   rw[kF (d:=21) rfl]at q;refine(aMB T next _).mpr ?_;refine Al.i s (λb w2 r=>q _ _ ?_ ?_);·simp only[FC];rw[hA _ _ _ bO];exact⟨b,rfl⟩
   ·simp only[OC];rw[hA _ _ _ bO,lf _ _ bO bO];exact Sep.ex.2 ⟨b,Sep.cC.2 ⟨rfl,r⟩⟩
  |15,_=>
   rw[kF (d:=6) rfl]at q;refine(aMC T next _).mpr ?_;refine q _ _ ?_ s;simp only[FC];rw[hA _ _ _ bO,lf _ _ bO bO]
  |n+16,u=>exact absurd u bA
 ·intro T w2 M hx W al hp;rw[aCc];rw[wM]at W hp;obtain⟨t,J,b1,N,K,b2,Q,f,g,lg,pg,m,gs,up,U,V,y,z,B,C,D,F,G,I,ad⟩:=W 13 bO;obtain⟨b,X⟩:=W 14 bO;have ak:T.get 6=T.get 21:=W 15 bO;rw[ak,X];refine⟨b,t,J,b1,N,K,b2,Q,f,g,lg,pg,m,gs,up,rfl,?_⟩;have ae:=al.perm (sG L hp);have e:((List.range 16).flatMap λi=>OC O i T)=(O 0 (T.get 7)++(O 1 (T.get 9)++(O 2 (T.get 11)++(O 3 (T.get 13)++(O 4 (T.get 14)++(O 5 (T.get 15)++(O 6 (T.get 16)++(O 7 (T.get 17)++(O 8 (T.get 18)++O 9 (T.get 19))))))))))++[wO (T.get 21) (T.get 20)]:=by
   rw[show List.range 16= [0,1,2,3,4,5,6,7,8,9,10,11,12,13,14,15]from rfl];simp only[nX,List.flatMap_nil,hF,lR,OC,dc]
  rw[e,U,V,y,z,B,C,D,F,G,I,ad,X]at ae;have af:=ae.perm (aHC _ _ _);simp only[dc]at af;obtain⟨ap,Z⟩:=Sep.ex.1 af;obtain⟨aa,Z⟩:=Sep.cC.1 Z;cases aa;exact Z
 ·refine⟨by kernel_rfl,by kernel_rfl,by kernel_rfl⟩
end Go.Mp
