/- A part of the proof. -/
import Derived.Test.YtafigbgagbolgaaGreatDoorD12
set_option linter.all false
set_option maxRecDepth 100000
open Go.IntKind(i64 u64)
open Go.Proofs.Tryz
namespace Go.Mp.Gp
open Go Go.Vc Go.Sp Go.Proofs Go.Shelf Go.Stab Go.Kc Go.Mp
variable{E:Env}{L:cr}{w:bI}{R:bA dI}{l:Nat}
def EP{s:Sl}{gs:bS}(a:Ints E L s gs)(hb:gs.length<4611686018427387904)(v:Int)(h:Sep E L w):Calls P qe #[Sv s,Iv v] w (cZ E (.bool (gs.contains v)) L):=by
 apply Ef;unfold zp qQ;have d:Calls P vL #[Sv s,Iv v] w (cC λr w'=>∃i:Int,r=Iv i/\(decide (i≥0)=gs.contains v)/\Sep E L w'):=by
  apply Ek;unfold zr qD qO qW;refine⟨λi w=>∃k:Nat,i=k/\k<=gs.length/\(∀j,j<k->gs[j]? ≠some v)/\Sep E L w,λi _=>(gs.length-i).toNat,⟨0,rfl,dX _,λj b=>absurd b (Nat.not_lt_zero _),h⟩,?_⟩;rintro _ i n ⟨k,rfl,hk,c,h1⟩;have q:=a.1;rw[a.1];refine cU (λp=>?_) (λo=>⟨-1,rfl,?_,h1⟩)
  ·have hx:gs[k]?=some (gs[k]'bu):=du;generalize gs[k]'(bu)=x at hx;rw[<- a.1];refine a.el h1 k rfl hx (eC (λe=>⟨_,rfl,?_,h1⟩) (λg=>?_))
   ·have:v∈gs:=by rw[e];exact eG hx
    rw[lq.2 this];simp
   ·rw[cX bu bu];refine⟨⟨k+1,bu,bu,λj b=>?_,h1⟩,by dsimp only;omega⟩;by_cases f:j=k;·subst f;rw[hx];intro e;exact g (cV e).symm
    ·exact c j bu
  ·have:¬ v∈gs:=by
    intro hm;obtain⟨j,b,e⟩:=jn.1 hm;exact c j bu (by rw[ea b,e])
   have h2:gs.contains v=false:=by rw[uK];intro l;exact this (lq.1 l)
   rw[h2];rfl
 refine use d ?_;rintro _ n ⟨i,rfl,m,h1⟩;exact⟨_,rfl,by rw[m],h1⟩
def kV(R:bA dI)(k:Int):Int:=(fq R k).elim 0 (·.dD)
def uf(R:bA dI)(a b:Int):Prop:=kV R b<kV R a\/(kV R a=kV R b/\a<b)
def FM(R:bA dI)(a b:Int):Bool:=decide (kV R b<kV R a)
def AF(R:bA dI):lO (uf R) (· < ·) (FM R):=by
 refine⟨⟨λx y z h1 h2=>?_,λx h=>?_,λx y h=>?_⟩,λx y h=>bu,λx y h=>?_⟩;·unfold uf at *;omega
 ·unfold uf at h;omega
 ·unfold uf;omega
 ·unfold FM uf;rw[decide_eq_true_iff];constructor;·exact .inl
  ·rintro(h1|⟨h1,h2⟩);·exact h1
   ·exact absurd h2 (by have:x<y:=h;omega)
def Sa(x:Int)(w:bI):Calls P DU #[Iv x] w (cC λv w'=>v=.bool false/\w'=w):=by
 apply Y9;exact⟨by simp,rfl⟩
def aFQ(x y:Int)(w:bI):Calls P Ku #[Iv x,Iv y] w (cC λv w'=>∃r:Int,v=Iv r/\decide (r<0)=decide (x<y)/\w'=w):=by
 apply YY;unfold Ni qF;refine use (Sa x w) ?_;rintro _ _ ⟨rfl,rfl⟩;refine⟨_,rfl,use (Sa y _) ?_⟩;rintro _ _ ⟨rfl,rfl⟩;refine⟨_,rfl,dQ (dQ (cU (λh=>⟨-1,rfl,by simp[h],rfl⟩) (λh=>gv (λh2=>⟨1,rfl,?_,rfl⟩) (λh2=>⟨0,rfl,?_,rfl⟩))))⟩;·rw[dq (show ¬ x<y by omega)];rfl
 ·rw[dq (show ¬ x<y by omega)];rfl
structure kW(R:bA dI)(gs:bS)(o:bS):Prop where
 ord:o.Pairwise (uf R)
 mem:∀k,k∈o↔∃e,fq R k=some e/\e.group∈gs
def wL{α:Type}{r:α->α->Prop}(c:∀x,¬ r x x)(g:∀x y z,r x y->r y z->r x z):∀ {a b:bA α},a.Pairwise r->b.Pairwise r->(∀k,k∈a↔k∈b)->a=b
 |[],[],_,_,_=>rfl
 |[],y::b,_,_,h=>by have:=(h y).2 (by simp);cases this
 |x::a,[],_,_,h=>by have:=(h x).1 (by simp);cases this
 |x::a,y::b,j,hb,h=>by
  have d:=ht.1 j;have f:=ht.1 hb;have i:x=y:=by
   rcases eH.1 ((h x).1 (by simp))with e|e;·exact e
   ·rcases eH.1 ((h y).2 (by simp))with e' | e';·exact e'.symm
    ·exact absurd (g _ _ _ (f.1 x e) (d.1 y e')) (c _)
  subst i;rw[wL c g d.2 f.2 (λk=>⟨λhk=>?_,λhk=>?_⟩)]
  ·rcases eH.1 ((h k).1 (gn _ hk))with e|e;·rw[e]at hk;exact absurd (d.1 _ hk) (c _)
   ·exact e
  ·rcases eH.1 ((h k).2 (gn _ hk))with e|e;·rw[e]at hk;exact absurd (f.1 _ hk) (c _)
   ·exact e
def kW.eq{gs o o':bS}(h:kW R gs o)(h':kW R gs o'):o=o':=
 wL (AF R).ord.vj (AF R).ord.trans h.ord h'.ord (λk=>by rw[h.mem,h'.mem])
def aJ7(G:Kc.Good R){s:Sl}{gs:bS}(T:Ints E L s gs)(hb:gs.length<4611686018427387904)(h:Sep E (fA l R::L) w):
  Calls P J8 #[Pb l,Sv s] w (cC λv w'=>∃(t:Sl) (o:bS),v=Sv t/\t.n=o.length/\kW R gs o/\Sep E (bw t 1 (bC o)::fA l R::L) w'):=by
 apply Yj;unfold MG qE qJ qM qN qb;refine Al.i h (λp W h1=>Al.i h1 (λB w2 h2=>?_));have h2:Sep E (bD B [Sv s]::bD p [Pb l]::fA l R::L) w2:=h2;refine ld h2 1 rfl rfl rfl ⟨_,rfl,?_⟩;obtain⟨m,A⟩:=fA.open (h2.fr 2 rfl);have A:Sep E (cM m encI (gm R)::bD l [.map (some m)]::bD B [Sv s]::bD p [Pb l]::L) w2:=A.ro 4 [1,0,2,3] rfl;refine ld A 1 rfl rfl rfl (aAj (N:=16777217) A (q:=0) rfl (λk v hk=>?_) bN (λt ks X hn j S=>?_))
 ·unfold gm at hk;cases hf:fq R k with
  |none=>rw[hf]at hk;cases hk
  |some e=>
   obtain⟨h1,h2⟩:=(k7 G.c1).1 hf;have:=(G.ok e h1).1;omega
 have n:∀k,k∈ks↔(fq R k).isSome=true:=λk=>by
  rw[j.mem];unfold gm;cases fq R k<;>rfl
 have U:ks.length<=16777217:=by
  refine r1 16777217 ks (nx.2 (j.c1.imp (λV he=>bu))) (λx hx=>?_);obtain⟨e,he⟩:=jf.1 ((n x).1 hx);obtain⟨h1,h2⟩:=(k7 G.c1).1 he;have:=(G.ok e h1).1;omega
 obtain⟨M,g⟩:∃M,M=cM m encI (gm R)::bD l [.map (some m)]::bD B [Sv s]::bD p [Pb l]::L:=⟨_,rfl⟩
 have O:Ints E M s gs:=by rw[g];exact T.cons.cons.cons.cons
 let q:Int->Bool:=λid=> !(gs.contains ((fq R id).elim 0 (·.group)));refine use (QS (L:=M) (q:=q) ?_ hn bu (by rw[g];exact S)) ?_
 ·intro r _ x J _ C;refine⟨Kq,_,rfl,by kernel_rfl,?_⟩;refine use (K:=λv w'=>v=.bool (q x)/\Sep E (bw t 1 (bC r)::M) w') (YV x ⟨B,0,none⟩ ⟨p,0,none⟩ ?_) (λv w' ⟨H,F⟩=>⟨by rw[H],F⟩);unfold Nf qF qM qb qc;refine Dr.i C (λZ c=>?_);have b:=c;rw[g]at b;refine ld (x:=s) b 3 rfl rfl rfl (ld b 4 rfl rfl rfl ⟨_,rfl,ld b 2 rfl rfl rfl ⟨_,_,Fv (i:=1) b rfl x,use (EP O.cons hb _ c) ?_⟩⟩);rintro _ Q ⟨rfl,f⟩;exact⟨_,rfl,rfl,f⟩
 rintro _ Y ⟨u,rfl,hu,C⟩;have hlen:(ks.filter λx=> !q x).length<=ks.length:=mw _ _;refine⟨u,rfl,use (E8 (AF R) (j.c1.filter _) hu bu ?_ C) ?_⟩
 ·intro r x y J _ c;refine⟨Ks,_,rfl,by kernel_rfl,?_⟩;refine use (K:=λv w'=>∃z:Int,v=Iv z/\decide (z<0)=FM R x y/\Sep E (bw u 1 (bC r)::M) w') (YX x y ⟨p,0,none⟩ ?_) (λv w' ⟨z,H,I,F⟩=>⟨z,by rw[H],I,F⟩);unfold Nh qM qQ qb;refine Dr.i c (λQ f=>?_);have a:=f;rw[g]at a;refine ld a 4 rfl rfl rfl ⟨_,rfl,ld a 2 rfl rfl rfl ⟨_,_,Fv (i:=1) a rfl y,?_⟩⟩;refine ld a 4 rfl rfl rfl ⟨_,rfl,ld a 2 rfl rfl rfl ⟨_,_,Fv (i:=1) a rfl x,use (aFQ _ _ Q) ?_⟩⟩;rintro _ _ ⟨z,rfl,I,rfl⟩;exact⟨_,rfl,z,rfl,I,f⟩
 ·rintro _ J ⟨rfl,o,d,D,c⟩;refine⟨rfl,u,o,rfl,by rw[hu,d.length_eq],⟨D,λk=>?_⟩,?_⟩
  ·rw[d.mem_iff,gp,n];cases hf:fq R k with
   |none=>simp
   |some e=>simp[q,hf]
  ·rw[g]at c;have f:Sep E (bD l [.map (some m)]::cM m encI (gm R)::bw u 1 (bC o)::L) J:=c.ro 5 [2,1,0] rfl;exact(fA.shut f).swap
end Go.Mp.Gp
namespace Go.Kc
open Go Go.Kt
def Sb{R:bA dI}(G:Good R)(gs:bS):Go.Mp.Gp.kW R gs (jw R gs):=by
 have c:∀e∈R,Go.Mp.Gp.kV R e.id=e.dD:=λe he=>by
  unfold Go.Mp.Gp.kV;rw[(k7 G.c1).2 ⟨he,rfl⟩];rfl
 refine⟨?_,λk=>⟨λhk=>?_,?_⟩⟩
 ·unfold jw;rw[List.pairwise_flatMap];refine⟨λa _=>?_,?_⟩
  ·rw[kk];refine G2 (λ{x y} hx d j=>?_) (G.c1.filter _);rw[gp,dF]at hx d;have h1:x.dD=a:=by simpa using hx.2.2
   have h2:y.dD=a:=by simpa using d.2.2
   right;rw[c x hx.1,c y d.1];exact⟨by rw[h1,h2],j⟩
  ·have h:([3,2,1,0]:bS).Pairwise (λa b=>b<a):=by decide
   refine h.imp (λ{a b} i x hx y d=>?_);obtain⟨e,he,rfl⟩:=fD.1 hx;obtain⟨f,hf,rfl⟩:=fD.1 d;rw[gp,dF]at he hf;have h1:e.dD=a:=by simpa using he.2.2
   have h2:f.dD=b:=by simpa using hf.2.2
   left;rw[c e he.1,c f hf.1,h1,h2];exact i
 ·obtain⟨e,he,rfl,g⟩:=yb hk;exact⟨e,(k7 G.c1).2 ⟨he,rfl⟩,g⟩
 ·rintro⟨e,he,g⟩;obtain⟨h1,rfl⟩:=(k7 G.c1).1 he;have h2:=(G.ok e h1).2.2;unfold jw;refine Bg.2 ⟨e.dD,?_,fD.2 ⟨e,gp.2 ⟨h1,by simpa using g⟩,rfl⟩⟩;have:e.dD=0\/e.dD=1\/e.dD=2\/e.dD=3:=by omega
  rcases this with h|h|h|h<;>simp[h]
variable{S:Cs}
def Inv0.j7(h:Inv0 S)(g:Int):S.memory g<2147483648:=by
 unfold Cs.memory;by_cases b:0<=g/\g<64
 ·rw[h.fr.use g b.1 b.2];have h1:jx S.bt 1 (below S.tree g)<=jx S.bt 1 (λ_=>true):=by
   unfold jx;refine VP (λi _ c=>?_);unfold nf at c ⊢;revert c;cases S.bt.pg (i:Int)with
   |none=>exact id
   |some p=>simp only[pB,dF,Bool.and_true];exact λh=>h.1
  rw[<- h.fr.all]at h1;have h2:=Ui (a:=true) (l:=S.fr.cb);have d:=h.fr.eI;omega
 ·have:gg g=false:=by unfold gg;rw[Bool.and_eq_false_iff];simp;omega
  unfold c0 hO;rw[this];show(0:Int)<2147483648;decide
end Go.Kc
namespace Go.Mp
open Go Go.Vc Go.Sp Go.Proofs Go.Kc
variable{E:Env}{L:cr}{w:bI}{A:At}{S:Cs}
def Sc{y:bH}{hB:Int->Bool}{o:bS}{a:Sl}{f d:Nat}(hw:Kt.WF S.tree)(G:Kc.Good S.bV)(u:a.n=o.length)(hb:o.length<100000000)(B:∀(x:Int) (X:Asn) (w:bI),(∃id∈o,x=(S.bt.get id).1.owner)->Sep E (ch A S++X::bD f [Sv a]::bw a 1 (bC o)::bD d [Pb A.c]::L) w->
   fe P y #[Iv x] w λe w'=>e=.returned (.bool (hB x))/\Sep E (ch A S++X::bD f [Sv a]::bw a 1 (bC o)::bD d [Pb A.c]::L) w')(h:Sep E (ch A S++bD f [Sv a]::bw a 1 (bC o)::bD d [Pb A.c]::L) w):
  Calls P Dt #[y,Pb f,Pb d] w (cC λv w'=>v=.bool (pass hB o S).2/\
   Sep E (ch A (pass hB o S).1++bD f [Sv a]::bw a 1 (bC o)::bD d [Pb A.c]::L) w'):=by
 apply Yk;unfold MH qD qF qL qO qU qV qW qX qZ qb qc;refine⟨a,h.cellAt 16 rfl 0,?_⟩;refine⟨λx w'=>∃k:Nat,x=k/\k<=o.length/\pass hB o S=pass hB (o.drop k) S/\Sep E (ch A S++bD f [Sv a]::bw a 1 (bC o)::bD d [Pb A.c]::L) w',λx _=>(o.length-x).toNat,⟨0,rfl,dX _,rfl,h⟩,?_⟩;rintro _ _ H ⟨k,rfl,hk,hp,h1⟩;refine cU (λF=>?_) (λD=>?_)
 ·have g:k<o.length:=by omega
  obtain⟨id,eD⟩:∃id,o[k]?=some id:=⟨_,ea g⟩
  have n:o.drop k=id::o.drop (k+1):=by rw[kZ g];rw[ea g]at eD;rw[cV eD]
  have j:(((o.length:Nat):Int)-((k+1:Nat):Int)).toNat<(((o.length:Nat):Int)-(k:Int)).toNat:=by omega
  refine(Ints.at_ (q:=17) rfl u).el h1 k rfl eD ?_;refine ld h1 18 rfl rfl rfl ⟨_,rfl,ld h1 0 rfl rfl rfl (use (Tp.pw id (h1.fr 11 rfl)) ?_)⟩;rintro _ w2 ⟨rfl,h2⟩;have h2:=h2.put (q:=11) rfl;have h2:Sep E (ch A S++bD f [Sv a]::bw a 1 (bC o)::bD d [Pb A.c]::L) w2:=h2;obtain⟨p,i⟩:∃p,(S.bt.get id).1=p:=⟨_,rfl⟩
  rw[i];refine⟨_,_,_,_,_,_,_,_,_,_,rfl,Al.i h2 (λb I z=>ey (vs:=p.vs) _ z rfl (λC m=>?_))⟩;have m:Sep E (ch A S++bD b p.vs::bD f [Sv a]::bw a 1 (bC o)::bD d [Pb A.c]::L) C:=Sep.eK m;refine ld m 16 rfl rfl rfl (fe.use (B p.owner _ _ ⟨id,eG eD,by rw[i]⟩ m) ?_);rintro e J ⟨rfl,r⟩;refine⟨_,rfl,cy (λl=>?_) (λc=>?_)⟩
  ·have l:hB p.owner=false:=by simpa using l
   refine ld r 19 rfl rfl rfl (use (aL7 id hw G r) ?_);rintro _ K ⟨rfl,s⟩;have t:pass hB (o.drop k) S=if(S.out id).2 then((S.out id).1,true)else pass hB (o.drop (k+1)) (S.out id).1:=by
    rw[n,pass,i,l];rfl
   refine⟨_,rfl,cy (λho=>?_) (λho=>?_)⟩
   ·rw[hp,t,bK ho];exact⟨rfl,s.cut⟩
   ·rw[c4];rw[s8 ho]at s;exact⟨⟨k+1,rfl,g,by rw[hp,t,bJ (by rw[ho];decide),s8 ho],s.cut⟩,j⟩
  ·have c:hB p.owner=true:=by simpa using c
   rw[c4];refine⟨⟨k+1,rfl,g,?_,r.cut⟩,j⟩;rw[hp,n,pass,i,c];rfl
 ·have:k=o.length:=by omega
  rw[this,xC]at hp;rw[hp];exact⟨rfl,h1⟩
end Go.Mp
namespace Go.Sp
open Go
variable{E:Env}{L Q:cr}{w:bI}
def Sep.wM(a:cr)(h:Sep E (a++(Q++L)) w):Sep E (Q++(a++L)) w:=h.perm (by
 rw[<- dp,<- dp];exact sC _ mu)
end Go.Sp
namespace Go.Mp
open Go Go.Vc Go.Sp Go.Proofs Go.Kc
variable{E:Env}{L:cr}{w:bI}{A:At}{S:Cs}
def FN{l:bA Kt.G}{g:Int}(h:Kt.dB l g=true):0<=g/\g<l.length:=by
 obtain⟨n,rfl,x,hx,_⟩:=Kt.jg.1 h;have:=(c2.1 hx).1;omega
def Sd(j:Inv S){t:Int}{all:Bool}{sg:Sl}{gs:bS}(ai:Ints E L sg gs)(al:gs.length<=64)(h:Sep E (ch A S++L) w):
  Calls P yQ #[Pb A.c,Iv t,Sv sg,.bool all] w (cZ E (.bool (S.cT t gs all).2) (ch A (S.cT t gs all).1++L)):=by
 have C:S.guards.length<=64:=by rw[j.gl];exact j.wf.eI
 apply asM;refine Al.i h (λf aj h1=>?_);have h1:Sep E (ch A S++bD f [Pb A.c]::L) aj:=Sep.eK h1;refine⟨some ⟨A.c,0,none⟩,h1.cellAt 16 rfl 0,_,rfl,ld h1 0 rfl rfl rfl (use (kQ h1 (q:=1) rfl) ?_)⟩;rintro _ _ ⟨rfl,rfl⟩;refine⟨_,rfl,cy (λW=>?_) (λhl=>?_)⟩
 ·have W:S.live t=false:=by
   have:Kt.dB S.tree t=false:=by simpa using W
   exact this
  have e:S.cT t gs all=(S,false):=by unfold Cs.cT;rw[bK W]
  rw[e];exact⟨rfl,h1.cut⟩
 have hl:S.live t=true:=by
  have:Kt.dB S.tree t=true:=by simpa using hl
  exact this
 obtain⟨mn,F⟩:∃mn,S.held t eP.min=mn:=⟨_,rfl⟩
 obtain⟨lw,D⟩:∃lw,S.held t eP.low=lw:=⟨_,rfl⟩
 have an:mn.length=S.guards.length:=by rw[<- F];exact wH _ _
 have am:lw.length=S.guards.length:=by rw[<- D];exact wH _ _
 obtain⟨M,B⟩:∃M,M=ch A S++bD f [Pb A.c]::L:=⟨_,rfl⟩
 refine⟨λa b w'=>∃(s1 s2:Sl) (p q:Nat),a=some ⟨p,0,none⟩/\b=some ⟨q,0,none⟩/\s1.n=mn.length/\s2.n=lw.length/\
  Sep E (bw s1 1 (en mn)::bw s2 1 (en lw)::bD p [Sv s1]::bD q [Sv s2]::M) w',Dr.i h1 (λw2 h2=>?_),?_⟩
 ·have G:∀ {R:cr} {w:bI},Sep E (R++M) w->Sep E (ch A S++(bD f [Pb A.c]::L++R)) w:=by
   intro R w d;have:=d.perm mu;rw[B,dp]at this;exact this
  have n:∀ {R:cr} {w:bI} {X:Asn},Sep E (ch A S++X::(bD f [Pb A.c]::L++R)) w->Sep E (X::(R++M)) w:=by
   intro R w X d;refine(Sep.mT d).perm (List.Perm.cons _ ?_);rw[<- dp,<- B];exact mu
  refine aMa (M:=M) (c:=A.c) (bx:=f) (t:=t) (mn:=mn) (lw:=lw) ?_ ?_ ?_ cE cE (by rw[B];exact h2) ?_
  ·intro R w d;have:=d.right;rw[B]at this;exact this.cellAt 16 rfl 0
  ·intro R w d;refine use (AA RW j.gl C j.j7 (G d)) ?_;rintro _ w' ⟨e,rfl,he,k⟩;rw[F]at he k;exact⟨_,rfl,e,rfl,he,n k⟩
  ·intro R w d;refine use (AA RX j.gl C j.j7 (G d)) ?_;rintro _ w' ⟨e,rfl,he,k⟩;rw[D]at he k;exact⟨_,rfl,e,rfl,he,n k⟩
  ·intro s1 s2 p q w' af ag d;exact⟨s1,s2,p,q,rfl,rfl,af,ag,d⟩
 rintro _ _ _ w2 ⟨s1,s2,p,q,rfl,rfl,O,ad,h2⟩;rw[B]at h2;have h2:=Sep.wM [bw s1 1 (en mn),bw s2 1 (en lw),bD p [Sv s1],bD q [Sv s2]] (Q:=ch A S) h2;have h2:Sep E (ch A S++bw s1 1 (en mn)::bw s2 1 (en lw)::bD p [Sv s1]::bD q [Sv s2]::bD f [Pb A.c]::L) w2:=h2;refine⟨_,h2.cellAt 20 rfl 0,_,rfl,ld h2 0 rfl rfl rfl (use (Gp.aJ7 j.eF (ai.cons.cons.cons.cons.cons.er (A:=A) (S:=S) (q:=9) bN) bu (h2.fr 9 rfl)) ?_)⟩;rintro _ ao ⟨i,o,rfl,U,ho,V⟩;have ho:=ho.eq (Sb j.eF gs);subst ho;have V:=V.hC (q:=9) rfl;refine⟨i,rfl,Al.i V (λy ap ah=>St.i ah (by simp) (λak z=>?_))⟩;have z:=Sep.wM [bD y [Sv i],bw i 1 (bC (jw S.bV gs))] (Q:=ch A S) (L:=bw s1 1 (en mn)::bw s2 1 (en lw)::bD p [Sv s1]::bD q [Sv s2]::bD f [Pb A.c]::L) z;have z:Sep E (ch A S++bD y [Sv i]::bw i 1 (bC (jw S.bV gs))::bD f [Pb A.c]::bw s1 1 (en mn)::bw s2 1 (en lw)::bD p [Sv s1]::bD q [Sv s2]::L) ak:=
  z.ro 23 [0,1,2,3,4,5,6,7,8,9,10,11,12,13,14,15,16,17,22,18,19,20,21] rfl
 have hx:∀x:Int,(∃id∈jw S.bV gs,x=(S.bt.get id).1.owner)->0<=x/\x<S.guards.length:=by
  rintro x ⟨id,eD,rfl⟩;obtain⟨pg,N,_,_⟩:=j.j2 eD;have Y:=j.own id pg N;have:=FN (show Kt.dB S.tree pg.owner=true from Y);rw[j.toInv0.bL N,j.gl];exact this
 have J:(jw S.bV gs).length<100000000:=by
  have u:=Sb j.eF gs;have aa:=r1 16777217 (jw S.bV gs) (nx.2 (u.ord.imp (λ{a b} ab e=>by subst e;exact(Gp.AF S.bV).ord.vj a ab))) (λx hx=>by
   obtain⟨e,he,rfl,_⟩:=yb hx;have:=(j.eF.ok e he).1;omega)
  omega
 have l:∀ {T:Cs} {w:bI},Sep E (ch A T++bD y [Sv i]::bw i 1 (bC (jw S.bV gs))::bD f [Pb A.c]::bw s1 1 (en mn)::bw s2 1 (en lw)::bD p [Sv s1]::bD q [Sv s2]::L) w->Sep E (ch A T++L) w:=
  λd=>d.cut.cut.cut.cut.cut.cut.cut
 refine use (Sc (hB:=λg=>hQ mn g||hQ lw g) j.wf j.eF U J ?_ z) ?_
 ·intro x X w' H d;obtain⟨s,ae⟩:=hx x H;refine⟨Ka,_,rfl,by kernel_rfl,?_⟩;refine use (K:=λv w'=>v=.bool (hQ mn x||hQ lw x)/\Sep E (ch A S++X::bD y [Sv i]::bw i 1 (bC (jw S.bV gs))::bD f [Pb A.c]::bw s1 1 (en mn)::bw s2 1 (en lw)::bD p [Sv s1]::bD q [Sv s2]::L) w')
   (Ym x ⟨p,0,none⟩ ⟨q,0,none⟩ ?_) (λv w' ⟨Z,d⟩=>⟨by rw[Z],d⟩)
  refine⟨s1,d.cellAt 22 rfl 0,wG 20 d rfl O s bu (cy (λhb=>⟨by rw[hb];rfl,d⟩) (λhb=>⟨s2,d.cellAt 23 rfl 0,wG 21 d rfl ad s bu ⟨by rw[hb];rfl,d⟩⟩))⟩
 rintro _ aq ⟨rfl,u⟩;have I:S.cT t gs all=if(pass (λg=>hQ mn g||hQ lw g) (jw S.bV gs) S).2 then((pass (λg=>hQ mn g||hQ lw g) (jw S.bV gs) S).1,true)else if all then pass (λg=>hQ mn g) (jw S.bV gs) (pass (λg=>hQ mn g||hQ lw g) (jw S.bV gs) S).1 else((pass (λg=>hQ mn g||hQ lw g) (jw S.bV gs) S).1,false):=by
  unfold Cs.cT;rw[bJ (by rw[hl];decide),F,D]
 refine⟨_,rfl,cy (λhb=>?_) (λhb=>?_)⟩
 ·rw[I,bK hb];exact⟨rfl,l u⟩
 have r:=s9 _ hb;rw[I,bJ (by rw[hb];decide),r];rw[r]at u;refine cy (λm=>?_) (λm=>?_)
 ·rw[bK m];refine use (Sc (hB:=λg=>hQ mn g) j.wf j.eF U J ?_ u) ?_
  ·intro x X w' H d;obtain⟨s,ae⟩:=hx x H;refine⟨Kb,_,rfl,by kernel_rfl,?_⟩;refine use (K:=λv w'=>v=.bool (hQ mn x)/\Sep E (ch A S++X::bD y [Sv i]::bw i 1 (bC (jw S.bV gs))::bD f [Pb A.c]::bw s1 1 (en mn)::bw s2 1 (en lw)::bD p [Sv s1]::bD q [Sv s2]::L) w')
    (Yn x ⟨p,0,none⟩ ?_) (λv w' ⟨Z,d⟩=>⟨by rw[Z],d⟩)
   exact⟨s1,d.cellAt 22 rfl 0,wG 20 d rfl O s bu ⟨rfl,d⟩⟩
  rintro _ ar ⟨rfl,aa⟩;exact⟨_,rfl,rfl,l aa⟩
 ·rw[bJ (by rw[m];decide)];exact⟨rfl,l u⟩
end Go.Mp
namespace Go.Kc
open Go Go.Kt
def AG{l:bA G}(hw:WF l)(g:Int):(iu l g).length<=64:=by
 unfold iu ou;have:=hw.eI;split
 ·rw[dY];exact lv (mw _ _) (by rw[Ho];exact this)
 ·exact dX _
def aLH{p:Nat->Prop}(h:∃n,p n):∃n,p n/\∀m,p m->n<=m:=by
 obtain⟨n,hn⟩:=h;induction n using Nat.strongRecOn with
 |_ n b=>
  by_cases h:∃m,m<n/\p m;·obtain⟨m,hm,hp⟩:=h;exact b m hm hp
  ·exact⟨n,hn,λm hm=>Us (λa=>h ⟨m,a,hm⟩)⟩
variable{S:Cs}
def aFL(h:Inv S){g:Int}(hl:S.live g=true)(b:(ds S.fr.used (S.chain g) 1).2.2=0):(gB (ds S.fr.used (S.chain g) 1).1 (S.chain g) 1).1=S.fr.used:=by
 have a:=rO h.wf hl;have hr:=vn h.wf hl (n:=1) ⟨bN,bN⟩;obtain⟨_,he,_⟩:=vl b;rw[he];show(gB (dP S.fr.used (dx S.tree g) 1) (dx S.tree g) 1).1=_;rw[s7 hr (λx hx=>?_)];·exact IX h.fr.used.len a.1 a.2.1 1
 ·rw[pZ h.fr.used.len a.1 a.2.1,bK hx];have:=(h.fr.used.of x).1.1;unfold c0;omega
end Go.Kc
namespace Go.Mp
open Go Go.Vc Go.Sp Go.Proofs Go.Kc
variable{E:Env}{L:cr}{w:bI}{A:At}{S:Cs}
def Se(a:Inv S){t:Int}(h:Sep E (ch A S++L) w):Calls P tq #[Pb A.c,Iv t] w (cZ E (.bool (S.c6 t).2) (ch A (S.c6 t).1++L)):=by
 apply Xx;unfold L3 qF qJ qZ;refine⟨_,rfl,ld h 0 rfl rfl rfl (use (wg a.wf (h.fr 1 rfl)) ?_)⟩;rintro _ c ⟨s,rfl,b,h1⟩;have h1:=h1.hC (q:=1) rfl;have h1:Sep E (ch A S++bw s 1 (bC (Kt.iu S.tree t))::L) c:=Sep.eK (Q:=ch A S) h1;refine⟨s,rfl,use (Sd a (t:=t) (all:=true) (Ints.row b) (AG a.wf t) h1) ?_⟩;rintro _ w2 ⟨rfl,h2⟩;exact⟨_,rfl,rfl,h2.cut⟩
def od(c:cm)(r:Sl)(K:bj0)(again:bi9)(w:bI):Prop:=
  NN c λa35=>∃h:cm,w.cell? ((a35.add 1).add 2)=some (.pointer h)/\Calls P vO #[(.pointer h),(Sv r),(.int
   .i64 1)] w λs d=>∃i:Int,∃j:Int,s=.returned (.tuple #[(Iv i),(Iv j)])/\∃b:Int->bi9,(bif(j==0)then(NN
   c λp=>∃k:cm,d.cell? ((p.add 1).add 0)=some (.pointer k)/\Calls P tu #[(.pointer k)] d λt e=>∃l:Int,∃
   m:Int,t=.returned (.tuple #[(Iv l),(Iv m)])/\bif(m==0)then(K (.tuple #[(Iv l),(Iv (-1)),(Iv 0)]) e)else
   (NN c λq=>∃n:cm,e.cell? ((q.add 1).add 2)=some (.pointer n)/\Calls P tn #[(.pointer n),(Sv r),
   (Iv 1)] e λu x=>∃y:Int,u=.returned (Iv y)/\b 0 x))else(b i d))/\(∀z:Nat->bH,∀a:Int,∀f:
   bI,b a f->Calls P tq #[(.pointer c),(Iv a)] f λv g=>∃o:Bool,v=.returned (.bool o)/\bif o then
   (again g)else(K (.tuple #[(Iv (-1)),(Iv a),(Iv 12)]) g))
def Sf{g:Int}{m:Nat}{b:Sl}{K:bj0}{again:bi9}(j:Inv S)(hl:S.live g=true)(p:b.n=(S.chain g).length)(h:Sep E (ch A S++bw b 1 (bC (S.chain g))::L) w)(hK:∀w',Sep E (ch A (take g (m+1) S).1++bw b 1 (bC (S.chain g))::L) w'->K (.tuple #[Iv (take g (m+1) S).2.1,Iv (take g (m+1) S).2.2.1,Iv (take g (m+1) S).2.2.2]) w')(u:∀S' w',Kc.Inv S'->S'.tree=S.tree->S'.bV.length<S.bV.length->take g (m+1) S=take g m S'->Sep E (ch A S'++bw b 1 (bC (S.chain g))::L) w'->again w'):
  od (some ⟨A.c,0,none⟩) b K again w:=by
 have y:(S.chain g).length<=64:=qS j.wf _;have o:Ints E (bw b 1 (bC (S.chain g))::L) b (S.chain g):=Ints.row p;refine⟨_,rfl,ld h 0 rfl rfl rfl (use (Rm (o.er (A:=A) (S:=S) (q:=4) bN) bu 1 (h.fr 4 rfl)) ?_)⟩;rintro _ s ⟨rfl,h1⟩;have h1:=h1.put (q:=4) rfl;have i:∀(a:Int),take g (m+1) S=(if(S.c6 a).2 then take g m (S.c6 a).1 else((S.c6 a).1, -1,a,12))->∀w',Sep E (ch A S++bw b 1 (bC (S.chain g))::L) w'->
   Calls P tq #[Pb A.c,Iv a] w' λe d=>∃x:Bool,e=.returned (.bool x)/\bif x then again d else K (.tuple #[Iv (-1),Iv a,Iv 12]) d:=by
  intro a he w' h';refine use (Se j (t:=a) h') ?_;rintro _ d ⟨rfl,k⟩;refine⟨_,rfl,cy (λhr=>?_) (λhr=>?_)⟩
  ·rw[bK hr]at he;have ho:eT S (S.c6 a).1:=eT.cT j a _ _;have hk:=ho.kept j;exact u _ _ (j.c6 a) hk.tree (IU j hr) he k
  ·rw[bJ (by rw[hr];decide)]at he;rw[he]at hK;exact hK _ k
 refine⟨_,_,rfl,λa w'=>take g (m+1) S=(if(S.c6 a).2 then take g m (S.c6 a).1 else((S.c6 a).1, -1,a,12))/\Sep E (ch A S++bw b 1 (bC (S.chain g))::L) w',eC (λe0=>?_) (λe0=>?_),λ_ a w' ⟨he,h'⟩=>i a he w' h'⟩
 ·have h1:Sep E (ch A {S with fr:={S.fr with used:=(ds S.fr.used (S.chain g) 1).1}} ++bw b 1 (bC (S.chain g))::L) s:=h1;refine⟨_,rfl,ld h1 0 rfl rfl rfl (use (RM (q:=14) rfl (h1.fr 2 rfl)) ?_)⟩;rintro _ w2 ⟨rfl,h2⟩;have h2:=h2.put (q:=2) rfl;refine⟨_,_,rfl,eC (λf=>?_) (λf=>?_)⟩
  ·have l:take g (m+1) S=({S with fr:={S.fr with cb:=(gf S.fr.cb).1,used:=(ds S.fr.used (S.chain g) 1).1}},(gf S.fr.cb).2.1, -1,0):=by
    unfold take;dsimp only;rw[bK e0,bK f]
   rw[l]at hK;refine hK _ ?_;have c:Sep E ((ch A {S with fr:={S.fr with used:=(ds S.fr.used (S.chain g) 1).1}} ++bw b 1 (bC (S.chain g))::L).set 2 (gM A.fp (gf S.fr.cb).1)) w2:=h2;unfold ch;simp only;rw[B2];exact c
  ·have r:=(Cf f).2;have h2:Sep E (ch A {S with fr:={S.fr with cb:=(gf S.fr.cb).1,used:=(ds S.fr.used (S.chain g) 1).1}} ++bw b 1 (bC (S.chain g))::L) w2:=by
    have c:Sep E ((ch A {S with fr:={S.fr with used:=(ds S.fr.used (S.chain g) 1).1}} ++bw b 1 (bC (S.chain g))::L).set 2 (gM A.fp (gf S.fr.cb).1)) w2:=h2;unfold ch;simp only;rw[B2];exact c
   rw[r]at h2;refine⟨_,rfl,ld h2 0 rfl rfl rfl (use (Ar (o.er (A:=A) (q:=4) bN) bu 1 (h2.fr 4 rfl)) ?_)⟩;rintro _ v ⟨rfl,c⟩;have c:=c.put (q:=4) rfl;have hb:=aFL j hl e0;have c:Sep E (ch A {S with fr:={S.fr with used:=(gB (ds S.fr.used (S.chain g) 1).1 (S.chain g) 1).1}} ++bw b 1 (bC (S.chain g))::L) v:=c;rw[hb]at c;refine⟨_,rfl,?_,c⟩
   conv=>lhs;unfold take
   dsimp only;rw[bK e0,bJ f,hb]
 ·obtain⟨x,hx,he,_⟩:=vm (vn j.wf hl (n:=1) ⟨bN,bN⟩) e0;have h1:Sep E (ch A {S with fr:={S.fr with used:=(ds S.fr.used (S.chain g) 1).1}} ++bw b 1 (bC (S.chain g))::L) s:=h1;have he:ds S.fr.used (S.chain g) 1=(S.fr.used,x,22):=he;have l:take g (m+1) S=(if(S.c6 (ds S.fr.used (S.chain g) 1).2.1).2 then take g m (S.c6 (ds S.fr.used (S.chain g) 1).2.1).1 else((S.c6 (ds S.fr.used (S.chain g) 1).2.1).1, -1,(ds S.fr.used (S.chain g) 1).2.1,12)):=by
   conv=>lhs;unfold take
   dsimp only;rw[bJ e0]
  refine⟨l,?_⟩;rw[he]at h1;exact h1
def Sg{g:Int}(D:Inv S)(hl:S.live g=true)(h:Sep E (ch A S++L) w):Calls P DP #[Pb A.c,Iv g] w
    (cZ E (.tuple #[Iv (S.take g).2.1,Iv (S.take g).2.2.1,Iv (S.take g).2.2.2]) (ch A (S.take g).1++L)):=by
  apply Y1;generalize hK:(λ(v:bH) (w':bI)=>v=.tuple #[Iv (S.take g).2.1,Iv (S.take g).2.2.1,Iv (S.take g).2.2.2]/\Sep E (ch A (S.take g).1++L) w')=K;unfold Nl q9 qF qJ qQ qZ qj;let c:Sl->bI->Nat->Prop:=λa w' n=>∃T m,T.bV.length=n/\Kc.Inv T/\T.tree=S.tree/\n<=m/\S.take g=take g (m+1) T/\a.n=(S.chain g).length/\Sep E (ch A T++bw a 1 (bC (S.chain g))::L) w';have x:∃M2:Sl->bI->Nat,∀a w',(∃n,c a w' n)->c a w' (M2 a w')/\∀k,c a w' k->M2 a w'<=k:=by
    refine⟨λa w'=>Classical.epsilon λn=>c a w' n/\∀k,c a w' k->n<=k,λa w' hx=>?_⟩;exact Classical.epsilon_spec (aLH hx)
  obtain⟨M2,f⟩:=x;refine⟨λa w'=>∃n,c a w' n,M2,⟨_,rfl,ld h 0 rfl rfl rfl (use (tQ D.wf (h.fr 1 rfl)) ?_)⟩,?_⟩
  · rintro _ u ⟨a,rfl,b,h1⟩
    have h1:=h1.hC (q:=1) rfl;have h1:Sep E (ch A S++bw a 1 (bC (S.chain g))::L) u:=Sep.eK (Q:=ch A S) h1;have key:od (some ⟨A.c,0,none⟩) a K (λw'=>∃n,c a w' n) u:=by
      refine Sf (m:=S.bV.length) D hl b h1 (λw' h'=>by rw[<- hK];exact⟨rfl,h'.cut⟩) (λT w' j e z he h'=>?_);cases hm:S.bV.length with
      |zero=>omega
      |succ m=>exact⟨T.bV.length,T,m,rfl,j,e,bu,by rw[hm]at he;exact(show S.take g=take g (S.bV.length+1) S from rfl).trans (by rw[hm];exact he),b,h'⟩
    exact⟨a,rfl,key⟩
  · intro _ a l y
    obtain⟨⟨T,m,hn,j,e,F,he,b,o⟩,B⟩:=f a l y;have s:T.live g=true:=by unfold Cs.live;rw[e];exact hl
    have r:T.chain g=S.chain g:=by unfold Cs.chain;rw[e]
    rw[<- r]at o b;have key:od (some ⟨A.c,0,none⟩) a K (λw'=>(∃n,c a w' n)/\M2 a w'<M2 a l) l:=by
     refine Sf (m:=m) j s b o (λw' h'=>?_) (λT' w' p t z i h'=>?_);· rw[<- hK,he];exact⟨rfl,h'.cut⟩
     · rw[r]at h' b
       cases hm:m with
       |zero=>omega
       |succ C=>
         rw[hm]at i;have d:c a w' T'.bV.length:=⟨T',C,rfl,p,t.trans e,bu,by rw[he,hm,i],b,h'⟩
         have:=(f a w' ⟨_,d⟩).2 _ d;exact⟨⟨_,d⟩,bu⟩
    exact key
end Go.Mp
namespace Go.Kc
open Go Go.Kt
variable{S:Cs}
def Si(h:Inv S){g:Int}(hl:S.live g=true):hJ (S.take g).1.bt/\Good (S.take g).1.bV/\(S.take g).1.tree=S.tree:=by
 rcases Cs.ga h hl with⟨S0,a,k⟩|⟨S0,t,k⟩
 ·have b:=k.outs.inv h;have hk:=k.outs.kept h;rw[k.eq];exact⟨b.cI,b.eF,hk.tree⟩
 ·have b:=k.outs.inv h;have hk:=k.outs.kept h;rw[k.eq];exact⟨b.cI,b.eF,hk.tree⟩
def hJ.fresh{T:TS}(h:hJ T):T.pg T.next=none:=by
 cases hp:T.pg T.next with
 |none=>rfl
 |some p=>have:=(h.ids _ _ hp).2;omega
end Go.Kc
namespace Go.Mp
open Go Go.Vc Go.Sp Go.Proofs Go.Kc
variable{E:Env}{L:cr}{w:bI}{A:At}{S:Cs}
def Sj{g:Int}(d:Kc.Inv S)(hl:S.live g=true)(t:bA UInt8)(h:Sep E (ch A S++L) w):Calls P DB #[Pb A.c,Iv g,hS t] w
  (cZ E (.tuple #[Iv (S.di g t).2.1,Iv (S.di g t).2.2.1,Iv (S.di g t).2.2.2]) (ch A (S.di g t).1++L)):=by
 apply Yu;unfold MP qE qZ qj zX;refine use (Sg d hl h) ?_;rintro _ f ⟨rfl,h1⟩;obtain⟨c,b,_⟩:=Si d hl;refine⟨_,_,_,rfl,g0 (λhf=>?_) (λhe=>?_)⟩
 ·have e:S.di g t=((S.take g).1, -1,(S.take g).2.2.1,(S.take g).2.2.2):=by unfold Cs.di;dsimp only;rw[bK hf]
  rw[e];exact⟨rfl,h1⟩
 ·have e:S.di g t=(({(S.take g).1 with bt:=((S.take g).1.bt.make (-1) 0 g).1} :Cs).place ((S.take g).1.bt.make (-1) 0 g).2.1 (S.take g).2.1 g t false,((S.take g).1.bt.make (-1) 0 g).2.1, -1,0):=by
   unfold Cs.di;dsimp only;rw[cK]
  rw[e];refine⟨_,rfl,ld h1 0 rfl rfl rfl (use (Tp.As (-1) 0 g c.fresh (h1.fr 11 rfl)) ?_)⟩;rintro _ w2 ⟨rfl,h2⟩;have h2:=h2.put (q:=11) rfl;have h2:Sep E (ch A {(S.take g).1 with bt:=((S.take g).1.bt.make (-1) 0 g).1} ++L) w2:=h2;refine⟨_,_,rfl,use (RR _ _ g t false (by exact b) h2) ?_⟩;rintro _ i ⟨rfl,a⟩;exact⟨rfl,rfl,a⟩
def aHa:hG P th=some (1,1,[.int .u8 0]):=by kernel_rfl
def aLf{id g:Int}(r:Kc.Inv S)(h:Sep E (ch A S++L) w):Calls P JY #[Pb A.c,Iv id,Iv g] w
  (cZ E (.tuple #[Iv (S.copy id g).2.1,Iv (S.copy id g).2.2.1,Iv (S.copy id g).2.2.2]) (ch A (S.copy id g).1++L)):=by
 apply XE;unfold Ma qF qL qU qV qX qY qZ qg zJ zX;refine⟨_,rfl,ld h 0 rfl rfl rfl (use (Tp.pw id (h.fr 11 rfl)) ?_)⟩;rintro _ n ⟨rfl,h1⟩;have h1:Sep E (ch A S++L) n:=h1.put (q:=11) rfl;obtain⟨p,hp⟩:∃p,S.bt.get id=p:=⟨_,rfl⟩
 rw[hp];refine⟨_,_,_,_,_,_,_,_,_,_,rfl,Al.i h1 (λb w2 h2=>ey (vs:=p.1.vs) _ h2 rfl (λo c=>?_))⟩;have c:Sep E (ch A S++bD b p.1.vs::L) o:=Sep.eK c;have d:(p.2≠0\/S.live g=false\/p.1.place=0)->S.copy id g=(S, -1, -1,2):=by
  intro m;unfold Cs.copy;rw[hp];dsimp only;rw[bK m]
 refine⟨λw'=>p.2=0/\S.live g=true/\p.1.place≠0/\Sep E (ch A S++bD b p.1.vs::L) w',g0 (λhf=>?_) (λhe=>?_),?_⟩;·rw[d (.inl hf)];exact⟨rfl,c.cut⟩
 ·refine⟨_,rfl,ld c 0 rfl rfl rfl (use (kQ c (q:=1) rfl) ?_)⟩;rintro _ _ ⟨rfl,rfl⟩;refine⟨_,rfl,cy (λf=>?_) (λa=>?_)⟩
  ·have f:Kt.dB S.tree g=false:=by simpa using f
   rw[d (.inr (.inl f))];exact⟨rfl,c.cut⟩
  ·have a:Kt.dB S.tree g=true:=by simpa using a
   refine ld c 16 rfl rfl rfl (eC (λe0=>?_) (λe0=>⟨bu,a,e0,c⟩));rw[d (.inr (.inr e0))];exact⟨rfl,c.cut⟩
 ·rintro _ s ⟨he,a,j,i⟩
  iterate 9 refine ld i 16 rfl rfl rfl ?_
  refine use (Az p.1 i) ?_;rintro _ t ⟨rfl,k⟩;have e:S.copy id g=S.di g (S.text p.1):=by
   unfold Cs.copy;rw[hp];dsimp only;rw[bJ (by rw[a];simp[he,j])]
  rw[e];refine⟨_,rfl,use (Sj r a _ k) ?_⟩;rintro _ u ⟨rfl,l⟩;exact⟨_,_,_,rfl,rfl,l.cut⟩
def Sk{m:Nat}{f:Int->bX Int}{id:Int}{q:Nat}(h:Sep E L w)(a:L[q]?=some (oc m f)):gE P Cz (.map (some m)) (Iv id) false w (.int .u64 ((f id).getD 0)):=by
 obtain⟨hk,h1⟩:=Sep.cL.1 (h.fr q a);have:=gE.i false 0 h1 rfl Tp.mS RP id;simp only at this;cases hf:f id with
 |none=>rw[hf]at this;exact this
 |some x=>rw[hf]at this;exact this
def aKD{m:Nat}{f:Int->bX Int}{q:Nat}(h:Sep E L w)(a:L[q]?=some (oc m f))(id:Int):0<=(f id).getD 0/\(f id).getD 0<18446744073709551616:=by
 obtain⟨hk,_⟩:=Sep.cL.1 (h.fr q a);cases hf:f id with
 |none=>exact⟨by simp,by simp⟩
 |some x=>exact hk id x hf
def aIL{T:TS}{id:Int}(h:(T.get id).2=0):T.pg id=some (T.get id).1:=by
 unfold TS.get at h ⊢;cases hp:T.pg id with
 |none=>rw[hp]at h;exact absurd h (by simp)
 |some p=>rfl
def Sm{id g:Int}(G:Kc.Inv S)(h:Sep E (ch A S++L) w):Calls P Dy #[Pb A.c,Iv id,Iv g] w
  (cZ E (.tuple #[Iv (S.bY id g).2.1,Iv (S.bY id g).2.2]) (ch A (S.bY id g).1++L)):=by
 apply Yp;unfold MK q9 qE qF qG qJ qL qM qP qQ qU qV qX qY qZ qg qh zH zJ zS zX;refine⟨_,rfl,ld h 0 rfl rfl rfl (use (Tp.pw id (h.fr 11 rfl)) ?_)⟩;rintro _ af ⟨rfl,h1⟩;have h1:Sep E (ch A S++L) af:=h1.put (q:=11) rfl;obtain⟨p,hp⟩:∃p,S.bt.get id=p:=⟨_,rfl⟩
 have u:p.2=0->S.bt.pg id=some p.1:=λI=>by rw[<- hp]at I ⊢;exact aIL I
 rw[hp];refine⟨_,_,_,_,_,_,_,_,_,_,rfl,Al.i h1 (λb w2 h2=>ey (vs:=p.1.vs) _ h2 rfl (λag f=>?_))⟩;have f:Sep E (ch A S++bD b p.1.vs::L) ag:=Sep.eK f;let bad:Prop:=p.2≠0\/S.live g=false\/(p.1.place=0/\p.1.kf<0);refine ld f 16 rfl rfl rfl ⟨λo w'=>o=(if p.1.place=0 then g else p.1.owner)/\¬ bad/\p.1.place≠1/\Sep E (ch A S++bD b p.1.vs::L) w',
  ⟨λx w'=>(x=true↔bad)/\Sep E (ch A S++bD b p.1.vs::L) w',g0 (λhf=>⟨⟨λ_=>.inl hf,λ_=>rfl⟩,f⟩) (λhe=>?_),?_⟩,?_⟩
 ·refine⟨_,rfl,ld f 0 rfl rfl rfl (use (kQ f (q:=1) rfl) ?_)⟩;rintro _ _ ⟨rfl,rfl⟩;refine⟨_,rfl,cy (λa=>?_) (λr=>?_)⟩
  ·have a:Kt.dB S.tree g=false:=by simpa using a
   exact⟨⟨λ_=>.inr (.inl a),λ_=>rfl⟩,f⟩
  ·have r:Kt.dB S.tree g=true:=by simpa using r
   have s:¬ S.live g=false:=by rw[show S.live g=true from r];decide
   refine ld f 16 rfl rfl rfl (eC (λe0=>ld f 16 rfl rfl rfl ⟨⟨λa=>.inr (.inr ⟨e0,by simpa using a⟩),λa=>?_⟩,f⟩) (λe0=>⟨⟨λa=>(by cases a),λa=>?_⟩,f⟩))
   ·rcases a with a|a|a;·exact absurd he a
    ·exact absurd a s
    ·simpa using a.2
   ·rcases a with a|a|a;·exact absurd he a
    ·exact absurd a s
    ·exact absurd a.1 e0
 ·rintro _ x ah ⟨hx,j⟩;refine cy (λU=>?_) (λR=>?_)
  ·have hb:=hx.1 U;have e:S.bY id g=(S, -1,2):=by unfold Cs.bY;rw[hp];dsimp only;rw[bK hb]
   rw[e];exact⟨rfl,j.cut⟩
  ·have hb:¬ bad:=λD=>by have:=hx.2 D;rw[R]at this;cases this
   refine ld j 16 rfl rfl rfl (eC (λZ=>?_) (λt=>ld j 16 rfl rfl rfl (eC (λe0=>⟨(bK e0).symm,hb,t,j⟩) (λad=>⟨(bJ ad).symm,hb,t,j⟩))));refine⟨_,rfl,ld j 0 rfl rfl rfl (use (Gp.Fw G.eF id (j.fr 9 rfl)) ?_)⟩;rintro _ W ⟨rfl,i⟩;have i:=i.put (q:=9) rfl;have i:Sep E (ch A {S with bV:=(hH S.bV id).1} ++bD b p.1.vs::L) W:=i;have e:S.bY id g=({S with bV:=(hH S.bV id).1}, -1,0):=by unfold Cs.bY;rw[hp];dsimp only;rw[bJ hb,bK Z]
   rw[e];exact⟨_,rfl,rfl,i.cut⟩
 rintro _ o ah ⟨ho,hb,t,j⟩;have y:S.live o=true:=by
  rw[ho];split
  ·cases hl:S.live g with
   |true=>rfl
   |false=>exact absurd (.inr (.inl hl)) hb
  ·have:p.2=0:=sA λD=>hb (.inl D);exact G.own id p.1 (u this)
 refine use (Sg G y j) ?_;rintro _ W ⟨rfl,i⟩;obtain⟨F,K,z⟩:=Si G y;obtain⟨T,C⟩:∃T,S.take o=T:=⟨_,rfl⟩
 rw[C]at i F K z ⊢;have M:Kt.WF T.1.tree:=by rw[z];exact G.wf
 refine⟨_,_,_,rfl,g0 (λhf=>?_) (λhe=>?_)⟩
 ·have e:S.bY id g=(T.1,T.2.2.1,T.2.2.2):=by unfold Cs.bY;rw[hp];dsimp only;rw[bJ hb,bJ t,<- ho,C,bK hf]
  rw[e];exact⟨rfl,i.cut⟩
 iterate 9 refine ld i 16 rfl rfl rfl ?_
 refine use (Az p.1 i) ?_;rintro _ am ⟨rfl,B⟩;obtain⟨d,m⟩:∃d,d=if p.1.place=2 then {T.1 with sl:=T.1.sl.dE p.1.at_ (T.1.chain o)} else T.1:=⟨_,rfl⟩
 have O:d.bV=T.1.bV:=by rw[m];split<;>rfl
 refine⟨_,rfl,λw'=>Sep E (ch A d++bD b p.1.vs::L) w',ld B 16 rfl rfl rfl (eC (λaa=>?_) (λae=>by rw[m,bJ ae];exact B)),?_⟩
 ·refine Dr.i B (λai k=>⟨_,rfl,ld k 0 rfl rfl rfl (ld k 0 rfl rfl rfl (ld k 0 rfl rfl rfl (ld k 16 rfl rfl rfl ⟨_,rfl,ld k 0 rfl rfl rfl (use (tQ M (k.fr 1 rfl)) ?_)⟩)))⟩);rintro _ Y ⟨H,rfl,N,c⟩;have c:=c.hC (q:=1) rfl;have c:Sep E (ch A T.1++bw H 1 (bC (T.1.chain o))::bD b p.1.vs::L) Y:=Sep.eK (Q:=ch A T.1) c;refine⟨H,rfl,ld c 17 rfl rfl rfl ⟨rfl,ld c 0 rfl rfl rfl (ld c 0 rfl rfl rfl (ld c 0 rfl rfl rfl ⟨rfl,use (RO p.1.at_ (Ints.row N) (qS M _) c) ?_⟩))⟩⟩;rintro _ aj ⟨rfl,l⟩;rw[m,bK aa];exact⟨rfl,l.cut⟩
 intro _ ai k;have e:S.bY id g=(d.place id T.2.1 o (T.1.text p.1) (!(mJ d.log ((d.kept id).getD 0) (d.memory o))), -1,0):=by
  rw[m];unfold Cs.bY;rw[hp];dsimp only;rw[bJ hb,bJ t,<- ho,C,cK]
 rw[e];refine Dr.i k (λY c=>⟨_,rfl,ld c 0 rfl rfl rfl ⟨_,rfl,ld c 0 rfl rfl rfl ⟨_,Sk c (q:=12) rfl,use (Fx o c) ?_⟩⟩⟩);rintro _ aj ⟨rfl,l⟩;obtain⟨k0,al⟩:=aKD l (q:=12) rfl id;obtain⟨X,ab⟩:∃X:Nat,(d.kept id).getD 0=X:=⟨((d.kept id).getD 0).toNat,bu⟩
 refine⟨_,rfl,_,Sk l (q:=12) rfl,rfl,ld l 0 rfl rfl rfl ⟨rfl,ld l 0 rfl rfl rfl ⟨rfl,?_⟩⟩⟩;rw[ab];refine use (aLe (l.fr 10 rfl) bu o _) ?_;rintro _ V ⟨rfl,n⟩;have n:Sep E (ch A d++bD b p.1.vs::L) V:=n.put (q:=10) rfl;refine⟨_,rfl,use (RR id T.2.1 o (T.1.text p.1) _ (by rw[O];exact K) n) ?_⟩;rintro _ ak ⟨rfl,J⟩;exact⟨rfl,rfl,J.cut⟩
end Go.Mp
namespace Go.Kc
open Go Go.Kt
variable{S:Cs}
def aIW(h:Inv S)(hn:S.bt.next<16777216){k:Int×Int}{g:Int}(hl:S.live g=true)(hf:eo S.files k=true)(hm:S.bt.of k<0):Inv {S with bt:=(S.bt.make k.1 k.2 g).1} :=by
 obtain⟨kf,ki⟩:=k;have d:=yf hf;have f:=rT S.bt (kf:=kf) (ki:=ki) (o:=g) ⟨h.cI.next,hn⟩ (.inr hm);have i:=h.toInv0.make hn (kf:=kf) (ki:=ki) hl (.inr ⟨hm,hf⟩);have e:hj S.bt kf ki=(kf,ki):=by unfold hj;rw[bJ (by have:0<=kf:=d;omega)]
 have b:∀x p,(S.bt.make kf ki g).1.pg x=some p->p.kf<0->p.place≠0:=by
  intro x q c a;rw[f.2.2]at c;split at c
  ·rw[<- cV c,e]at a;have:kf<0:=a;have:0<=kf:=d;omega
  ·exact h.anon _ _ c a
 exact⟨i,b⟩
def Sn{F:FS}{k:Int×Int}:(sU F k).2≠0↔eo F k=false:=by
 unfold sU;by_cases h:eo F k=false;·rw[bK h];simp[h]
 ·rw[bJ h];split<;>simp[h]
end Go.Kc
namespace Go.Mp
open Go Go.Vc Go.Sp Go.Proofs Go.Kc
variable{E:Env}{L:cr}{w:bI}{A:At}{S:Cs}
def aLj{k:Int×Int}{g:Int}(u:Kc.Inv S)(hn:S.bt.next<16777216)(h:Sep E (ch A S++L) w):Calls P JU #[Pb A.c,.agg #[Iv k.1,Iv k.2],Iv g] w
  (cZ E (.tuple #[Iv (S.cH k g).2.1,Iv (S.cH k g).2.2.1,Iv (S.cH k g).2.2.2]) (ch A (S.cH k g).1++L)):=by
 apply XA;unfold L6 q9 qF qQ qZ qg qj zQ zZ;refine Al.i h (λb B h1=>?_);have h1:Sep E (ch A S++bD b [Iv k.1,Iv k.2]::L) B:=Sep.eK h1;have p:(eo S.files k=false\/S.live g=false)->S.cH k g=(S, -1, -1,2):=by
  intro y;unfold Cs.cH;rw[bK y]
 refine⟨λw'=>eo S.files k=true/\S.live g=true/\Sep E (ch A S++bD b [Iv k.1,Iv k.2]::L) w',Dr.i h1 (λw2 h2=>⟨_,rfl,ld h2 0 rfl rfl rfl (ld h2 16 rfl rfl rfl (ld h2 16 rfl rfl rfl (use (PW k (h2.fr 8 rfl)) ?_)))⟩),?_⟩
 ·rintro _ t ⟨rfl,c⟩;have c:=c.put (q:=8) rfl;have c:Sep E (ch A S++bD b [Iv k.1,Iv k.2]::L) t:=c;refine⟨_,_,rfl,g0 (λhf=>?_) (λhe=>?_)⟩;·rw[p (.inl (Sn.1 hf))];exact⟨rfl,c.cut⟩
  ·have j:eo S.files k=true:=by
    cases z:eo S.files k with
    |true=>rfl
    |false=>exact absurd he (Sn.2 z)
   refine⟨_,rfl,ld c 0 rfl rfl rfl (use (kQ c (q:=1) rfl) ?_)⟩;rintro _ _ ⟨rfl,rfl⟩;refine⟨_,rfl,cy (λr=>?_) (λd=>?_)⟩
   ·have r:Kt.dB S.tree g=false:=by simpa using r
    rw[p (.inr r)];exact⟨rfl,c.cut⟩
   ·have d:Kt.dB S.tree g=true:=by simpa using d
    exact⟨j,d,c⟩
 rintro _ w2 ⟨j,d,h2⟩;refine Dr.i h2 (λt c=>⟨_,rfl,ld c 0 rfl rfl rfl (ld c 16 rfl rfl rfl (ld c 16 rfl rfl rfl (use (Tp.wD k (c.fr 11 rfl)) ?_)))⟩);rintro _ C ⟨rfl,l⟩;have l:=l.put (q:=11) rfl;have l:Sep E (ch A S++bD b [Iv k.1,Iv k.2]::L) C:=l;obtain⟨a,i⟩:∃a,a=if S.bt.of k<0 then {S with bt:=(S.bt.make k.1 k.2 g).1} else S:=⟨_,rfl⟩
 obtain⟨i1,o⟩:∃i1,i1=if S.bt.of k<0 then(S.bt.make k.1 k.2 g).2.1 else S.bt.of k:=⟨_,rfl⟩
 have x:Kc.Inv a:=by
  rw[i];split;·next hm=>exact aIW u hn d j hm
  ·exact u
 have e:S.cH k g=if(a.bY i1 g).2.2=0 then((a.bY i1 g).1,i1, -1,0)else if S.bt.of k<0 then({(a.bY i1 g).1 with bt:=((a.bY i1 g).1.bt.drop i1).1}, -1,(a.bY i1 g).2.1,(a.bY i1 g).2.2)else((a.bY i1 g).1, -1,(a.bY i1 g).2.1,(a.bY i1 g).2.2):=by
  rw[i,o];unfold Cs.cH;rw[bJ (by rw[j,d];simp)];by_cases hm:S.bt.of k<0;·simp only[hm,decide_true,g4]
  ·simp only[hm,decide_false,gU,lZ]
 refine⟨_,rfl,λid w'=>id=i1/\Sep E (ch A a++bD b [Iv k.1,Iv k.2]::L) w',cU (λhm=>?_) (λhm=>⟨by rw[o,cK],by rw[i,cK];exact l⟩),?_⟩
 ·refine Dr.i l (λD m=>⟨_,rfl,ld m 0 rfl rfl rfl (ld m 16 rfl rfl rfl (ld m 16 rfl rfl rfl (use (Tp.As k.1 k.2 g u.cI.fresh (m.fr 11 rfl)) ?_)))⟩);rintro _ F ⟨rfl,f⟩;have f:=f.put (q:=11) rfl;exact⟨_,_,rfl,by rw[o,bK hm],by rw[i,bK hm];exact f⟩
 rintro _ id D ⟨rfl,m⟩;refine use (Sm x m) ?_;rintro _ F ⟨rfl,f⟩;rw[e];refine⟨_,_,rfl,eC (λe0=>?_) (λs=>cU (λhm=>?_) (λhm=>?_))⟩;·rw[bK e0];exact⟨rfl,f.cut⟩
 ·rw[bJ s,bK hm];refine⟨_,rfl,ld f 0 rfl rfl rfl (use (Tp.wE id (f.fr 11 rfl)) ?_)⟩;rintro _ G ⟨rfl,n⟩;have n:=n.put (q:=11) rfl;have n:Sep E (ch A {(a.bY id g).1 with bt:=((a.bY id g).1.bt.drop id).1} ++bD b [Iv k.1,Iv k.2]::L) G:=n;exact⟨_,rfl,rfl,n.cut⟩
 ·rw[bJ s,cK];exact⟨rfl,f.cut⟩
def pw{id at_:Int}(d:Kc.Inv S)(h:Sep E (ch A S++L) w):Calls P JA #[Pb A.c,Iv id,Iv at_] w
  (cZ E (.tuple #[.int .u8 (S.get id at_).2.1,Iv (S.get id at_).2.2]) (ch A (S.get id at_).1++L)):=by
 apply W3;unfold LJ qQ qZ qo qp;refine use (RQ id h) ?_;rintro _ f ⟨rfl,h1⟩;refine⟨_,_,rfl,cy (λb=>?_) (λhl=>?_)⟩
 ·have b:(S.here id).2=false:=by simpa using b
  have e:S.get id at_=(S,0,2):=by unfold Cs.get;dsimp only;rw[bK b]
  rw[e];exact⟨rfl,h1⟩
 have hl:(S.here id).2=true:=by simpa using hl
 refine⟨_,rfl,ld h1 0 rfl rfl rfl (use (aC0 (S.here id).1 at_ (h1.fr 3 rfl)) ?_)⟩;rintro _ _ ⟨rfl,rfl⟩;have e:S.get id at_=(if(By.gt S.fr.cb.length S.fr.dj (S.here id).1 at_).2=0 then {S with bV:=(hH S.bV id).1} else S,((By.gt S.fr.cb.length S.fr.dj (S.here id).1 at_).1.toNat:Int),(By.gt S.fr.cb.length S.fr.dj (S.here id).1 at_).2):=by
  unfold Cs.get;dsimp only;rw[bJ (by rw[hl];decide)]
 rw[e];refine⟨_,_,rfl,eC (λe0=>?_) (λc=>?_)⟩
 ·rw[bK e0];refine⟨_,rfl,ld h1 0 rfl rfl rfl (use (Gp.Fw d.eF id (h1.fr 9 rfl)) ?_)⟩;rintro _ g ⟨rfl,a⟩;have a:=a.put (q:=9) rfl;exact⟨_,rfl,rfl,a⟩
 ·rw[bJ c];exact⟨rfl,h1⟩
def uc{id at_:Int}{x:UInt8}(j:Kc.Inv S)(h:Sep E (ch A S++L) w):Calls P JF #[Pb A.c,Iv id,Iv at_,.int .u8 x.toNat] w
  (cZ E (Iv (S.put id at_ x).2) (ch A (S.put id at_ x).1++L)):=by
 apply W4;unfold LL qQ qZ qp;refine use (RQ id h) ?_;rintro _ k ⟨rfl,h1⟩;refine⟨_,_,rfl,cy (λf=>?_) (λhl=>?_)⟩
 ·have f:(S.here id).2=false:=by simpa using f
  have e:S.put id at_ x=(S,2):=by unfold Cs.put;dsimp only;rw[bK f]
  rw[e];exact⟨rfl,h1⟩
 have hl:(S.here id).2=true:=by simpa using hl
 refine⟨_,rfl,ld h1 0 rfl rfl rfl (use (aC2 (S.here id).1 at_ x (h1.fr 3 rfl)) ?_)⟩;rintro _ w2 ⟨rfl,h2⟩;have h2:=h2.put (q:=3) rfl;obtain⟨r,hr⟩:∃r,By.pt S.fr.cb.length S.fr.dj (S.here id).1 at_ x=r:=⟨_,rfl⟩
 have e:S.put id at_ x=if r.2=0 then({S with fr:={S.fr with dj:=r.1},bV:=(hH S.bV id).1,bt:=(S.bt.mark id true).1},0)else(S,r.2):=by
  unfold Cs.put;dsimp only;rw[bJ (by rw[hl];decide),hr]
 rw[hr]at h2 ⊢;rw[e];have h2:Sep E (ch A {S with fr:={S.fr with dj:=r.1}} ++L) w2:=h2;refine⟨_,rfl,eC (λe0=>?_) (λb=>?_)⟩
 ·rw[bK e0];refine⟨_,rfl,ld h2 0 rfl rfl rfl (use (Gp.Fw j.eF id (h2.fr 9 rfl)) ?_)⟩;rintro _ i ⟨rfl,a⟩;have a:=a.put (q:=9) rfl;have a:Sep E (ch A {S with fr:={S.fr with dj:=r.1},bV:=(hH S.bV id).1} ++L) i:=a;refine⟨_,rfl,_,rfl,ld a 0 rfl rfl rfl (use (Tp.RB id true (a.fr 11 rfl)) ?_)⟩;rintro _ l ⟨rfl,d⟩;have d:=d.put (q:=11) rfl;exact⟨_,rfl,by rw[e0],d⟩
 ·rw[bJ b];have c:r.1=S.fr.dj:=by
   rw[<- hr]at b ⊢;unfold By.pt at b ⊢;split;·next g=>rw[bK g]at b;exact absurd rfl b
   ·rfl
  rw[c]at h2;exact⟨rfl,h2⟩
def AH{id n:Int}(X:Kc.Inv S)(h:Sep E (ch A S++L) w):Calls P vC #[Pb A.c,Iv id,Iv n] w
  (cZ E (Iv (S.bP id n).2) (ch A (S.bP id n).1++L)):=by
 apply W5;unfold LM qE qJ qL qP qQ qU qV qX qY qZ qg qj;refine⟨_,rfl,ld h 0 rfl rfl rfl (use (Tp.aJ8 id n (h.fr 11 rfl)) ?_)⟩;rintro _ R ⟨rfl,h1⟩;have h1:=h1.put (q:=11) rfl;obtain⟨r,hr⟩:∃r,S.bt.bP id n=r:=⟨_,rfl⟩
 obtain⟨a,i⟩:∃a:Cs,a= {S with bt:=r.1} :=⟨_,rfl⟩
 rw[hr]at h1 ⊢;have h1:Sep E (ch A a++L) R:=by rw[i];exact h1
 have x:(r.2.2≠0\/0<r.2.1)->S.bP id n=(a,r.2.2):=by
  intro B;unfold Cs.bP;rw[hr,i];dsimp only;rw[bK B]
 refine⟨_,_,rfl,λw'=>¬ (r.2.2≠0\/0<r.2.1)/\Sep E (ch A a++L) w',g0 (λhf=>?_) (λhe=>gv (λI=>?_) (λI=>⟨bu,h1⟩)),?_⟩;·rw[x (.inl hf)];exact⟨rfl,h1⟩
 ·rw[x (.inr I)];exact⟨rfl,h1⟩
 rintro _ w2 ⟨B,h2⟩;have F:Kt.WF a.tree:=by rw[i];exact X.wf
 have N:Kc.Good a.bV:=by rw[i];exact X.eF
 refine⟨_,rfl,ld h2 0 rfl rfl rfl (use (Tp.pw id (h2.fr 11 rfl)) ?_)⟩;rintro _ T ⟨rfl,o⟩;have o:Sep E (ch A a++L) T:=o.put (q:=11) rfl;obtain⟨p,hp⟩:∃p,(a.bt.get id).1=p:=⟨_,rfl⟩
 rw[hp];refine⟨_,_,_,_,_,_,_,_,_,_,rfl,Al.i o (λb Z D=>ey (vs:=p.vs) _ D rfl (λU s=>?_))⟩;have s:Sep E (ch A a++bD b p.vs::L) U:=Sep.eK s;refine Dr.i s (λaa y=>⟨_,rfl,ld y 0 rfl rfl rfl (ld y 16 rfl rfl rfl (use (tQ F (y.fr 1 rfl)) ?_))⟩);rintro _ V ⟨k,rfl,H,g⟩;have g:=g.hC (q:=1) rfl;have g:Sep E (ch A a++bw k 1 (bC (a.chain p.owner))::bD b p.vs::L) V:=Sep.eK (Q:=ch A a) g;have z:Ints E (bw k 1 (bC (a.chain p.owner))::bD b p.vs::L) k (a.chain p.owner):=Ints.row H;have u:(a.chain p.owner).length<=64:=qS F _;obtain⟨f,j⟩:∃f:Cs,f=if p.place=1 then {a.clean id p with fr:=(a.clean id p).fr.dE p.at_ (a.chain p.owner),bV:=(jv (a.clean id p).bV id).1} else if p.place=2 then {a with sl:=a.sl.dE p.at_ (a.chain p.owner)} else a:=⟨_,rfl⟩
 have e:S.bP id n=({f with bt:=((f.bt.put id 0 0).1.drop id).1},((f.bt.put id 0 0).1.drop id).2):=by
  clear h1 h2 o D s g z;subst j hp i;unfold Cs.bP;rw[hr];dsimp only;rw[bJ B]
 refine⟨_,rfl,λw'=>Sep E (ch A f++bw k 1 (bC (a.chain p.owner))::bD b p.vs::L) w',ld g 17 rfl rfl rfl (eC (λK=>?_) (λJ=>eC (λM=>?_) (λO=>by rw[j,bJ J,bJ O];exact g))),?_⟩
 ·iterate 9 refine ld g 17 rfl rfl rfl ?_
  refine use (RL id p g) ?_;rintro _ W ⟨rfl,t⟩;have G:(a.clean id p).bV=a.bV:=by unfold Cs.clean;split<;>rfl
  refine⟨rfl,Dr.i t (λC c=>⟨_,rfl,ld c 0 rfl rfl rfl (ld c 0 rfl rfl rfl (ld c 0 rfl rfl rfl (ld c 17 rfl rfl rfl (use (RN p.at_ z u c) ?_))))⟩)⟩;rintro _ m ⟨rfl,d⟩;refine⟨rfl,_,rfl,ld d 0 rfl rfl rfl (use (Gp.wE (by show Kc.Good (a.clean id p).bV;rw[G];exact N) id (d.fr 9 rfl)) ?_)⟩;rintro _ Y ⟨rfl,l⟩;have l:=l.put (q:=9) rfl;rw[j,bK K];exact⟨_,rfl,l⟩
 ·refine Dr.i g (λC c=>⟨_,rfl,ld c 0 rfl rfl rfl (ld c 0 rfl rfl rfl (ld c 0 rfl rfl rfl (ld c 17 rfl rfl rfl (use (RO p.at_ z u c) ?_))))⟩);rintro _ m ⟨rfl,d⟩;rw[j,bJ J,bK M];exact⟨rfl,d⟩
 intro _ W t;refine⟨_,rfl,ld t 0 rfl rfl rfl (use (Tp.uc id 0 0 (t.fr 11 rfl)) ?_)⟩;rintro _ C ⟨rfl,c⟩;have c:=c.put (q:=11) rfl;have c:Sep E (ch A {f with bt:=(f.bt.put id 0 0).1} ++bw k 1 (bC (a.chain p.owner))::bD b p.vs::L) C:=c;refine⟨_,rfl,_,rfl,ld c 0 rfl rfl rfl (use (Tp.wE id (c.fr 11 rfl)) ?_)⟩;rintro _ m ⟨rfl,d⟩;have d:=d.put (q:=11) rfl;have d:Sep E (ch A {f with bt:=((f.bt.put id 0 0).1.drop id).1} ++bw k 1 (bC (a.chain p.owner))::bD b p.vs::L) m:=d;rw[e];exact⟨_,rfl,rfl,d.cut.cut⟩
def aIh(h:Sep E (ch A S++L) w):Calls P Jy #[Pb A.c] w (cZ E (Iv (S.files.bU.length:Nat)) (ch A S++L)):=by
 apply W1;unfold LH qQ qZ;refine⟨_,rfl,ld h 0 rfl rfl rfl (use (aBd h (q:=8) rfl) ?_)⟩;rintro _ _ ⟨rfl,rfl⟩;exact⟨_,rfl,rfl,h⟩
def aEC(f:Int)(h:Sep E (ch A S++L) w):Calls P Jz #[Pb A.c,Iv f] w (cZ E (Iv (nL S.files f)) (ch A S++L)):=by
 apply W2;unfold LI qQ qZ;refine⟨_,rfl,ld h 0 rfl rfl rfl (use (PU h (q:=8) rfl f) ?_)⟩;rintro _ _ ⟨rfl,rfl⟩;exact⟨_,rfl,rfl,h⟩
def FO(id:Int)(h:Sep E (ch A S++L) w):Calls P vz #[Pb A.c,Iv id] w (cZ E (.tuple #[.agg (S.bt.get id).1.vs.toArray,Iv (S.bt.get id).2]) (ch A S++L)):=by
 apply Wz;unfold Lg qU qV qX qY qZ;refine Al.i h (λb c h1=>?_);have h1:=Sep.eK (Q:=ch A S) h1;refine⟨_,rfl,ld h1 0 rfl rfl rfl (use (Tp.pw id (h1.fr 11 rfl)) ?_)⟩;rintro _ w2 ⟨rfl,h2⟩;have h2:=h2.put (q:=11) rfl;have h2:=Sep.mT (Q:=ch A S) (L:=L) h2;refine⟨_,_,_,_,_,_,_,_,_,_,rfl,ey (vs:=(S.bt.get id).1.vs) _ h2 rfl (λd a=>?_)⟩
 iterate 9 refine ld a 0 rfl rfl rfl ?_
 exact⟨rfl,a.tail⟩
def wN(h:Sep E (ch A S++L) w):Calls P p8 #[Pb A.c] w (cZ E (Pb A.t) (ch A S++L)):=by
 apply WA;unfold Lh qZ;exact⟨_,rfl,ld h 0 rfl rfl rfl ⟨rfl,h⟩⟩
def aJ4{g:Int}(l:Kc.Inv S)(h:Sep E (ch A S++L) w):Calls P JZ #[Pb A.c,Iv g] w
  (cZ E (.tuple #[Iv (S.fresh g).2.1,Iv (S.fresh g).2.2.1,Iv (S.fresh g).2.2.2]) (ch A (S.fresh g).1++L)):=by
 apply XF;unfold Mb qF qZ zX;refine⟨_,rfl,ld h 0 rfl rfl rfl (use (kQ h (q:=1) rfl) ?_)⟩;rintro _ _ ⟨rfl,rfl⟩;refine⟨_,rfl,cy (λd=>?_) (λa=>?_)⟩
 ·have d:Kt.dB S.tree g=false:=by simpa using d
  have e:S.fresh g=(S, -1, -1,2):=by unfold Cs.fresh;rw[bK (show S.live g=false from d)]
  rw[e];exact⟨rfl,h⟩
 ·have a:Kt.dB S.tree g=true:=by simpa using a
  have e:S.fresh g=S.di g By.zs:=by unfold Cs.fresh;rw[bJ (by rw[show S.live g=true from a];decide)]
  rw[e];refine makeSlice.i h aHa bN (hh _) bN bN (λb k h1=>?_);have h1:Sep E (bD b (hz By.zs)::(ch A S++L)) k:=h1;have f:=Rs By.zs h1 (q:=0) (o:=0) (n:=16) (c:=16) rfl rfl (λj i=>by
   rw[fz,vh,ea i];rfl)
  refine⟨_,f,use (Sj l a By.zs h1.tail) ?_⟩;rintro _ w2 ⟨rfl,h2⟩;exact⟨_,_,_,rfl,rfl,h2⟩
def FP{R:bA dI}:∀(l:bS) (g:Int),g9 R (l++[g])=((iI (g9 R l).1 g jY).1,(g9 R l).2+(iI (g9 R l).1 g jY).2)
 |[],g=>by simp[g9]
 |x::l,g=>by
  rw[pK,g9,FP l g,g9];simp only[oU,true_and];omega
def gP{R:bA dI}(G:Kc.Good R):R.length<=16777217:=by
 have h:=r1 16777217 (R.map dI.id) (by
  rw[nx,kk];exact G.c1.imp (λa he=>bu)) (λx hx=>by
  obtain⟨e,he,rfl⟩:=fD.1 hx;have:=(G.ok e he).1;omega)
 simpa using h
def aLd{t:Int}(p:Kc.Inv S)(h:Sep E (ch A S++L) w):Calls P Jw #[Pb A.c,Iv t] w
  (cZ E (Iv (S.dD t).2) (ch A (S.dD t).1++L)):=by
 apply WZ;unfold LF qD qI qJ qQ qW qZ;refine⟨_,rfl,ld h 0 rfl rfl rfl (use (wg p.wf (h.fr 1 rfl)) ?_)⟩;rintro _ u ⟨s,rfl,m,h1⟩;have h1:=h1.hC (q:=1) rfl;obtain⟨gs,a⟩:∃gs,Kt.iu S.tree t=gs:=⟨_,rfl⟩
 have C:gs.length<=64:=by rw[<- a];exact AG p.wf t
 have e:S.dD t=({S with bV:=(g9 S.bV gs).1},(g9 S.bV gs).2):=by unfold Cs.dD;rw[a]
 rw[a]at m h1;rw[e];have h1:Sep E (ch A S++bw s 1 (bC gs)::L) u:=Sep.eK (Q:=ch A S) h1;have i:∀k,0<=(g9 S.bV (gs.take k)).2/\(k<=gs.length->(g9 S.bV (gs.take k)).2<=k*16777217):=by
  intro k;induction k with
  |zero=>simp[g9]
  |succ k o=>
   by_cases hk:k<gs.length
   ·have hx:gs[k]?=some gs[k]:=ea hk;rw[take_succ hx,FP];have f:=x9 (gs.take k) p.eF;have h2:=gP f.1;have d:(iI (g9 S.bV (gs.take k)).1 gs[k] jY).2<=((g9 S.bV (gs.take k)).1.length:Nat):=by
     unfold iI;simp only;have:=mw (ox gs[k] jY) (g9 S.bV (gs.take k)).1;omega
    have F:0<=(iI (g9 S.bV (gs.take k)).1 gs[k] jY).2:=by unfold iI;simp only;omega
    have G:=o.2 bu;refine⟨by simp only;omega,λ_=>by simp only;omega⟩
   ·have j:gs.take (k+1)=gs.take k:=by rw[iq bu,iq bu]
    rw[j];exact⟨o.1,λH=>bu⟩
 refine⟨s,rfl,λn x w'=>(∃k:Nat,x=k/\k<=gs.length/\n=(g9 S.bV (gs.take k)).2/\Sep E (ch A {S with bV:=(g9 S.bV (gs.take k)).1} ++bw s 1 (bC gs)::L) w'),λ_ x _=>(gs.length-x).toNat,⟨0,rfl,dX _,rfl,h1⟩,?_⟩;rintro _ _ _ w2 ⟨k,rfl,hk,rfl,h2⟩;refine cU (λD=>?_) (λB=>?_)
 ·have b:k<gs.length:=by omega
  obtain⟨g,f⟩:∃g,gs[k]?=some g:=⟨_,ea b⟩
  have l:=x9 (gs.take k) p.eF;have hlen:=gP l.1;refine(Ints.at_ (q:=16) rfl m).el h2 k rfl f ⟨_,rfl,ld h2 0 rfl rfl rfl (use (Gp.aL5 l.1 g (by show(g9 S.bV (gs.take k)).1.length<_;omega) (h2.fr 9 rfl)) ?_)⟩;rintro _ I ⟨rfl,d⟩;have d:=d.put (q:=9) rfl;have c:=FP (R:=S.bV) (gs.take k) g;rw[<- take_succ f]at c;have y:=(i (k+1)).1;have z:=(i (k+1)).2 b;have r:(g9 S.bV (gs.take (k+1))).2=(g9 S.bV (gs.take k)).2+(iI (g9 S.bV (gs.take k)).1 g jY).2:=by rw[c]
  have j:(g9 S.bV (gs.take (k+1))).1=(iI (g9 S.bV (gs.take k)).1 g jY).1:=by rw[c]
  refine⟨_,rfl,?_⟩;rw[c4];have hw:i64.wrap ((g9 S.bV (gs.take k)).2+(iI (g9 S.bV (gs.take k)).1 g jY).2)=(g9 S.bV (gs.take (k+1))).2:=by rw[cX bu bu,r]
  refine⟨⟨k+1,rfl,b,hw,by rw[j];exact d⟩,?_⟩;show(((gs.length:Nat):Int)-((k+1:Nat):Int)).toNat<(((gs.length:Nat):Int)-(k:Int)).toNat;omega
 ·have:k=gs.length:=by omega
  subst this;rw[fB]at h2 ⊢;exact⟨rfl,h2.cut⟩
def aIi{g what n:Int}(Q:Kc.Inv S)(h:Sep E (ch A S++L) w):Calls P Ju #[Pb A.c,Iv g,Iv what,Iv n] w
  (cZ E (Iv (S.cJ g what n).2) (ch A (S.cJ g what n).1++L)):=by
 apply WY;unfold LD qF qK qQ qW qZ qg;have t:S.live g=false->S.cJ g what n=(S,2):=by intro e;unfold Cs.cJ;rw[bK e]
 have o:S.live g=true->g6 n=false->S.cJ g what n=(S,1):=by intro e hn;unfold Cs.cJ;rw[bJ (by rw[e];decide),bK hn]
 have u:S.live g=true->g6 n=true->S.cJ g what n=(if what=0 then(S.iV g {S.na g with min:=n},0)
   else if what=1 then(S.iV g {S.na g with low:=n},0)
   else if what=2 then({S with fr:={S.fr with used:=(km S.fr.used g n).1}},(km S.fr.used g n).2)
   else if what=3 then({S with sl:={S.sl with used:=(km S.sl.used g n).1}},(km S.sl.used g n).2)
   else if what=4 then(if 1<n then(S,1)else(S.iV g {S.na g with whole:=n==1},0))else(S,1)):=by
  intro e hn;unfold Cs.cJ;rw[bJ (by rw[e];decide),bJ (by rw[hn];decide)]
 have M:=oF;refine⟨λw'=>S.live g=true/\g6 n=true/\Sep E (ch A S++L) w',⟨_,rfl,ld h 0 rfl rfl rfl (use (kQ h (q:=1) rfl) ?_)⟩,?_⟩
 ·rintro _ _ ⟨rfl,rfl⟩;refine⟨_,rfl,cy (λp=>?_) (λc=>?_)⟩
  ·have p:Kt.dB S.tree g=false:=by simpa using p
   rw[t p];exact⟨rfl,h⟩
  ·have c:Kt.dB S.tree g=true:=by simpa using c
   refine cU (λH=>?_) (λH=>gv (λI=>?_) (λI=>⟨c,?_,h⟩));·rw[o c (by unfold g6;rw[dq (show ¬ 0<=n by omega)];rfl)];exact⟨rfl,h⟩
   ·rw[o c (by unfold g6;rw[dq (show ¬ n<=top by omega),sH])];exact⟨rfl,h⟩
   ·unfold g6;rw[dK (show 0<=n by omega),dK (show n<=top by omega)];rfl
 rintro _ R ⟨c,hn,h1⟩;rw[u c hn];have O:=FN (show Kt.dB S.tree g=true from c);obtain⟨k,rfl⟩:∃k:Nat,g=k:=⟨g.toNat,bu⟩
 have s:k<S.guards.length:=by rw[Q.gl];omega
 obtain⟨x,hx⟩:∃x,S.guards[k]?=some x:=⟨_,ea s⟩
 have J:S.na (k:Int)=x:=by unfold Cs.na;rw[dt,dC,hx];rfl
 rw[J];obtain⟨m,h2⟩:=iX.open (h1.fr 13 rfl);refine⟨_,rfl,A.gs,h1.cellAt 0 rfl 12,jL eP.kv 0 h2 rfl m rfl hx (λb hb _=>?_)⟩;have d:∀(y:eP) {w':bI},Sep E (bw A.gs 3 (bO eP.vs (S.guards.set k y))::(ch A S++L).eraseIdx 13) w'->Sep E (ch A (S.iV (k:Int) y)++L) w':=by
  intro y w' K;have z:Sep E (iX A.gs (S.guards.set k y)::(ch A S++L).eraseIdx 13) w':=Sep.cL.2 ⟨by simpa using m,K⟩;exact z.put (q:=13) rfl
 refine eC (λe0=>?_) (λf=>eC (λC=>?_) (λi=>eC (λD=>?_) (λr=>eC (λF=>?_) (λB=>eC (λG=>?_) (λN=>?_)))))
 ·rw[bK e0];refine⟨_,rfl,tG eP.kv (a':={x with min:=n}) (j:=0) h2 hb hx bN rfl (λw2 a=>⟨rfl,d _ a⟩)⟩
 ·rw[bJ f,bK C];refine⟨_,rfl,tG eP.kv (a':={x with low:=n}) (j:=1) h2 hb hx bN rfl (λw2 a=>⟨rfl,d _ a⟩)⟩
 ·rw[bJ f,bJ i,bK D];refine⟨_,rfl,ld h1 0 rfl rfl rfl (use (Rh (h1.fr 4 rfl) (k:Int) n) ?_)⟩;rintro _ w2 ⟨rfl,a⟩;have a:=a.put (q:=4) rfl;exact⟨_,rfl,rfl,a⟩
 ·rw[bJ f,bJ i,bJ r,bK F];refine⟨_,rfl,ld h1 0 rfl rfl rfl (use (Rh (h1.fr 7 rfl) (k:Int) n) ?_)⟩;rintro _ w2 ⟨rfl,a⟩;have a:=a.put (q:=7) rfl;exact⟨_,rfl,rfl,a⟩
 ·rw[bJ f,bJ i,bJ r,bJ B,bK G];refine gv (λl=>?_) (λl=>?_);·rw[bK l];exact⟨rfl,h1⟩
  ·rw[cK];refine⟨_,rfl,tG eP.kv (a':={x with whole:=n==1}) (j:=2) h2 hb hx bN rfl (λw2 a=>⟨rfl,d _ a⟩)⟩
 ·rw[bJ f,bJ i,bJ r,bJ B,bJ N];exact⟨rfl,h1⟩
def Sq:hG P tg=some (24,3,[Iv 0,Iv 0,.bool false]):=by kernel_rfl
def aET{s:Sl}{q:Nat}{l:bA eP}{x:eP}(hn:s.n=l.length)(hb:l.length<1000000)(h:Sep E (bD q (eP.vs x)::bw s 3 (bO eP.vs l)::L) w){G:Sl->bi9}(g:∀s' a,Sep E (iX s' (l++[x])::L) a->G s' a):
  ∃d:Sl,∃a,Sem.run P (Builtin.append_ #[tg,tg] tg #[Sv s,.slice (some ⟨q,0,none⟩) 1 1]) w=.ok (Sv d) a/\G d a:=by
 have e:=Src.bD (n:=1) (c:=1) h (i:=0) rfl Sq rfl (λu hu=>by simp[eP.vs]at hu;rcases hu with rfl|rfl|rfl<;>rfl);refine bw.append h.swap Sq rfl e bu (by rw[hn];omega) (λs' a b h1=>?_);refine g s' a (Sep.cL.2 ⟨by rw[b,hn];simp,?_⟩);rw[nm,ph];exact(h1.fr 0 rfl).ro 2 [0] rfl
def q6(A:At)(row:bA bH)(b a up:Asn)(S:Cs):cr:=
 [bD A.c row,b,gM A.fp S.fr.cb,gx A.fb S.fr.cb.length S.fr.dj,de A.fu S.fr.used,gM A.sp S.sl.cb,gx A.sb S.sl.cb.length S.sl.dj,de A.su S.sl.used,
  iK A.fi S.files,Gp.fA A.ge S.bV,fW A.lg S.log,Tp.c7 A.pg S.bt,oc A.m S.kept,a,up,cO A.o]
def aEz{p:Int}(D:Kc.Inv S)(h:Sep E (ch A S++L) w):Calls P Js #[Pb A.c,Iv p] w
  (cC λv w'=>v=.tuple #[Iv (S.ct p).2.1,Iv (S.ct p).2.2]/\∃gs us:Sl,Sep E (ch {A with gs:=gs,us:=us} (S.ct p).1++L) w'):=by
 apply WV;unfold LA qC qK qZ qj qx;refine⟨_,rfl,ld h 0 rfl rfl rfl (use (ER D.wf (h.fr 1 rfl)) ?_)⟩;rintro _ K ⟨rfl,h1⟩;have h1:=h1.put (q:=1) rfl;obtain⟨r,hr⟩:∃r,Kt.gz S.tree p=r:=⟨_,rfl⟩
 rw[hr]at h1 ⊢;refine⟨_,_,rfl,eC (λe0=>?_) (λa=>?_)⟩
 ·have e:S.ct p=({S with tree:=r.1,guards:=S.guards++[⟨0,0,false⟩]},r.2):=by unfold Cs.ct;rw[hr];dsimp only;rw[bK e0]
  rw[e];have i:r.1=S.tree++[⟨p,true⟩]:=by
   rw[<- hr]at e0 ⊢;unfold Kt.gz at e0 ⊢;split at e0;·exact absurd e0 (by simp)
   ·next j=>
    rw[bJ j];split at e0;·exact absurd e0 (by simp)
    ·next k=>
     rw[bJ k];split at e0;·exact absurd e0 (by simp)
     ·next l=>rw[bJ l]
  have J:=D.wf.eI;have h1:Sep E (q6 A A.row (eb A.t r.1) (iX A.gs S.guards) (jC A.us S.tree) S++L) K:=h1;refine⟨_,rfl,A.gs,h1.cellAt 0 rfl 12,Al.i h1 (λq w2 h2=>?_)⟩;obtain⟨u,G⟩:=iX.open (h2.fr 14 rfl);refine aET (x:=⟨0,0,false⟩) u (by rw[D.gl];omega) (G.fr 1 rfl) (λgs B m=>?_);have m:Sep E (iX gs (S.guards++[⟨0,0,false⟩])::(q6 A A.row (eb A.t r.1) (iX A.gs S.guards) (jC A.us S.tree) S++L).eraseIdx 13) B:=m;have n:=m.put (q:=13) rfl;have n:Sep E (q6 A A.row (eb A.t r.1) (iX gs (S.guards++[⟨0,0,false⟩])) (jC A.us S.tree) S++L) B:=n;refine⟨_,rfl,St.i (b:=A.c) (c:=A.row) (o:=12) (L:=(q6 A A.row (eb A.t r.1) (iX gs (S.guards++[⟨0,0,false⟩])) (jC A.us S.tree) S++L).eraseIdx 0) n (by simp[At.row]) (λM f=>?_)⟩;have f:Sep E (q6 A ({A with gs:=gs} :At).row (eb A.t r.1) (iX gs (S.guards++[⟨0,0,false⟩])) (jC A.us S.tree) S++L) M:=f;refine⟨_,rfl,A.us,f.cellAt 0 rfl 13,Al.i f (λq2 N H=>?_)⟩;obtain⟨y,I⟩:=jC.open (H.fr 15 rfl);refine r4 (x:=p) (by simpa using y) (by simp;omega) (I.fr 1 rfl) (λus C z s=>?_);have s:Sep E (jC us r.1::(q6 A ({A with gs:=gs} :At).row (eb A.t r.1) (iX gs (S.guards++[⟨0,0,false⟩])) (jC A.us S.tree) S++L).eraseIdx 14) C:=by
   refine Sep.cL.2 ⟨by rw[z,i];simp,?_⟩;have F:r.1.map Kt.G.up=S.tree.map Kt.G.up++[p]:=by rw[i];simp
   rw[F];exact s
  have d:=s.put (q:=14) rfl;have d:Sep E (q6 A ({A with gs:=gs} :At).row (eb A.t r.1) (iX gs (S.guards++[⟨0,0,false⟩])) (jC us r.1) S++L) C:=d;refine⟨_,rfl,St.i (b:=A.c) (c:=({A with gs:=gs} :At).row) (o:=13) (L:=(q6 A ({A with gs:=gs} :At).row (eb A.t r.1) (iX gs (S.guards++[⟨0,0,false⟩])) (jC us r.1) S++L).eraseIdx 0) d (by simp[At.row]) (λO t=>?_)⟩;exact⟨rfl,gs,us,t⟩
 ·have e:S.ct p=(S,r.2):=by unfold Cs.ct;rw[hr];dsimp only;rw[bJ a]
  have g:r.1=S.tree:=by
   rw[<- hr]at a ⊢;unfold Kt.gz at a ⊢;split;·rfl
   ·next j=>
    rw[bJ j]at a;split;·rfl
    ·next k=>
     rw[bJ k]at a;split;·rfl
     ·next l=>rw[bJ l]at a;exact absurd rfl a
  rw[e];rw[g]at h1;exact⟨rfl,A.gs,A.us,h1⟩
end Go.Mp
namespace Go.Kc
open Go Go.Kt
def aFa{T:TS}{g:Int}:(T.eA g).Pairwise (· < ·):=by
 unfold TS.eA;rw[kk];exact(G7.filter _).imp (λ{a b} h=>by show(a:Int)<(b:Int);omega)
def Sr{l:bA G}{g:Int}(h:(jh l g).2≠0):(jh l g).1=l:=by
 unfold jh at h ⊢;split;·rfl
 ·next a=>
  rw[bJ a]at h;split;·rfl
  ·next b=>
   rw[bJ b]at h;split;·rfl
   ·next c=>rw[bJ c]at h;exact absurd rfl h
def aG3(l:bA G)(g:Int):(jh l g).1.map G.up=l.map G.up/\(jh l g).1.length=l.length:=by
 by_cases h:(jh l g).2≠0;·rw[Sr h];exact⟨rfl,rfl⟩
 ·have h:(jh l g).2=0:=by omega
  unfold jh at h ⊢;split at h;·exact absurd h (by simp)
  ·next c=>
   rw[bJ c];split at h;·exact absurd h (by simp)
   ·next a=>
    rw[bJ a];split at h;·exact absurd h (by simp)
    ·next d=>
     rw[bJ d];have hl:dB l g=true:=by
      cases hl:dB l g with
      |true=>rfl
      |false=>exact absurd hl a
     obtain⟨n,rfl,x,hx,_⟩:=jg.1 hl;have b:=(c2.1 hx).1;refine⟨?_,by simp⟩;rw[dt,hx,hT];apply gJ;intro i;rw[hv];split;·next e=>subst e;rw[dY,bK b,ez,hx];rfl
     ·rfl
end Go.Kc
namespace Go.Mp
open Go Go.Vc Go.Sp Go.Proofs Go.Kc
variable{E:Env}{L:cr}{w:bI}{A:At}{S:Cs}
def aKU(a b:Nat)(w:bI):Sem.run P (Instr.index Ji (.agg #[Pb a,Pb b]) (Iv 0)) w=.ok (Pb a) w:=by kernel_rfl
def aJl(a b:Nat)(w:bI):Sem.run P (Instr.index Ji (.agg #[Pb a,Pb b]) (Iv 1)) w=.ok (Pb b) w:=by kernel_rfl
def aDh(T:TS)(l:bS)(x o:Int):T.dG (l++[x]) o=((T.dG l o).own x o).1:=by
 unfold TS.dG;rw[Be];rfl
def aFU{g:Int}(U:Kc.Inv S)(h:Sep E (ch A S++L) w):Calls P Jt #[Pb A.c,Iv g] w
  (cZ E (Iv (S.remove g).2) (ch A (S.remove g).1++L)):=by
 apply WX;unfold LC qC qD qJ qO qQ qW qZ;obtain⟨up,I⟩:∃up,Kt.pQ S.tree g=up:=⟨_,rfl⟩
 obtain⟨r,hr⟩:∃r,Kt.jh S.tree g=r:=⟨_,rfl⟩
 refine⟨_,rfl,ld h 0 rfl rfl rfl (use (aIk h (q:=1) rfl) ?_)⟩;rintro _ _ ⟨rfl,rfl⟩;rw[I];refine⟨_,rfl,_,rfl,ld h 0 rfl rfl rfl (use (Go.Mp.n4 U.wf (h.fr 1 rfl)) ?_)⟩;rintro _ ab ⟨rfl,h1⟩;have h1:=h1.put (q:=1) rfl;rw[hr]at h1 ⊢;refine⟨_,rfl,g0 (λhf=>?_) (λhe=>?_)⟩
 ·have e:S.remove g=(S,r.2):=by unfold Cs.remove;rw[hr];dsimp only;rw[bJ hf]
  have C:r.1=S.tree:=by rw[<- hr]at hf ⊢;exact Sr hf
  rw[C]at h1;rw[e];exact⟨rfl,h1⟩
 have B:=aG3 S.tree g;rw[hr]at B;have h1:Sep E (ch A {S with tree:=r.1} ++L) ab:=by
  have e:jC A.us r.1=jC A.us S.tree:=by unfold jC;rw[B.1,B.2]
  unfold ch;simp only;rw[e];exact h1
 have e:S.remove g=({S with tree:=r.1,bt:=S.bt.dG (S.bt.eA g) up,bV:=(m9 S.bV g up).1,fr:={S.fr with used:=(gB S.fr.used [g] (c0 S.fr.used g)).1},sl:={S.sl with used:=(gB S.sl.used [g] (c0 S.sl.used g)).1}},0):=by
  unfold Cs.remove;rw[hr,I];dsimp only;rw[bK he]
 rw[e];have u:Tp.eI S.bt 16777216:=λk hk=>by
  obtain⟨p,hp⟩:=jf.1 hk;have:=U.cI.ids _ _ hp;have:=U.ids;omega
 refine⟨_,rfl,ld h1 0 rfl rfl rfl (use (Tp.aKa g u bN (h1.fr 11 rfl)) ?_)⟩;rintro _ w2 ⟨s,ids,rfl,m,C,h2⟩;have H:(ids.filter λx=> !Tp.sf S.bt g x)=S.bt.eA g:=by
  refine Gp.wL (r:=(· < · :Int->Int->Prop)) (λx=>HF x) (λx y z=>Int.lt_trans) (m.c1.filter _) aFa (λk=>?_);rw[gp,m.mem,Co U.cI];unfold Tp.sf;cases S.bt.pg k with
  |none=>simp
  |some p=>simp[bne]
 rw[H]at C h2;have h2:=h2.hC (q:=11) rfl;have h2:Sep E (ch A {S with tree:=r.1} ++bw s 1 (bC (S.bt.eA g))::L) w2:=Sep.eK (Q:=ch A {S with tree:=r.1}) h2;have hlen:(S.bt.eA g).length<=16777216:=by
  rw[<- H];exact lv (mw _ _) (m.le u)
 obtain⟨O,aa⟩:∃O,S.bt.eA g=O:=⟨_,rfl⟩
 rw[aa]at C h2 hlen ⊢;refine⟨s,rfl,λx w'=>∃k:Nat,x=k/\k<=O.length/\Sep E (ch A {S with tree:=r.1,bt:=S.bt.dG (O.take k) up} ++bw s 1 (bC O)::L) w',λx _=>(O.length-x).toNat,⟨0,rfl,dX _,h2⟩,?_⟩;rintro _ _ ag ⟨k,rfl,hk,i⟩;refine cU (λaf=>?_) (λae=>?_)
 ·have G:k<O.length:=by omega
  obtain⟨x,hx⟩:∃x,O[k]?=some x:=⟨_,ea G⟩
  refine(Ints.at_ (q:=16) rfl C).el i k rfl hx ⟨_,rfl,ld i 0 rfl rfl rfl (use (Tp.RA x up (i.fr 11 rfl)) ?_)⟩;rintro _ Y ⟨rfl,f⟩;have f:=f.put (q:=11) rfl;rw[c4];refine⟨_,rfl,⟨k+1,rfl,G,by rw[take_succ hx,aDh];exact f⟩,?_⟩;show(((O.length:Nat):Int)-((k+1:Nat):Int)).toNat<(((O.length:Nat):Int)-(k:Int)).toNat;omega
 have X:k=O.length:=by omega
 subst X;rw[fB]at i;have i:=i.cut;refine⟨_,rfl,ld i 0 rfl rfl rfl (use (Gp.aLi U.eF g up (by have:=gP U.eF;omega) (i.fr 9 rfl)) ?_)⟩;rintro _ Y ⟨rfl,f⟩;have f:=f.put (q:=9) rfl;obtain⟨T,D⟩:∃T:Cs,T= {S with tree:=r.1,bt:=S.bt.dG O up,bV:=(m9 S.bV g up).1} :=⟨_,rfl⟩
 have f:Sep E (ch A T++L) Y:=by rw[D];exact f
 have V:T.fr.used=S.fr.used:=by rw[D]
 have W:T.sl.used=S.sl.used:=by rw[D]
 obtain⟨d,t⟩:∃d:Cs,d= {T with fr:={T.fr with used:=(gB S.fr.used [g] (c0 S.fr.used g)).1}} :=⟨_,rfl⟩
 obtain⟨o,F⟩:∃o:Cs,o= {d with sl:={d.sl with used:=(gB S.sl.used [g] (c0 S.sl.used g)).1}} :=⟨_,rfl⟩
 refine⟨_,rfl,Dr.i f (λah J=>⟨_,rfl,ld J 0 rfl rfl rfl ⟨_,rfl,ld J 0 rfl rfl rfl ?_⟩⟩)⟩;refine⟨λx w'=>(x=0/\Sep E (ch A T++L) w')\/(x=1/\Sep E (ch A d++L) w')\/(x=2/\Sep E (ch A o++L) w'),λx _=>(2-x).toNat,.inl ⟨rfl,J⟩,?_⟩;rintro _ x Z (⟨rfl,n⟩|⟨rfl,n⟩|⟨rfl,n⟩)
 ·refine bT bN ⟨some ⟨A.fu,0,none⟩,Z,aKU _ _ _,Al.i n (λq N j=>?_)⟩;have j:Sep E (ch A T++bD q (bC [g])::L) N:=Sep.eK j;refine use (Aq j (q:=4) rfl g) ?_;rintro _ ad ⟨rfl,K⟩;refine⟨_,rfl,use (Ar (s:=⟨some ⟨q,0,none⟩,1,1⟩) (l:=[g]) ((Ints.h0 (L:=bD q (bC [g])::L) (b:=q) (c:=1) (gs:=[g]) (q:=0) rfl).er (A:=A) (S:=T) (q:=4) bN) (by simp) _ (K.fr 4 rfl)) ?_⟩;rintro _ R ⟨rfl,a⟩;have a:=a.put (q:=4) rfl;have a:Sep E (ch A d++bD q (bC [g])::L) R:=by rw[t,<- V];exact a
  exact⟨_,rfl,.inr (.inl ⟨bN,a.cut⟩),show((2:Int)-i64.wrap (0+1)).toNat<((2:Int)-0).toNat by decide⟩
 ·refine bT bN ⟨some ⟨A.su,0,none⟩,Z,aJl _ _ _,Al.i n (λq N j=>?_)⟩;have j:Sep E (ch A d++bD q (bC [g])::L) N:=Sep.eK j;refine use (Aq j (q:=7) rfl g) ?_;rintro _ ad ⟨rfl,K⟩;refine⟨_,rfl,use (Ar (s:=⟨some ⟨q,0,none⟩,1,1⟩) (l:=[g]) ((Ints.h0 (L:=bD q (bC [g])::L) (b:=q) (c:=1) (gs:=[g]) (q:=0) rfl).er (A:=A) (S:=d) (q:=7) bN) (by simp) _ (K.fr 7 rfl)) ?_⟩;rintro _ R ⟨rfl,a⟩;have a:=a.put (q:=7) rfl;have M:d.sl.used=S.sl.used:=by rw[t];exact W
  have a:Sep E (ch A o++bD q (bC [g])::L) R:=by rw[F,<- M];exact a
  exact⟨_,rfl,.inr (.inr ⟨bN,a.cut⟩),show((2:Int)-i64.wrap (1+1)).toNat<((2:Int)-1).toNat by decide⟩
 ·refine bF bN ⟨rfl,?_⟩;have:o= {S with tree:=r.1,bt:=S.bt.dG O up,bV:=(m9 S.bV g up).1,fr:={S.fr with used:=(gB S.fr.used [g] (c0 S.fr.used g)).1},sl:={S.sl with used:=(gB S.sl.used [g] (c0 S.sl.used g)).1}} :=by
   rw[F,t,D]
  rw[this]at n;exact n
end Go.Mp
namespace Go.Kc
open Go Go.Kt
variable{S:Cs}
def Ss(t:Int)(gs:bS):∀(n:Nat) (S:Cs),dk t gs (n+1) S=(((dk t gs n S).1.cT t gs false).1,(dk t gs n S).2+if((dk t gs n S).1.cT t gs false).2 then 1 else 0)
 |0,S=>Prod.ext rfl ((Int.add_zero _).trans (Bn _).symm)
 |n+1,S=>by
  have a:=Ss t gs n (S.cT t gs false).1;rw[dk,a,dk];rw[oU];exact⟨rfl,(HE _ _ _).symm⟩
def FQ(t:Int)(gs:bS):∀(n:Nat) (S:Cs),0<=(dk t gs n S).2/\(dk t gs n S).2<=n
 |0,S=>by simp[dk]
 |n+1,S=>by
  have:=FQ t gs n (S.cT t gs false).1;rw[dk];dsimp only;split<;>omega
def Su(t:Int):∀(l:bA (Int×Int)) (g k:Int) (S:Cs),cx t (l++[(g,k)]) S=((dk t [g] k.toNat (cx t l S).1).1,(cx t l S).2+(dk t [g] k.toNat (cx t l S).1).2)
 |[],g,k,S=>by simp[cx]
 |(x,y)::l,g,k,S=>by
  rw[pK,cx,Su t l g k,cx];rw[oU];exact⟨rfl,(HE _ _ _).symm⟩
def Sw(t:Int):∀(l:bA (Int×Int)) (S:Cs),(∀x∈l,0<=x.2/\x.2<=16777217)->0<=(cx t l S).2/\(cx t l S).2<=l.length*16777217
 |[],S,_=>by simp[cx]
 |(x,y)::l,S,h=>by
  have h1:=h _ (fS ..);have h2:=Sw t l (dk t [x] y.toNat S).1 (λz a=>h z (gn _ a));have b:=FQ t [x] y.toNat S;rw[cx];simp only[hN]at h1 ⊢;omega
def aGn{n:Int}{l:bS}(hr:iG n l=true){i:Nat}{x:Int}(hx:l[i]?=some x):∃p,(ju n l)[i]?=some p/\0<=p/\p<=x:=by
 have a:=(tY hr).2.2;have d:=(a x (eG hx)).1;by_cases h:n<=0\/cp l=0
 ·have b:=(c2.1 hx).1;refine⟨0,?_,hh _,d⟩;rw[Fi hr h,oh,bK b]
 ·have c:0<cp l:=by have:=oG (l:=l) (λy g=>(a y g).1);omega
  obtain⟨p,_,h2,e,f⟩:=sd hr c hx;exact⟨_,by rw[<- Fh hr c bu];exact h2,e,f⟩
def aEN{n:Int}{l:bS}(hr:iG n l=true):(ju n l).length=l.length:=by
 unfold ju;rw[bJ (by rw[hr];decide)];split;·simp
 ·split;·rfl
  ·exact q1 hr
def aGA(G:Good S.bV)(g:Int):0<=o9 S.bV g/\o9 S.bV g<=16777217:=by
 have h1:=Go.Mp.gP G;have h2:0<=o9 S.bV g/\o9 S.bV g<=(S.bV.length:Nat):=by
  unfold o9;refine⟨bu,?_⟩;have:=mw (λe:dI=>e.group==g) S.bV;omega
 omega
end Go.Kc
namespace Go.Mp
open Go Go.Vc Go.Sp Go.Proofs Go.Kc
variable{E:Env}{L:cr}{w:bI}{A:At}{S:Cs}
def aEw{l:bA Kt.G}{t g:Int}(h:g∈Kt.iu l t):Kt.dB l g=true:=by
 unfold Kt.iu at h;split at h
 ·unfold Kt.ou at h;obtain⟨i,a,rfl⟩:=fD.1 h;rw[gp,dF]at a;exact a.2.1
 ·cases h
def Ints.one{s:Sl}{gs:bS}{q k:Nat}{g:Int}(e:L[q]?=some (bw s 1 (bC gs)))(hn:s.n=gs.length)(a:gs[k]?=some g)(n c:Nat)(h1:n=1):Ints E L ⟨gA s.p k s.c 1,n,c⟩ [g]:=by
 subst h1;refine⟨rfl,λw h i x hx=>?_⟩;have hk:=(c2.1 a).1
 match i,hx with
 |0,hx=>
  simp at hx;subst hx;obtain⟨b,spare,hp,h1,h2,f,d⟩:=bw.iB (h.fr q e) bu;have hl:(bC gs).length=gs.length:=by simp
  refine⟨⟨b,k,none⟩,?_,?_⟩
  ·unfold gA;rw[cK,hp];show some _=some _;congr 1;show(⟨b,0,none⟩:Addr).add (k*1)=_;rw[cj];congr 1;omega
  ·rw[cj,l2,bw.cell d bu,z1,a];rfl
 |i+1,hx=>simp at hx
def aIl{t n:Int}(J:Kc.Inv S)(h:Sep E (ch A S++L) w):Calls P Jx #[Pb A.c,Iv t,Iv n] w
  (cZ E (Iv (S.shrink t n).2) (ch A (S.shrink t n).1++L)):=by
 apply W0;unfold LG qD qF qI qJ qO qQ qW qZ qg qh qm;have ad:S.guards.length<=64:=by rw[J.gl];exact J.wf.eI
 have ai:(S.live t=false\/n<1\/1000<n)->S.shrink t n=(S,0):=by intro aF;unfold Cs.shrink;rw[bK aF]
 refine⟨λw'=>S.live t=true/\1<=n/\n<=1000/\Sep E (ch A S++L) w',⟨_,rfl,ld h 0 rfl rfl rfl (use (kQ h (q:=1) rfl) ?_)⟩,?_⟩
 ·rintro _ _ ⟨rfl,rfl⟩;refine⟨_,rfl,cy (λaH=>?_) (λB=>?_)⟩
  ·have aH:Kt.dB S.tree t=false:=by simpa using aH
   rw[ai (.inl aH)];exact⟨rfl,h⟩
  ·have B:Kt.dB S.tree t=true:=by simpa using B
   refine cU (λaJ=>?_) (λaJ=>gv (λd=>?_) (λd=>⟨B,bu,bu,h⟩));·rw[ai (.inr (.inl aJ))];exact⟨rfl,h⟩
   ·rw[ai (.inr (.inr d))];exact⟨rfl,h⟩
 rintro _ bf ⟨B,bc,bd,h1⟩;obtain⟨In,hIn⟩:∃In,Kt.iu S.tree t=In:=⟨_,rfl⟩
 obtain⟨mn,ah⟩:∃mn,S.held t eP.min=mn:=⟨_,rfl⟩
 obtain⟨lw,ag⟩:∃lw,S.held t eP.low=lw:=⟨_,rfl⟩
 have bb:mn.length=S.guards.length:=by rw[<- ah];exact wH _ _
 have ba:lw.length=S.guards.length:=by rw[<- ag];exact wH _ _
 have a5:In.length<=64:=by rw[<- hIn];exact AG J.wf t
 have aA:∀g∈In,0<=g/\g<S.guards.length:=λg e=>by rw[J.gl];exact FN (aEw (by rw[hIn];exact e))
 refine⟨_,rfl,ld h1 0 rfl rfl rfl (use (wg J.wf (h1.fr 1 rfl)) ?_)⟩;rintro _ w2 ⟨a,rfl,N,h2⟩;rw[hIn]at N h2;have h2:=h2.hC (q:=1) rfl;have h2:Sep E (ch A S++bw a 1 (bC In)::L) w2:=Sep.eK (Q:=ch A S) h2;refine⟨a,rfl,use (AA RW J.gl ad J.j7 h2) ?_⟩;rintro _ bg ⟨I,rfl,aw,aK⟩;rw[ah]at aw aK;refine⟨I,rfl,use (AA RX J.gl ad J.j7 aK) ?_⟩;rintro _ bh ⟨sl,rfl,av,aL⟩;rw[ag]at av aL;refine⟨sl,rfl,r9 (n:=a.n) bu aL (λO a4 ax R=>?_)⟩;rw[N]at ax R;have R:Sep E (ch A S++bw O 1 (bC (List.replicate In.length 0))::bw sl 1 (en lw)::bw I 1 (en mn)::bw a 1 (bC In)::L) a4:=Sep.eK (Q:=ch A S) R;obtain⟨W,aD⟩:∃W,S.weights t=W:=⟨_,rfl⟩
 have K:W.length=In.length:=by rw[<- aD,<- hIn];simp[Cs.weights]
 have H:∀(k:Nat) (g:Int),In[k]?=some g->W[k]?=some (if hQ mn g=false/\hQ lw g=false then o9 S.bV g else 0):=by
  intro k g e;rw[<- aD];unfold Cs.weights;rw[hIn,ez,e,ah,ag];rfl
 have X:∀x∈W,0<=x/\x<=16777217:=by
  intro x hx;obtain⟨k,hk⟩:=rk.1 hx;have M:=(c2.1 hk).1;obtain⟨g,e⟩:∃g,In[k]?=some g:=⟨_,du⟩
  rw[H k g e]at hk;cases hk;have:=aGA J.eF g;split<;>omega
 obtain⟨Z,Y⟩:∃Z:Nat->bS,Z= λk=>W.take k++List.replicate (In.length-k) 0:=⟨_,rfl⟩
 have an:∀k,k<=In.length->(Z k).length=In.length:=λk hk=>by rw[Y];simp[K];omega
 have aR:Z 0=List.replicate In.length 0:=by rw[Y];simp
 have aS:Z In.length=W:=by rw[Y];simp only;rw[iE,<- K,fB];simp
 have aT:∀(k:Nat) (x:Int),W[k]?=some x->k<In.length->(Z k).set k x=Z (k+1):=by
  intro k x hx hk;rw[Y];simp only;rw[take_succ hx,iD k _ (by simp;omega),dp];congr 1;rw[gT,K,pM bu,iE,show In.length-k=(In.length-(k+1))+1 by omega,oS];rfl
 have aE:∀k:Nat,W[k]?=some 0->k<In.length->Z k=Z (k+1):=by
  intro k hx hk;rw[Y];simp only;rw[take_succ hx,dp];congr 1;rw[show In.length-k=(In.length-(k+1))+1 by omega,oS];rfl
 rw[<- aR]at R;refine⟨λx w'=>∃k:Nat,x=k/\k<=In.length/\Sep E (ch A S++bw O 1 (bC (Z k))::bw sl 1 (en lw)::bw I 1 (en mn)::bw a 1 (bC In)::L) w',λx _=>(In.length-x).toNat,⟨0,rfl,dX _,R⟩,?_⟩;rintro _ _ bi ⟨k,rfl,hk,G⟩;refine cU (λM=>?_) (λaq=>?_)
 ·have l:k<In.length:=by omega
  obtain⟨g,e⟩:∃g,In[k]?=some g:=⟨_,ea l⟩
  have ap:=aA g (eG e);have o:(((In.length:Nat):Int)-((k+1:Nat):Int)).toNat<(((In.length:Nat):Int)-(k:Int)).toNat:=by omega
  refine(Ints.at_ (q:=19) rfl N).el G k rfl e ?_;refine⟨λb w'=>(b=true↔(hQ mn g=false/\hQ lw g=false))/\Sep E (ch A S++bw O 1 (bC (Z k))::bw sl 1 (en lw)::bw I 1 (en mn)::bw a 1 (bC In)::L) w',
   wG 18 G rfl aw ap.1 bu (cy (λhb=>wG 17 G rfl av ap.1 bu ⟨?_,G⟩) (λhb=>⟨?_,G⟩)),?_⟩
  ·have hb:hQ mn g=false:=by simpa using hb
   simp[hb]
  ·have hb:hQ mn g=true:=by simpa using hb
   simp[hb]
  rintro _ b aI ⟨hb,f⟩;refine cy (λaV=>?_) (λaU=>?_)
  ·refine⟨_,rfl,ld f 0 rfl rfl rfl (use (Gp.aJ2 J.eF g (by have:=gP J.eF;omega) (f.fr 9 rfl)) ?_)⟩;rintro _ aZ ⟨rfl,i⟩;have i:=i.put (q:=9) rfl;have i:Sep E (ch A S++bw O 1 (bC (Z k))::bw sl 1 (en lw)::bw I 1 (en mn)::bw a 1 (bC In)::L) aZ:=i;have hx:=H k g e;rw[bK (hb.1 aV)]at hx;refine⟨_,rfl,j5 (i.fr 16 rfl) (by rw[an k hk];exact ax) bu (by rw[an k hk];omega) (λa0 d=>?_)⟩;rw[dt,aT k _ hx l]at d;have d:=d.put (q:=16) rfl;rw[c4];exact⟨⟨k+1,rfl,l,d⟩,o⟩
  ·have hx:=H k g e;rw[bJ (by rw[<- hb,aU];decide)]at hx;rw[aE k hx l]at f;rw[c4];exact⟨⟨k+1,rfl,l,f⟩,o⟩
 have af:k=In.length:=by omega
 subst af;rw[aS]at G;have D:iG n W=true:=by
  unfold iG;rw[dK (show 0<=n by omega),dK (show n<=1048576 by omega),dK (show W.length<=64 by omega)];refine fM.2 (λx hx=>?_);have:=X x hx;have:=oF;rw[dK (show 0<=x by omega),dK (show x<=top by omega)];rfl
 refine use (aIf bu bu (G.fr 16 rfl)) ?_;rintro _ aI ⟨am,rfl,au,f⟩;have f:=f.hC (q:=16) rfl;have f:Sep E (ch A S++bw am 1 (bC (ju n W))::bw O 1 (bC W)::bw sl 1 (en lw)::bw I 1 (en mn)::bw a 1 (bC In)::L) aI:=Sep.eK (Q:=ch A S) f;obtain⟨C,ak⟩:∃C,ju n W=C:=⟨_,rfl⟩
 have aM:C.length=In.length:=by rw[<- ak,aEN D,K]
 have V:∀(k:Nat) (p:Int),C[k]?=some p->0<=p/\p<=16777217:=by
  intro k p hp;have M:=(c2.1 hp).1;obtain⟨x,hx⟩:∃x,W[k]?=some x:=⟨_,du⟩
  obtain⟨p',ar,i,d⟩:=aGn D hx;rw[ak,hp]at ar;cases ar;have:=X x (eG hx);omega
 rw[ak]at f au;obtain⟨r,s⟩:∃r,r=bw am 1 (bC C)::bw O 1 (bC W)::bw sl 1 (en lw)::bw I 1 (en mn)::bw a 1 (bC In)::L:=⟨_,rfl⟩
 have aO:Ints E r am C:=by rw[s];exact Ints.row au
 have ab:∀ {T:Cs} {w:bI},Sep E (ch A T++r) w->Sep E (ch A T++L) w:=λaj=>by rw[s]at aj;exact aj.cut.cut.cut.cut.cut
 have aG:∀ {T:Cs} {w:bI},Sep E (ch A T++r) w->a.n<=a.c:=λaj=>by rw[s]at aj;exact bw.cap (aj.fr 20 rfl)
 have aP:∀(k:Nat) (g:Int) (m c:Nat),In[k]?=some g->m=1->Ints E r ⟨gA a.p k a.c 1,m,c⟩ [g]:=λk g m c e hm=>Ints.one (q:=4) (by rw[s];rfl) N e m c hm;have f:Sep E (ch A S++r) aI:=by rw[s];exact f
 clear s;obtain⟨Q,al⟩:∃Q,In.zip C=Q:=⟨_,rfl⟩
 have a6:Q.length=In.length:=by rw[<- al,List.length_zip,aM,Nat.min_self]
 have aB:∀x∈Q,0<=x.2/\x.2<=16777217:=by
  intro x hx;rw[<- al]at hx;obtain⟨k,hk⟩:=rk.1 (List.of_mem_zip hx).2;exact V k _ hk
 have az:S.shrink t n=((dL t (n-(cx t Q S).2).toNat (cx t Q S).1).1,(cx t Q S).2+(dL t (n-(cx t Q S).2).toNat (cx t Q S).1).2):=by
  unfold Cs.shrink;rw[bJ (by rw[B];simp;omega),hIn,aD,ak,al]
 rw[az];have aa:=λk=>Sw t (Q.take k) S (λx hx=>aB x (oo hx));refine⟨am,rfl,λdZ x w'=>∃k:Nat,x=k/\k<=C.length/\dZ=(cx t (Q.take k) S).2/\Sep E (ch A (cx t (Q.take k) S).1++r) w',λ_ x _=>(C.length-x).toNat,⟨0,rfl,dX _,rfl,f⟩,?_⟩;rintro _ _ _ aZ ⟨k,rfl,hk,rfl,i⟩;refine cU (λM=>?_) (λaq=>?_)
 ·have l:k<C.length:=by omega
  obtain⟨p,hp⟩:∃p,C[k]?=some p:=⟨_,ea l⟩
  obtain⟨g,e⟩:∃g,In[k]?=some g:=⟨_,du⟩
  have a3:=V k p hp;have aX:Q[k]?=some (g,p):=by rw[<- al,List.getElem?_zip_eq_some];exact⟨e,hp⟩
  have F:=Su t (Q.take k) g p S;rw[<- take_succ aX]at F;have z:Kc.Inv (cx t (Q.take k) S).1:=Inv.cx _ J;have aF:=aa k;have a8:(Q.take k).length<=64:=by rw[gT];omega
  obtain⟨T,aC⟩:∃T,cx t (Q.take k) S=T:=⟨_,rfl⟩
  rw[aC]at F z i aF ⊢;refine aO.pre.el i k rfl hp ?_;refine⟨λdZ x w'=>∃j:Nat,x=j/\(j:Int)<=p/\dZ=T.2+(dk t [g] j T.1).2/\Sep E (ch A (dk t [g] j T.1).1++r) w',λ_ x _=>(p-x).toNat,⟨0,rfl,bu,(Int.add_zero _).symm,i⟩,?_⟩;rintro _ _ _ a0 ⟨j,rfl,be,rfl,d⟩;have a7:=FQ t [g] j T.1;refine cU (λae=>?_) (λae=>?_)
  ·have a9:=aG d;have aN:Kc.Inv (dk t [g] j T.1).1:=Inv.dk _ z;rw[c4 (k:=k) bu];refine⟨⟨bu,bu⟩,⟨bu,bu⟩,use (Sd aN (t:=t) (all:=false) (sg:=⟨gA a.p ((k:Nat):Int).toNat a.c 1,(((k+1:Nat):Int)).toNat-((k:Nat):Int).toNat,a.c-((k:Nat):Int).toNat⟩) (gs:=[g]) ?_ (by simp) d) ?_⟩
   ·rw[dt];exact aP k g _ _ e bu
   rintro _ aY ⟨rfl,y⟩;have u:=Ss t [g] j T.1;have o:(p-((j+1:Nat):Int)).toNat<(p-(j:Int)).toNat:=by omega
   refine⟨_,rfl,cy (λhr=>?_) (λhr=>?_)⟩
   ·rw[hr,bK rfl]at u;rw[c4,cX bu bu];exact⟨⟨j+1,rfl,bu,by rw[u,HE],by rw[u];exact y⟩,o⟩
   ·rw[hr]at u;rw[c4];exact⟨⟨j+1,rfl,bu,by rw[u];simp,by rw[u];exact y⟩,o⟩
  ·have ae:p.toNat=j:=by omega
   rw[ae]at F;rw[c4];refine⟨⟨k+1,rfl,l,by rw[F],by rw[F];exact d⟩,?_⟩;show(((C.length:Nat):Int)-((k+1:Nat):Int)).toNat<(((C.length:Nat):Int)-(k:Int)).toNat;omega
 have af:k=Q.length:=by omega
 have ao:=aa k;rw[af,fB]at i ao ⊢;have z:Kc.Inv (cx t Q S).1:=Inv.cx _ J;obtain⟨T,aC⟩:∃T,cx t Q S=T:=⟨_,rfl⟩
 rw[aC]at i z ao ⊢;refine⟨λdZ w'=>∃U:Cs,Kc.Inv U/\T.2<=dZ/\(T.2<dZ->dZ<=n)/\dL t (n-T.2).toNat T.1=((dL t (n-dZ).toNat U).1,(dZ-T.2)+(dL t (n-dZ).toNat U).2)/\Sep E (ch A U++r) w',λdZ _=>(n-dZ).toNat,⟨T.1,z,hh _,λa1=>absurd a1 bu,Prod.ext rfl (by simp),i⟩,?_⟩;rintro _ dZ a0 ⟨U,aQ,hle,a2,he,d⟩;refine cU (λM=>?_) (λaq=>?_)
 ·obtain⟨m,hm⟩:∃m,(n-dZ).toNat=m+1:=⟨(n-dZ).toNat-1,bu⟩
  rw[hm]at he;have aW:(n-(dZ+1)).toNat=m:=by omega
  refine use (Se aQ (t:=t) d) ?_;rintro _ aY ⟨rfl,y⟩;refine⟨_,rfl,cy (λhr=>?_) (λhr=>?_)⟩
  ·have ay:dL t (m+1) U=((dL t m (U.c6 t).1).1,1+(dL t m (U.c6 t).1).2):=by rw[dL];rw[bK hr]
   rw[cX bu bu];refine⟨⟨(U.c6 t).1,aQ.c6 t,bu,λ_=>bu,?_,y⟩,by show(n-(dZ+1)).toNat<(n-dZ).toNat;omega⟩;rw[he,aW,ay];refine Prod.ext rfl ?_;show dZ-T.2+(1+_)=dZ+1-T.2+_;omega
  ·have ay:dL t (m+1) U=((U.c6 t).1,0):=by rw[dL];rw[bJ (by rw[hr];decide)]
   rw[he,ay];exact⟨by show Value.int .i64 dZ=Value.int .i64 (T.2+(dZ-T.2+0));congr 1;omega,ab y⟩
 ·have hm:(n-dZ).toNat=0:=by omega
  rw[hm]at he;rw[he];exact⟨by show Value.int .i64 dZ=Value.int .i64 (T.2+(dZ-T.2+0));congr 1;omega,ab d⟩
end Go.Mp
namespace Go.Mp
open Go Go.Vc Go.Sp Go.Proofs
variable{E:Env}{L:cr}{w W:bI}
noncomputable def hd:cf Oper:=((f34.body.bind (wI 1)).getD #[])
def aMl:Oper:={dst:=none,op:=.assign (.const (.pointer none)),type:=0,pos:= "",after:= #[],guard:=none}
noncomputable def FR(i:Nat):Oper:=(hd[i]?).getD aMl
def sj:dU:={fork:=λr=>Nat.beq r 1}
noncomputable def T0C(fr sl:Int)(sz:Sl):Tr:=(js [Iv fr,Iv sl,Sv sz] 0 .nil).put (some 6) (.pointer none)
def Sx(K:bj0):Exit->Tr->bi9:=m4 (vc P fV gZ cD sj 998 .ret (o3 P fV [.tmp 6] K (λ_ _=>False))) (o3 P fV [.tmp 6] K (λ_ _=>False))
def aKY{P:cS}{τ:bZ->K1}{ρ:bZ->Kd}{cD:bj6->Bool}{A:dU}{n i j:Nat}{a ops:cf Oper}{Q:Exit->Tr->bi9}{T:Tr}{w:bI}(h1:A.join j=none)(h2:A.sig j=none)(f:A.fork j=true):
  vc P τ ρ cD A (n+3) (.seq (.region i a false) (.seq (.region j ops true) .ret)) Q T w=
   lx P τ ρ cD A a (m4 (λT w=>Dr (λw'=>g5 P τ ρ cD A ops (m4 (vc P τ ρ cD A (n+1) .ret Q) Q) ops.size (Array.replicate ops.size false) T w') w) Q) a.toList T w:=by
 have b:u6 A (.seq (.region j ops true) .ret)=none:=by simp[u6,mC,h1]
 have c:u6 A .ret=none:=rfl;have d:∀T w,vc P τ ρ cD A (n+2) (.seq (.region j ops true) .ret) Q T w=Dr (λw'=>g5 P τ ρ cD A ops (m4 (vc P τ ρ cD A (n+1) .ret Q) Q) ops.size (Array.replicate ops.size false) T w') w:=by
  intro T w;rw[vc];simp only[c];rw[vc];unfold u5;simp only[h2,f,hU]
 rw[vc];simp only[b];rw[vc];unfold u5;dsimp only;have e:vc P τ ρ cD A (n+2) (.seq (.region j ops true) .ret) Q= λT w=>Dr (λw'=>g5 P τ ρ cD A ops (m4 (vc P τ ρ cD A (n+1) .ret Q) Q) ops.size (Array.replicate ops.size false) T w') w:=by
  funext T w;exact d T w
 rw[e]
noncomputable def FT:cf Oper:=((f34.body.bind (wI 0)).getD #[])
def aAf:f34.body=some (.seq (.region 0 FT false) (.seq (.region 1 hd true) .ret)):=by kernel_rfl
def aCf:f34.results= #[.tmp 6]:=by kernel_rfl
def azp(next:Tr->bi9)(Q:Exit->Tr->bi9)(T:Tr)(w:bI):lx P fV gZ cD sj FT (m4 next Q) FT.toList T w=next (T.put (some 6) (.pointer none)) w:=by kernel_rfl
def aDp(fr sl:Int)(sz:Sl)(K:bj0)(w:bI):
  kI P fV gZ cD sj f34 #[Iv fr,Iv sl,Sv sz] K (λ_ _=>False) w=Dr (λw'=>g5 P fV gZ cD sj hd (Sx K) hd.size (Array.replicate hd.size false) (T0C fr sl sz) w') w:=by
 unfold kI;rw[aAf,aCf];dsimp only;rw[show(1000:Nat)=997+3 from rfl,aKY rfl rfl rfl,azp];rfl
def aDg:lA P sj f34 3=true:=by kernel_rfl
def aB7:et hd=true:=by decide+kernel
def wO:hd.size=16:=by kernel_rfl
def aBz(K:bj0)(T:Tr)(w:bI):Sx K .normal T w=K (T.get 6) w:=by kernel_rfl
variable(T:Tr)(next:Tr->bi9)(Q:Exit->Tr->bi9)
abbrev hg(i:Nat):=nD P fV gZ cD sj (FR i) T w next Q
def FU:hg (w:=w) T next Q 0=Calls P CE #[] w λe w'=>∃p:cm,e=.returned (.pointer p)/\next (T.put (some 7) (.pointer p)) w':=by kernel_rfl
def FV:hg (w:=w) T next Q 1=next (T.put (some 8) (T.get 0)) w:=by kernel_rfl
def FX:hg (w:=w) T next Q 2=Calls P vB #[T.get 8] w λe w'=>∃a b c:cm,e=.returned (.agg #[.pointer a,.pointer b,.pointer c])/\next (T.put (some 9) (.agg #[.pointer a,.pointer b,.pointer c])) w':=by kernel_rfl
def FY:hg (w:=w) T next Q 3=next (T.put (some 10) (T.get 1)) w:=by kernel_rfl
def FZ:hg (w:=w) T next Q 4=Calls P vB #[T.get 10] w λe w'=>∃a b c:cm,e=.returned (.agg #[.pointer a,.pointer b,.pointer c])/\next (T.put (some 11) (.agg #[.pointer a,.pointer b,.pointer c])) w':=by kernel_rfl
def F0:hg (w:=w) T next Q 5=next (T.put (some 12) (T.get 2)) w:=by kernel_rfl
def F1:hg (w:=w) T next Q 6=Calls P CF #[T.get 12] w λe w'=>∃p:cm,e=.returned (.pointer p)/\next (T.put (some 13) (.pointer p)) w':=by kernel_rfl
def F2:hg (w:=w) T next Q 7=Calls P CG #[] w λe w'=>∃p:cm,e=.returned (.pointer p)/\next (T.put (some 14) (.pointer p)) w':=by kernel_rfl
def F3:hg (w:=w) T next Q 8=Calls P CH #[] w λe w'=>∃p:cm,e=.returned (.pointer p)/\next (T.put (some 15) (.pointer p)) w':=by kernel_rfl
def F4:hg (w:=w) T next Q 9=Calls P CI #[] w λe w'=>∃p:cm,e=.returned (.pointer p)/\next (T.put (some 16) (.pointer p)) w':=by kernel_rfl
def aMf:hg (w:=w) T next Q 10=m0 (λq=>next (T.put (some 17) (.map (some q)))) w:=by kernel_rfl
def aMg:hg (w:=w) T next Q 11=∃x:Sl,∃w',Sem.run P (Instr.makeSlice tg (Iv 1) (Iv 1)) w=.ok (Sv x) w'/\next (T.put (some 18) (Sv x)) w':=by kernel_rfl
def aMh:hg (w:=w) T next Q 12=Al (.cells #[Iv (-1)] 3) (λq=>next (T.put (some 19) (.slice (some q) 1 1))) w:=by kernel_rfl
def aMj:hg (w:=w) T next Q 14=Al (.cells (T.get 20).cells CA) (λq=>next (T.put (some 21) (.pointer (some q)))) w:=by kernel_rfl
def aMk:hg (w:=w) T next Q 15=next (T.put (some 6) (T.get 21)) w:=by kernel_rfl
end Go.Mp
namespace Go.Mp
open Go Go.Vc Go.Sp Go.Proofs
variable{E:Env}{L:cr}{w W:bI}
def wP(t a b1 c b b2 d f g lg pg:cm)(m:bX Nat)(gs up:Sl):bA bH:=
 [.pointer t,.pointer a,.pointer b1,.pointer c,.pointer b,.pointer b2,.pointer d,.pointer f,.pointer g,.pointer lg,.pointer pg,.map m,Sv gs,Sv up]
def aMi(T:Tr)(next:Tr->bi9)(Q:Exit->Tr->bi9):hg (w:=w) T next Q 13=uY P CA #[(0,T.get 7),(1,T.get 9),(2,T.get 11),(3,T.get 13),(4,T.get 14),(5,T.get 15),(6,T.get 16),(7,T.get 17),(8,T.get 18),(9,T.get 19)] (λv=>next (T.put (some 20) v) w):=by kernel_rfl
def aGs(t a b1 c b b2 d f g lg pg:cm)(m:bX Nat)(gs up:Sl)(F:bH->Prop):
  uY P CA #[(0,.pointer t),(1,.agg #[.pointer a,.pointer b1,.pointer c]),(2,.agg #[.pointer b,.pointer b2,.pointer d]),(3,.pointer f),(4,.pointer g),(5,.pointer lg),(6,.pointer pg),(7,.map m),(8,Sv gs),(9,Sv up)] F
   =F (.agg (wP t a b1 c b b2 d f g lg pg m gs up).toArray):=by kernel_rfl
def lU:bA Nat:=[7,8,9,10,11,12,13,14,15,16,17,18,19,20,21,6]
def aBr:(List.range 16).map (fj hd)=lU:=by decide+kernel
def F5{i:Nat}(h:i<16):some (fj hd i)=lU[i]? :=by
 rw[<- aBr,ez,ny h];rfl
def lj{i d:Nat}(h:lU[i]?=some d):fj hd i=d:=by
 have a:i<16:=(c2.1 h).1;have:=F5 a;rw[h]at this;exact cV this
def AI(ops:cf Oper)(i j:Nat):Bool:=match ops[i]? with
 |some o=>o.after.toList.any λe=>Region.binds .any e&&Nat.beq e.on j
 |none=>false
def Sy{ops:cf Oper}{i j:Nat}(h:AI ops i j=true):waits ops i j:=by
 unfold AI at h;split at h
 ·next o ho=>
  obtain⟨e,he,h2⟩:=uM.1 h;rw[dF]at h2;exact⟨o,ho,e,he,h2.1,kz h2.2⟩
 ·cases h
def py:bA (bA Nat):=[[7],[8],[9],[10],[11],[12],[13],[14],[15],[16],[17],[18],[19],[20,7,9,11,13,14,15,16,17,18,19],[21,20],[6,21]]
def aCy:((List.range 16).all λi=>(List.range 16).all λj=>Nat.beq i j||AI hd i j|| !((py.getD i []).contains (lU.getD j 0)))=true:=by decide+kernel
def Sz{i j:Nat}{T:Tr}{v:bH}(h:i<16)(c:j<16)(g:i≠j)(hw:¬ waits hd i j):∀s∈py.getD i [],(T.put (some (fj hd j)) v).get s=T.get s:=by
 intro s k;have h1:=fM.1 (fM.1 aCy i (gq.2 h)) j (gq.2 c);simp only[jS,ir]at h1;have a:=F5 c;have b:lU.getD j 0=fj hd j:=by rw[dC,<- a];rfl
 rw[b]at h1;have f:fj hd j<8000:=by
  have:∀d∈lU,d<8000:=by decide
  exact this _ (eG a.symm)
 rw[Tr.dT _ _ _ _ f];split
 ·next e=>
  subst e;rcases h1 with(h1|h1)|h1;·exact absurd (kz h1) g
  ·exact absurd (Sy h1) hw
  ·have:=lq.2 k;rw[h1]at this;cases this
 ·rfl
def wQ(v c:bH):Asn:=fo λb=>cL (v=Pb b) (bD b c.cells.toList)
def oH(v:bH):Prop:=∃p:cm,v=.pointer p
def wR(v:bH):Prop:=∃a b c:cm,v=.agg #[.pointer a,.pointer b,.pointer c]
noncomputable def FC(fr sl:Int)(sz:Sl):Nat->Tr->Prop
 |1,T=>T.get 8=Iv fr
 |2,T=>wR (T.get 9)
 |3,T=>T.get 10=Iv sl
 |4,T=>wR (T.get 11)
 |5,T=>T.get 12=Sv sz
 |0,T=>oH (T.get 7)
 |6,T=>oH (T.get 13)
 |7,T=>oH (T.get 14)
 |8,T=>oH (T.get 15)
 |9,T=>oH (T.get 16)
 |10,T=>∃m:bX Nat,T.get 17=.map m
 |11,T=>∃s:Sl,T.get 18=Sv s
 |12,T=>∃s:Sl,T.get 19=Sv s
 |13,T=>∃t a b1 d c b2 e f g lg pg m gs up,T.get 7=.pointer t/\T.get 9=.agg #[.pointer a,.pointer b1,.pointer d]/\T.get 11=.agg #[.pointer c,.pointer b2,.pointer e]/\T.get 13=.pointer f/\T.get 14=.pointer g/\
   T.get 15=.pointer lg/\T.get 16=.pointer pg/\T.get 17=.map m/\T.get 18=Sv gs/\T.get 19=Sv up/\T.get 20=.agg (wP t a b1 d c b2 e f g lg pg m gs up).toArray
 |14,T=>∃b,T.get 21=Pb b
 |15,T=>T.get 6=T.get 21
 |_,_=>False
noncomputable def OC(O:Nat->bH->cr):Nat->Tr->cr
 |0,T=>O 0 (T.get 7)
 |2,T=>O 1 (T.get 9)
 |4,T=>O 2 (T.get 11)
 |6,T=>O 3 (T.get 13)
 |7,T=>O 4 (T.get 14)
 |8,T=>O 5 (T.get 15)
 |9,T=>O 6 (T.get 16)
 |10,T=>O 7 (T.get 17)
 |11,T=>O 8 (T.get 18)
 |12,T=>O 9 (T.get 19)
 |14,T=>[wQ (T.get 21) (T.get 20)]
 |_,_=>[]
def aLZ{fr sl:Int}{sz:Sl}{i:Nat}{T T':Tr}(a:i<16)(h:∀s∈py.getD i [],T'.get s=T.get s):FC fr sl sz i T->FC fr sl sz i T':=by
 match i,a with
 |0,_=>simp only[FC];rw[h 7 bN];exact id
 |1,_=>simp only[FC];rw[h 8 bN];exact id
 |2,_=>simp only[FC];rw[h 9 bN];exact id
 |3,_=>simp only[FC];rw[h 10 bN];exact id
 |4,_=>simp only[FC];rw[h 11 bN];exact id
 |5,_=>simp only[FC];rw[h 12 bN];exact id
 |6,_=>simp only[FC];rw[h 13 bN];exact id
 |7,_=>simp only[FC];rw[h 14 bN];exact id
 |8,_=>simp only[FC];rw[h 15 bN];exact id
 |9,_=>simp only[FC];rw[h 16 bN];exact id
 |10,_=>simp only[FC];rw[h 17 bN];exact id
 |11,_=>simp only[FC];rw[h 18 bN];exact id
 |12,_=>simp only[FC];rw[h 19 bN];exact id
 |13,_=>simp only[FC];rw[h 7 bN,h 9 bN,h 11 bN,h 13 bN,h 14 bN,h 15 bN,h 16 bN,h 17 bN,h 18 bN,h 19 bN,h 20 bN];exact id
 |14,_=>simp only[FC];rw[h 21 bN];exact id
 |15,_=>simp only[FC];rw[h 6 bN,h 21 bN];exact id
 |n+16,a=>exact absurd a bu
def aL0{O:Nat->bH->cr}{i:Nat}{T T':Tr}(a:i<16)(h:∀s∈py.getD i [],T'.get s=T.get s):OC O i T'=OC O i T:=by
 match i,a with
 |0,_=>simp only[OC];rw[h 7 bN]
 |1,_=>rfl
 |2,_=>simp only[OC];rw[h 9 bN]
 |3,_=>rfl
 |4,_=>simp only[OC];rw[h 11 bN]
 |5,_=>rfl
 |6,_=>simp only[OC];rw[h 13 bN]
 |7,_=>simp only[OC];rw[h 14 bN]
 |8,_=>simp only[OC];rw[h 15 bN]
 |9,_=>simp only[OC];rw[h 16 bN]
 |10,_=>simp only[OC];rw[h 17 bN]
 |11,_=>simp only[OC];rw[h 18 bN]
 |12,_=>simp only[OC];rw[h 19 bN]
 |13,_=>rfl
 |14,_=>simp only[OC];rw[h 21 bN,h 20 bN]
 |15,_=>rfl
 |n+16,a=>exact absurd a bu
structure q7(E:Env)(L0:cr)(fr sl:Int)(sz:Sl)(O:Nat->bH->cr):Prop where
 tree:∀ {L w},Sep E L w->Calls P CE #[] w (cC λv w'=>oH v/\Sep E (O 0 v++L) w')
 bQ:∀ {L w},Sep E L w->Calls P vB #[Iv fr] w (cC λv w'=>wR v/\Sep E (O 1 v++L) w')
 cg:∀ {L w},Sep E L w->Calls P vB #[Iv sl] w (cC λv w'=>wR v/\Sep E (O 2 v++L) w')
 files:∀ {R w},Sep E (R++L0) w->Calls P CF #[Sv sz] w (cC λv w'=>oH v/\Sep E (O 3 v++(R++L0)) w')
 bV:∀ {L w},Sep E L w->Calls P CG #[] w (cC λv w'=>oH v/\Sep E (O 4 v++L) w')
 log:∀ {L w},Sep E L w->Calls P CH #[] w (cC λv w'=>oH v/\Sep E (O 5 v++L) w')
 bt:∀ {L w},Sep E L w->Calls P CI #[] w (cC λv w'=>oH v/\Sep E (O 6 v++L) w')
 kept:∀ {L w b},Sep E (cM b (Value.int .i64) (λ_=>none)::L) w->Sep E (O 7 (.map (some b))++L) w
 guards:∀ {L w b},Sep E (bD b [Iv 0,Iv 0,.bool false]::L) w->Sep E (O 8 (.slice (some ⟨b,0,none⟩) 1 1)++L) w
 up:∀ {L w b},Sep E (bD b [Iv (-1)]::L) w->Sep E (O 9 (.slice (some ⟨b,0,none⟩) 1 1)++L) w
def h5(T:Tr)(d:Nat)(v:bH)(h:d<8000):(T.put (some d) v).get d=v:=by rw[Tr.dT _ _ _ _ h,bK rfl]
def lV(T:Tr){d s:Nat}(v:bH)(h:d<8000)(a:s≠d):(T.put (some d) v).get s=T.get s:=by rw[Tr.dT _ _ _ _ h,bJ a]
def aGV{α:Type _}(A L:bA α)(x:α):((A++[x])++L).Perm (x::(A++L)):=by
 rw[dp];exact jo
def aEG{fr sl:Int}{sz:Sl}{O:Nat->bH->cr}(H:q7 E L fr sl sz O)(h:Sep E L w):Calls P CC #[Iv fr,Iv sl,Sv sz] w (cC λv w'=>
  ∃b t G b1 J I b2 K f g lg pg m gs up,v=Pb b/\Sep E (bD b (wP t G b1 J I b2 K f g lg pg m gs up)::
   (O 0 (.pointer t)++(O 1 (.agg #[.pointer G,.pointer b1,.pointer J])++(O 2 (.agg #[.pointer I,.pointer b2,.pointer K])++(O 3 (.pointer f)++(O 4 (.pointer g)++(O 5 (.pointer lg)++(O 6 (.pointer pg)++(O 7 (.map m)++
    (O 8 (Sv gs)++(O 9 (Sv up)++L))))))))))) w'):=by
 refine B0 (τ:=fV) (ρ:=gZ) (cD:=cD) (A:=sj) mixed func34 aDg ?_;rw[aDp];refine Dr.i h (λan h1=>?_);refine aJr (λT=>T.get 0=Iv fr/\T.get 1=Iv sl/\T.get 2=Sv sz) (FC fr sl sz) (OC O) aB7 ?_ ?_ ?_ ?_ ?_ ?_ h1
 ·rintro T i v r ⟨e0,ae,af⟩;rw[wO]at r;have ai:=F5 r;have:∀d∈lU,d<8000/\0≠d/\1≠d/\2≠d:=by decide
  obtain⟨k,k0,aj,ak⟩:=this _ (eG ai.symm);rw[lV _ _ k k0,lV _ _ k aj,lV _ _ k ak];exact⟨e0,ae,af⟩
 ·intro i j T v r s N hw;rw[wO]at r s;exact aLZ r (Sz r s N hw)
 ·intro i j T v r s N hw;rw[wO]at r s;exact aL0 r (Sz r s N hw)
 ·intro T w i o R hx ho Y q next hn
  have r:i<16:=by rw[<- wO];exact(pG.1 ho).1
  have ad:FR i=o:=by unfold FR;rw[ho];rfl
  have l:∀j,AI hd i j=true->FC fr sl sz j T:=by
   intro j s;obtain⟨am,W,e,he,hb,rfl⟩:=Sy s;rw[ho]at W;cases W;exact Y e he hb
  subst ad
  match i,r with
  |0,_=>
   rw[lj (d:=7) rfl]at hn;refine(FU T next _).mpr ?_;refine use (H.tree q) ?_;rintro _ w2 ⟨⟨p,rfl⟩,h2⟩;refine⟨p,rfl,hn _ _ ?_ ?_⟩;·simp only[FC];rw[h5 _ _ _ bN];exact⟨p,rfl⟩
   ·simp only[OC];rw[h5 _ _ _ bN];exact h2
  |1,_=>
   rw[lj (d:=8) rfl]at hn;refine(FV T next _).mpr ?_;refine hn _ _ ?_ q;simp only[FC];rw[h5 _ _ _ bN];exact hx.1
  |2,_=>
   rw[lj (d:=9) rfl]at hn;have e:T.get 8=Iv fr:=l 1 (by decide+kernel);refine(FX T next _).mpr ?_;rw[e];refine use (H.bQ q) ?_;rintro _ w2 ⟨⟨a,b,c,rfl⟩,h2⟩;refine⟨a,b,c,rfl,hn _ _ ?_ ?_⟩;·simp only[FC];rw[h5 _ _ _ bN];exact⟨a,b,c,rfl⟩
   ·simp only[OC];rw[h5 _ _ _ bN];exact h2
  |3,_=>
   rw[lj (d:=10) rfl]at hn;refine(FY T next _).mpr ?_;refine hn _ _ ?_ q;simp only[FC];rw[h5 _ _ _ bN];exact hx.2.1
  |4,_=>
   rw[lj (d:=11) rfl]at hn;have e:T.get 10=Iv sl:=l 3 (by decide+kernel);refine(FZ T next _).mpr ?_;rw[e];refine use (H.cg q) ?_;rintro _ w2 ⟨⟨a,b,c,rfl⟩,h2⟩;refine⟨a,b,c,rfl,hn _ _ ?_ ?_⟩;·simp only[FC];rw[h5 _ _ _ bN];exact⟨a,b,c,rfl⟩
   ·simp only[OC];rw[h5 _ _ _ bN];exact h2
  |5,_=>
   rw[lj (d:=12) rfl]at hn;refine(F0 T next _).mpr ?_;refine hn _ _ ?_ q;simp only[FC];rw[h5 _ _ _ bN];exact hx.2.2
  |6,_=>
   rw[lj (d:=13) rfl]at hn;have e:T.get 12=Sv sz:=l 5 (by decide+kernel);refine(F1 T next _).mpr ?_;rw[e];refine use (H.files q) ?_;rintro _ w2 ⟨⟨p,rfl⟩,h2⟩;refine⟨p,rfl,hn _ _ ?_ ?_⟩;·simp only[FC];rw[h5 _ _ _ bN];exact⟨p,rfl⟩
   ·simp only[OC];rw[h5 _ _ _ bN];exact h2
  |7,_=>
   rw[lj (d:=14) rfl]at hn;refine(F2 T next _).mpr ?_;refine use (H.bV q) ?_;rintro _ w2 ⟨⟨p,rfl⟩,h2⟩;refine⟨p,rfl,hn _ _ ?_ ?_⟩;·simp only[FC];rw[h5 _ _ _ bN];exact⟨p,rfl⟩
   ·simp only[OC];rw[h5 _ _ _ bN];exact h2
  |8,_=>
   rw[lj (d:=15) rfl]at hn;refine(F3 T next _).mpr ?_;refine use (H.log q) ?_;rintro _ w2 ⟨⟨p,rfl⟩,h2⟩;refine⟨p,rfl,hn _ _ ?_ ?_⟩;·simp only[FC];rw[h5 _ _ _ bN];exact⟨p,rfl⟩
   ·simp only[OC];rw[h5 _ _ _ bN];exact h2
  |9,_=>
   rw[lj (d:=16) rfl]at hn;refine(F4 T next _).mpr ?_;refine use (H.bt q) ?_;rintro _ w2 ⟨⟨p,rfl⟩,h2⟩;refine⟨p,rfl,hn _ _ ?_ ?_⟩;·simp only[FC];rw[h5 _ _ _ bN];exact⟨p,rfl⟩
   ·simp only[OC];rw[h5 _ _ _ bN];exact h2
  |10,_=>
   rw[lj (d:=17) rfl]at hn;refine(aMf T next _).mpr ?_;refine cM.new (enc:=Value.int .i64) q (λb w2 h2=>hn _ _ ?_ ?_);·simp only[FC];rw[h5 _ _ _ bN];exact⟨some b,rfl⟩
   ·simp only[OC];rw[h5 _ _ _ bN];exact H.kept h2
  |11,_=>
   rw[lj (d:=18) rfl]at hn;refine(aMg T next _).mpr ?_;refine makeSlice.i q (by kernel_rfl:hG P tg=some (24,3,[Iv 0,Iv 0,.bool false])) bN (hh _) bN bN (λb w2 h2=>hn _ _ ?_ ?_);·simp only[FC];rw[h5 _ _ _ bN];exact⟨⟨some ⟨b,0,none⟩,1,1⟩,rfl⟩
   ·simp only[OC];rw[h5 _ _ _ bN];exact H.guards h2
  |12,_=>
   rw[lj (d:=19) rfl]at hn;refine(aMh T next _).mpr ?_;refine Al.i q (λb w2 h2=>hn _ _ ?_ ?_);·simp only[FC];rw[h5 _ _ _ bN];exact⟨⟨some ⟨b,0,none⟩,1,1⟩,rfl⟩
   ·simp only[OC];rw[h5 _ _ _ bN];exact H.up h2
  |13,_=>
   rw[lj (d:=20) rfl]at hn;obtain⟨t,Q⟩:=l 0 (by decide+kernel);obtain⟨G,b1,J,S⟩:=l 2 (by decide+kernel);obtain⟨I,b2,K,u⟩:=l 4 (by decide+kernel);obtain⟨f,x⟩:=l 6 (by decide+kernel);obtain⟨g,y⟩:=l 7 (by decide+kernel);obtain⟨lg,z⟩:=l 8 (by decide+kernel);obtain⟨pg,B⟩:=l 9 (by decide+kernel);obtain⟨m,C⟩:=l 10 (by decide+kernel);obtain⟨gs,D⟩:=l 11 (by decide+kernel);obtain⟨up,F⟩:=l 12 (by decide+kernel);refine(aMi T next _).mpr ?_;rw[Q,S,u,x,y,z,B,C,D,F,aGs];refine hn _ _ ?_ q;simp only[FC];rw[h5 _ _ _ bN];have k:(20:Nat)<8000:=by decide
   rw[lV _ _ k bN,lV _ _ k bN,lV _ _ k bN,lV _ _ k bN,lV _ _ k bN,lV _ _ k bN,lV _ _ k bN,lV _ _ k bN,lV _ _ k bN,lV _ _ k bN];exact⟨t,G,b1,J,I,b2,K,f,g,lg,pg,m,gs,up,Q,S,u,x,y,z,B,C,D,F,rfl⟩
  |14,_=>
   rw[lj (d:=21) rfl]at hn;refine(aMj T next _).mpr ?_;refine Al.i q (λb w2 h2=>hn _ _ ?_ ?_);·simp only[FC];rw[h5 _ _ _ bN];exact⟨b,rfl⟩
   ·simp only[OC];rw[h5 _ _ _ bN,lV _ _ bN bN];exact Sep.ex.2 ⟨b,Sep.cL.2 ⟨rfl,h2⟩⟩
  |15,_=>
   rw[lj (d:=6) rfl]at hn;refine(aMk T next _).mpr ?_;refine hn _ _ ?_ q;simp only[FC];rw[h5 _ _ _ bN,lV _ _ bN bN]
  |n+16,r=>exact absurd r bu
 ·intro T w2 M hx U ah hp;rw[aBz];rw[wO]at U hp;obtain⟨t,G,b1,J,I,b2,K,f,g,lg,pg,m,gs,up,Q,S,u,x,y,z,B,C,D,F,Z⟩:=U 13 bN;obtain⟨b,V⟩:=U 14 bN;have ag:T.get 6=T.get 21:=U 15 bN;rw[ag,V];refine⟨b,t,G,b1,J,I,b2,K,f,g,lg,pg,m,gs,up,rfl,?_⟩;have aa:=ah.perm (sC L hp);have e:((List.range 16).flatMap λi=>OC O i T)=(O 0 (T.get 7)++(O 1 (T.get 9)++(O 2 (T.get 11)++(O 3 (T.get 13)++(O 4 (T.get 14)++(O 5 (T.get 15)++(O 6 (T.get 16)++(O 7 (T.get 17)++(O 8 (T.get 18)++O 9 (T.get 19))))))))))++[wQ (T.get 21) (T.get 20)]:=by
   rw[show List.range 16= [0,1,2,3,4,5,6,7,8,9,10,11,12,13,14,15]from rfl];simp only[oq,List.flatMap_nil,g3,l1,OC,dp]
  rw[e,Q,S,u,x,y,z,B,C,D,F,Z,V]at aa;have ab:=aa.perm (aGV _ _ _);simp only[dp]at ab;obtain⟨al,X⟩:=Sep.ex.1 ab;obtain⟨hb,X⟩:=Sep.cL.1 X;cases hb;exact X
 ·refine⟨by kernel_rfl,by kernel_rfl,by kernel_rfl⟩
end Go.Mp
