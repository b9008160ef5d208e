/- A part of the proof. -/
import Derived.Test.YtafigbgagbolgaaGreatDoorD13
set_option linter.all false
set_option maxRecDepth 100000
open Go.IntKind(i64 u64)
open Go.Proofs.Tryz
namespace Go.Mp
open Go Go.Vc Go.Sp Go.Proofs Go.Kc
variable{E:Env}{L:cr}{w:bI}{A:At}{S:Cs}
def aGh(h:Sep E L w):Calls P CE #[] w (cC λv w'=>∃t,v=Pb t/\Sep E (eb t Kt.new::L) w'):=by
 apply WG;unfold Lm;refine Al.i h (λa e h1=>Al.i h1 (λb w2 h2=>⟨b,rfl,eb.mk (s:=⟨some ⟨a,0,none⟩,1,1⟩) rfl ?_⟩));have d:Sep E (bD a ([Iv (-1),.bool true]++[])::bD b [.slice (some ⟨a,0,none⟩) 1 1]::L) w2:=h2.swap;exact(bw.make (spare:=[]) (n:=1) (c:=1) (m:=2) d rfl rfl (ec _)).swap
def pz(v:bH)(s:e9):Asn:=fo λp:Nat=>fo λb:Nat=>fo λu:Nat=>cL (v=.agg #[Pb p,Pb b,Pb u]) (star (gM p s.cb) (star (gx b s.cb.length s.dj) (de u s.used)))
def SA(n:Int)(h:Sep E L w):Calls P vB #[Iv n] w (cC λv w'=>wR v/\Sep E (pz v (gL n)::L) w'):=by
 apply WH;unfold Ln qP qR qU;refine Al.i h (λq j h1=>use (Z5 n h1) ?_);rintro _ w2 ⟨p,rfl,h2⟩;refine⟨_,rfl,use (aC1 n h2) ?_⟩;rintro _ k ⟨b,rfl,d⟩;refine⟨_,rfl,use (aBb d) ?_⟩;rintro _ l ⟨u,rfl,f⟩;refine⟨_,rfl,ey (vs:=[Pb p,Pb b,Pb u]) _ (f.fr 3 rfl) rfl (λc a=>?_)⟩;refine ld a 0 rfl rfl rfl (ld a 0 rfl rfl rfl (ld a 0 rfl rfl rfl ⟨⟨_,_,_,rfl⟩,?_⟩));have g:Sep E (gM p (lB n)::gx b (min (max n 0).toNat 1024) (List.replicate (16*min (max n 0).toNat 1024) 0)::de u mH::L) c:=a.tail.ro 3 [2,1,0] rfl;refine Sep.ex.2 ⟨p,Sep.ex.2 ⟨b,Sep.ex.2 ⟨u,Sep.cL.2 ⟨rfl,Sep.star.2 ?_⟩⟩⟩⟩;have e:(lB n).length=min (max n 0).toNat 1024:=by simp[lB]
 have i:Sep E (star (gx b (min (max n 0).toNat 1024) (List.replicate (16*min (max n 0).toNat 1024) 0)) (de u mH)::gM p (lB n)::L) c:=Sep.star.2 (g.ro 3 [1,2,0] rfl);rw[show(gL n).cb.length=min (max n 0).toNat 1024 from e];exact i.swap
def gQ(f:Nat->Asn)(v:bH):Asn:=fo λb:Nat=>cL (v=Pb b) (f b)
def F6(fr sl:Int)(l:bS):Nat->bH->cr
 |0,v=>[gQ (λt=>eb t Kt.new) v]
 |1,v=>[pz v (gL fr)]
 |2,v=>[pz v (gL sl)]
 |3,v=>[gQ (λb=>iK b (g7 l)) v]
 |4,v=>[gQ (λb=>Gp.fA b []) v]
 |5,v=>[gQ (λb=>fW b (List.replicate 64 0)) v]
 |6,v=>[gQ (λb=>Tp.c7 b TS.zero) v]
 |7,v=>[fo λm:Nat=>cL (v=.map (some m)) (oc m (λ_=>none))]
 |8,v=>[fo λs:Sl=>cL (v=Sv s) (iX s [⟨0,0,false⟩])]
 |9,v=>[fo λs:Sl=>cL (v=Sv s) (jC s Kt.new)]
 |_,_=>[]
def parts{fr sl:Int}{sz:Sl}{l:bS}(d:Ints E L sz l)(a:sz.n<=sz.c):q7 E L fr sl sz (F6 fr sl l) where
 tree:=λh=>use (aGh h) (by rintro _ w' ⟨t,rfl,h'⟩;exact⟨_,rfl,⟨_,rfl⟩,Sep.ex.2 ⟨t,Sep.cL.2 ⟨rfl,h'⟩⟩⟩)
 bQ:=λh=>SA fr h
 cg:=λh=>SA sl h
 files:=λ{R w} h=>use (aEH (d.of (λ_ f=>Sep.right (Q:=R) f)) a h) (by rintro _ w' ⟨t,rfl,h'⟩;exact⟨_,rfl,⟨_,rfl⟩,Sep.ex.2 ⟨t,Sep.cL.2 ⟨rfl,h'⟩⟩⟩)
 bV:=λh=>use (Gp.wC h) (by rintro _ w' ⟨t,rfl,h'⟩;exact⟨_,rfl,⟨_,rfl⟩,Sep.ex.2 ⟨t,Sep.cL.2 ⟨rfl,h'⟩⟩⟩)
 log:=λh=>use (aC3 h) (by rintro _ w' ⟨t,rfl,h'⟩;exact⟨_,rfl,⟨_,rfl⟩,Sep.ex.2 ⟨t,Sep.cL.2 ⟨rfl,h'⟩⟩⟩)
 bt:=λh=>use (Tp.wC h) (by rintro _ w' ⟨t,rfl,h'⟩;exact⟨_,rfl,⟨_,rfl⟩,Sep.ex.2 ⟨t,Sep.cL.2 ⟨rfl,h'⟩⟩⟩)
 kept:=λ{L w b} h=>Sep.ex.2 ⟨b,Sep.cL.2 ⟨rfl,Sep.cL.2 ⟨λ_ _ e=>(by cases e),h⟩⟩⟩
 guards:=λ{L w b} h=>Sep.ex.2 ⟨⟨some ⟨b,0,none⟩,1,1⟩,Sep.cL.2 ⟨rfl,Sep.cL.2 ⟨rfl,bw.make (spare:=[]) (n:=1) (c:=1) (m:=3) h rfl rfl (ec _)⟩⟩⟩
 up:=λ{L w b} h=>Sep.ex.2 ⟨⟨some ⟨b,0,none⟩,1,1⟩,Sep.cL.2 ⟨rfl,Sep.cL.2 ⟨rfl,bw.make (spare:=[]) (n:=1) (c:=1) (m:=1) h rfl rfl (ec _)⟩⟩⟩
def gQ.open{f:Nat->Asn}{v:bH}(h:Sep E (gQ f v::L) w):∃b,v=Pb b/\Sep E (f b::L) w:=by
 obtain⟨b,h⟩:=Sep.ex.1 h;obtain⟨a,h⟩:=Sep.cL.1 h;exact⟨b,a,h⟩
def pz.open{s:e9}{v:bH}(h:Sep E (pz v s::L) w):∃p b u,v=.agg #[Pb p,Pb b,Pb u]/\Sep E (gM p s.cb::gx b s.cb.length s.dj::de u s.used::L) w:=by
 obtain⟨p,h⟩:=Sep.ex.1 h;obtain⟨b,h⟩:=Sep.ex.1 h;obtain⟨u,h⟩:=Sep.ex.1 h;obtain⟨a,h⟩:=Sep.cL.1 h;have h1:=Sep.star.1 h;have h2:=Sep.star.1 (h1.fr 1 rfl);exact⟨p,b,u,a,h2.ro 3 [2,0,1] rfl⟩
def SB{s s':Sl}(h:Value.slice s.p s.n s.c=.slice s'.p s'.n s'.c):s=s':=by
 obtain⟨a,b,c⟩:=s;obtain⟨d,e,f⟩:=s';injection h with h1 h2 g
 simp only at h1 h2 g;rw[h1,h2,g]
def wC{fr sl:Int}{sz:Sl}{l:bS}{o:cf Obj}(T:Ints E (cO o::L) sz l)(q:sz.n<=sz.c)(h:Sep E (cO o::L) w):Calls P CC #[Iv fr,Iv sl,Sv sz] w
  (cC λv w'=>∃A:At,v=Pb A.c/\A.o=o/\Sep E (ch A (Kc.new fr sl l)++L) w'):=by
 refine use (aEG (parts T q) h) ?_;rintro _ K ⟨b,t,B,b1,D,C,b2,F,f,g,lg,pg,m,gs,up,rfl,h1⟩;have h1:Sep E (bD b (wP t B b1 D C b2 F f g lg pg m gs up)::gQ (λt=>eb t Kt.new) (.pointer t)::pz (.agg #[.pointer B,.pointer b1,.pointer D]) (gL fr)::pz (.agg #[.pointer C,.pointer b2,.pointer F]) (gL sl)::
  gQ (λb=>iK b (g7 l)) (.pointer f)::gQ (λb=>Gp.fA b []) (.pointer g)::gQ (λb=>fW b (List.replicate 64 0)) (.pointer lg)::gQ (λb=>Tp.c7 b TS.zero) (.pointer pg)::
  (fo λc:Nat=>cL ((.map m:bH)=.map (some c)) (oc c (λ_=>none)))::(fo λs:Sl=>cL ((Sv gs:bH)=Sv s) (iX s [⟨0,0,false⟩]))::(fo λs:Sl=>cL ((Sv up:bH)=Sv s) (jC s Kt.new))::cO o::L) K:=h1
 obtain⟨x,V,h2⟩:=gQ.open (h1.fr 1 rfl);obtain⟨r,u,y,G,M⟩:=pz.open (h2.fr 2 rfl);obtain⟨p2,q2,z,H,N⟩:=pz.open (M.fr 5 rfl);obtain⟨f',hf,O⟩:=gQ.open (N.fr 8 rfl);obtain⟨n,U,Q⟩:=gQ.open (O.fr 9 rfl);obtain⟨j,I,R⟩:=gQ.open (Q.fr 10 rfl);obtain⟨k,J,S⟩:=gQ.open (R.fr 11 rfl);obtain⟨c,p⟩:=Sep.ex.1 (S.fr 12 rfl);obtain⟨hm,p⟩:=Sep.cL.1 p;obtain⟨W,d⟩:=Sep.ex.1 (p.fr 13 rfl);obtain⟨e,d⟩:=Sep.cL.1 d;obtain⟨X,a⟩:=Sep.ex.1 (d.fr 14 rfl);obtain⟨i,a⟩:=Sep.cL.1 a;have e:=SB e;have i:=SB i;cases V;cases hf;cases U;cases I;cases J;cases hm;simp only[Value.agg.injEq,Array.mk.injEq,List.cons.injEq,Value.pointer.injEq,and_true]at G H;obtain⟨rfl,rfl,rfl⟩:=G;obtain⟨rfl,rfl,rfl⟩:=H;subst e i;refine⟨_,rfl,⟨b,x,r,u,y,p2,q2,z,f',n,j,k,c,gs,up,o⟩,rfl,rfl,?_⟩;have a:Sep E (jC up Kt.new::iX gs [⟨0,0,false⟩]::oc c (λ_=>none)::Tp.c7 k TS.zero::fW j (List.replicate 64 0)::Gp.fA n []::iK f' (g7 l)::gM p2 (gL sl).cb::gx q2 (gL sl).cb.length (gL sl).dj::de z (gL sl).used::
  gM r (gL fr).cb::gx u (gL fr).cb.length (gL fr).dj::de y (gL fr).used::eb x Kt.new::bD b (wP (some ⟨x,0,none⟩) (some ⟨r,0,none⟩) (some ⟨u,0,none⟩) (some ⟨y,0,none⟩) (some ⟨p2,0,none⟩) (some ⟨q2,0,none⟩) (some ⟨z,0,none⟩) (some ⟨f',0,none⟩) (some ⟨n,0,none⟩) (some ⟨j,0,none⟩) (some ⟨k,0,none⟩) (some c) gs up)::cO o::L) K:=a
 exact a.ro 16 [14,13,10,11,12,7,8,9,6,5,4,3,2,1,0,15] rfl
end Go.Mp
namespace Go.Mp
open Go Go.Vc Go.Proofs
variable{K:bj0}{w:bI}
variable(K w)
def SC(bQ cg:Int)(bU l:Sl):=
 cond (decide (bQ>24)) (K aP3 w) (cond (decide (cg>24)) (K aP3 w) (cond (decide (((bU.n:Nat):Int)>40)) (K aP3 w) (K (.bool (decide (((l.n:Nat):Int)>40))) w)))
def wS:=
 zw w λm w2=>qJ tj #[Iv 4,Iv 4,aP8,.slice (some m) 5 5] w2 λc L=>qR p5 #[Iv 4,Iv 4,aP8] L λb i=>qg (λJ=>cond b.isNone (K aP2 i) (cond (((c.n:Nat):Int) !=5) (K aP2 i) (J i))) λe=>cF (some m) 5 0 5 λj=>zL e j λr s t u v=>zx la #[Pv b,.agg #[Iv r,Iv s,Iv t,Iv u,Iv v]] e λx y z n=>zW n λd o=>qU [Iv x,Iv y,Sv z] d o λp=>qJ oB #[Pv b] p λh a=>qW c 2 3 λa29=>qL a a29 0 λA=>cond (A==0) (qW c 3 3 λk=>qL a k 1 λB=>cond (B==7) (qW c 4 3 λa33=>qL a a33 1 λC=>cond (C==0) (qW c 4 3 λa35=>qL a a35 0 λD=>cond (D==0) (qL a d 0 λE=>cond (E==0) (cond (((h.n:Nat):Int)==1) (qW h 0 3 λl=>qy a l 2 λF=>cond F (qR p7 #[Pv b,Iv 0] a λG f=>cond (!G.isNone) (qR p7 #[Pv b,Iv 1] f λH g=>cond H.isNone (qR vx #[Pv b] g λI q=>K (.bool (!I.isNone)) q) (K aP2 g)) (K aP2 f)) (K aP2 a)) (K aP2 a)) (K aP2 a)) (K aP2 a)) (K aP2 a)) (K aP2 a)) (K aP2 a)
variable{K w}
def apt(bQ cg bU l)(h:SC K w bQ cg bU l):=bM (z8 [10,13,17,18,22,23]) #[Iv bQ,Iv cg,Sv bU,Sv l] K w func16 h
def AJ(h:wS K w):=bM (z8 [16,19,20,33,39,46,53,58,62,63,74,79,84] [] [] [(6,[])]) #[] K w func22 h
end Go.Mp
namespace Go.Mp
open Go Go.Vc Go.Sp Go.Proofs Go.Kc
variable{E:Env}{L:cr}{w:bI}{A:At}{S:Cs}
def SD:hG P mc=some (1,1,[.bool false]):=by kernel_rfl
def aFM{s:Sl}{q:Nat}{l:bA Bool}{x:Bool}(hn:s.n=l.length)(hb:l.length<1000000)(h:Sep E (bD q [.bool x]::bw s 1 (en l)::L) w){G:Sl->bi9}(g:∀s' a,s'.n=l.length+1->Sep E (bw s' 1 (en (l++[x]))::L) a->G s' a):
  ∃d:Sl,∃a,Sem.run P (Builtin.append_ #[mc,mc] mc #[Sv s,.slice (some ⟨q,0,none⟩) 1 1]) w=.ok (Sv d) a/\G d a:=by
 have f:=Src.bD (n:=1) (c:=1) h (i:=0) rfl SD rfl (λu hu=>by simp at hu;rw[hu];rfl);have e:en (l++[x])=en l++[.bool x]:=by simp[en]
 refine bw.append h.swap SD rfl f bu (by rw[hn];omega) (λs' a b h1=>?_);refine g s' a (by rw[b,hn]) ?_;rw[e];exact(h1.fr 0 rfl).ro 2 [0] rfl
def aKb(p:Kc.Inv S)(h:Sep E (ch A S++L) w):Calls P KC #[Pb A.c] w
  (cC λv w'=>∃s:Sl,v=Sv s/\s.n=S.guards.length/\Sep E (ch A S++bw s 1 (en (S.guards.map eP.whole))::L) w'):=by
 have n:S.guards.length<=64:=by rw[p.gl];exact p.wf.eI
 apply Y4;unfold No qK qU qW qa qf qx qy;have g:=(iX.open (h.fr 13 rfl)).1;refine⟨_,rfl,A.gs,h.cellAt 0 rfl 12,?_⟩;refine⟨λs i w'=>∃k:Nat,i=k/\k<=S.guards.length/\s.n=k/\Sep E (ch A S++bw s 1 (en ((S.guards.take k).map eP.whole))::L) w',λ_ i _=>(S.guards.length-i).toNat,⟨0,rfl,dX _,rfl,Sep.eK (bw.none_ h)⟩,?_⟩;rintro _ s _ y ⟨k,rfl,hk,l,h1⟩;refine cU (λt=>?_) (λr=>?_)
 ·have a:k<S.guards.length:=by omega
  obtain⟨x,hx⟩:∃x,S.guards[k]?=some x:=⟨_,ea a⟩
  refine jL eP.kv 0 (iX.open (h1.fr 13 rfl)).2 rfl g rfl hx (λb _ d=>⟨x.min,by rw[cj];exact d 0 _ rfl,x.low,by rw[cj];exact d 1 _ rfl,x.whole,by rw[cj];exact d 2 _ rfl,?_⟩);refine Al.i h1 (λu w2 h2=>ey (vs:=eP.vs x) _ h2 rfl (λz f=>ld f 0 rfl rfl rfl (Al.i f.tail (λq o c=>?_))));have c:Sep E (bD q [.bool x.whole]::bw s 1 (en ((S.guards.take k).map eP.whole))::(ch A S++L)) o:=(c.fr 17 rfl).swap;refine aFM (by simp;omega) (by simp;omega) c (λs' B j m=>?_);have e:(S.guards.take (k+1)).map eP.whole=(S.guards.take k).map eP.whole++[x.whole]:=by rw[take_succ hx,lu];rfl
  rw[c4];refine⟨⟨k+1,rfl,a,by rw[j];simp;omega,by rw[e];exact Sep.eK (Q:=ch A S) m⟩,?_⟩;show(((S.guards.length:Nat):Int)-((k+1:Nat):Int)).toNat<(((S.guards.length:Nat):Int)-(k:Int)).toNat;omega
 ·have:k=S.guards.length:=by omega
  subst this;rw[fB]at h1;exact⟨s,rfl,l,h1⟩
end Go.Mp
namespace Go.Kw
def Pr.vs(x:Pr):bA bH:=[Iv x.g,Iv x.size,.bool x.live]
def Pr.kv(x:Pr):x.vs.length=3:=rfl
def F7(v:Int):∀l:bS,kL v l<=l.length
 |[]=>ec _
 |x::r=>by unfold kL;have:=F7 v r;split<;>simp;omega
def SE{v:Int}:∀ {l:bS} {k:Nat},l[k]?=some v->(∀j y,j<k->l[j]?=some y->v≠y)->kL v l=k
 |y::r,0,h,_=>by simp at h;subst h;unfold kL;rw[bK rfl]
 |y::r,k+1,h,a=>by
  unfold kL;rw[bJ (a 0 y bu rfl),SE (l:=r) (k:=k) (by simpa using h) λj z c b=>a (j+1) z bu (by simpa using b)]
def SF{v:Int}:∀ {l:bS},(∀(j:Nat) y,l[j]?=some y->v≠y)->kL v l=l.length
 |[],_=>rfl
 |y::r,h=>by
  unfold kL;rw[bJ (h 0 y rfl),SF (l:=r) λj z a=>h (j+1) z (by simpa using a)];rfl
end Go.Kw
namespace Go.Mp
open Go Go.Vc Go.Sp Go.Proofs Go.Kc Go.Kv Go.Kw Go.Kt
variable{E:Env}{L:cr}{w W:bI}
def SG{s:Sl}{l:bS}(c:Ints E L s l)(hb:l.length<1000000)(v:Int)(h:Sep E L w):Calls P vL #[Sv s,Iv v] w (cZ E (Iv (if kL v l<l.length then(kL v l:Int)else -1)) L):=by
 have hn:=c.1;apply Ek;unfold zr qD qO qW;refine⟨λi w'=>∃k:Nat,i=k/\k<=l.length/\(∀j y,j<k->l[j]?=some y->v≠y)/\Sep E L w',λi _=>(l.length-i).toNat,⟨0,rfl,dX _,λj y d=>absurd d bu,h⟩,?_⟩;rintro _ _ o ⟨k,rfl,hk,a,h1⟩;refine cU (λn=>?_) (λm=>?_)
 ·obtain⟨x,hx⟩:∃x,l[k]?=some x:=⟨_,du⟩
  refine c.el h1 k rfl hx (eC (λhe=>⟨?_,h1⟩) (λg=>⟨⟨k+1,c4,bu,λj y d b=>?_,h1⟩,?_⟩))
  ·subst he;rw[SE hx a,eV]
  ·rcases hE j k with e|e;·exact a j y e b
   ·have:j=k:=by omega
    subst this;rw[hx]at b;cases b;exact g
  ·rw[c4];dsimp only;omega
 ·have f:k=l.length:=by omega
  subst f;refine⟨?_,h1⟩;rw[SF λj y b=>a j y (c2.1 b).1 b,cK]
def F8{s:Sl}{l:bS}(a:Ints E L s l)(hb:l.length<1000000)(v:Int)(h:Sep E L w):Calls P qe #[Sv s,Iv v] w (cZ E (.bool (l.contains v)) L):=by
 apply Ef;unfold zp qQ;refine use (SG a hb v h) ?_;rintro _ d ⟨rfl,h1⟩;refine⟨_,rfl,?_,h1⟩;have hle:=F7 v l;have key:∀l:bS,(kL v l<l.length)↔v∈l:=by
  intro l;induction l with
  |nil=>simp[kL]
  |cons x r c=>
   unfold kL;by_cases e:v=x;·simp[e]
   ·simp[e,c]
 by_cases hm:v∈l
 ·rw[bK ((key l).2 hm),lq.2 hm];exact eO Value.bool (dK bu)
 ·rw[bJ λe=>hm ((key l).1 e)];have:l.contains v=false:=by cases b:l.contains v with|false=>rfl|true=>exact absurd (lq.1 b) hm
  rw[this];rfl
def fy(s:Sl)(l:bA Pr):Asn:=bw s 3 (bO Pr.vs l)
def wT{s:Sl}{l:bA Pr}{i:Int}{k:Nat}{x:Pr}{F:Addr->Int->Int->Bool->Prop}(q:Nat)(h:Sep E L w)(j:L[q]?=some (fy s l))(hn:s.n=l.length)(g:i=k)(hx:l[k]?=some x)(m:∀a,F a x.g x.size x.live):
  cF s.p s.n i 3 λa=>∃d:Int,w.cell? (a.add 0)=some (Iv d)/\∃e:Int,w.cell? (a.add 1)=some (Iv e)/\∃f:Bool,w.cell? (a.add 2)=some (.bool f)/\F a d e f:=
 jL Pr.kv q h j hn g hx (λb _ c=>⟨_,by rw[cj];exact c 0 _ rfl,_,by rw[cj];exact c 1 _ rfl,_,by rw[cj];exact c 2 _ rfl,m _⟩)
def aLk{s i:Sl}{l:bA Pr}{ins:bS}{q:Nat}(F:L[q]?=some (fy s l))(hn:s.n=l.length)(hb:l.length<1000000)(C:Ints E L i ins)(t:ins.length<1000000)(h:Sep E L w):
  Calls P KK #[Sv s,Sv i] w (cZ E (Iv (pick l ins)) L):=by
 apply ay5;unfold Pj qC qF qI qL qU qW qa zz;refine Al.i h (λd N h1=>Al.i h1 (λf w2 h2=>St.i h2 (by show 0<1;decide) (λG o=>?_)));have o:Sep E (bD f [Iv 0]::bD d [Sv i]::L) G:=o;refine⟨λa x w'=>∃(k:Nat) (m:Int),x=k/\k<=l.length/\nb ins k (a,m) (l.drop k)=nb ins 0 (-1,0) l/\Sep E (bD f [Iv m]::bD d [Sv i]::L) w',λ_ x _=>(l.length-x).toNat,⟨0,0,rfl,dX _,rfl,o⟩,?_⟩;rintro _ a _ O ⟨k,m,rfl,hk,he,p⟩;refine cU (λM=>?_) (λJ=>?_)
 ·obtain⟨x,hx⟩:∃x,l[k]?=some x:=⟨_,du⟩
  have D:l.drop k=x::l.drop (k+1):=by
   have n:=(c2.1 hx).1;rw[kZ n];rw[ea n]at hx;rw[cV hx]
  rw[D]at he;simp only[nb]at he;refine wT (q+2) p F hn rfl hx (λ_=>Al.i p (λr Q A=>ey _ A rfl (λH c=>?_)));have c:Sep E (bD r x.vs::bD f [Iv m]::bD d [Sv i]::L) H:=c;refine ld c 0 rfl rfl rfl (ld c 0 rfl rfl rfl (ld c 0 rfl rfl rfl (use (K:=λv w'=>v=.bool (decide (x.live=true/\m<x.size/\ins.contains x.g=true))/\Sep E (bD r x.vs::bD f [Iv m]::bD d [Sv i]::L) w') ?_ ?_)))
  ·apply awD;unfold Pt qD qF qL qc qy;refine Al.i c (λz y b=>?_);have b:Sep E (bD z x.vs::bD r x.vs::bD f [Iv m]::bD d [Sv i]::L) y:=b;refine ld b 0 rfl rfl rfl (cy (λhl=>ld b 0 rfl rfl rfl (ld b 2 rfl rfl rfl (gv (λu=>⟨i,b.cellAt 3 rfl 0,ld b 0 rfl rfl rfl (use (F8 C.cons.cons.cons.cons t x.g b) ?_)⟩) (λu=>⟨?_,b.tail⟩)))) (λhl=>⟨?_,b.tail⟩))
   ·rintro _ I ⟨rfl,g⟩;refine⟨_,rfl,?_,g.tail⟩;congr 1;cases j:ins.contains x.g with
    |true=>rw[dK ⟨hl,u,rfl⟩]
    |false=>rw[dq λe=>by cases e.2.2]
   ·rw[dq λe=>bu]
   ·rw[dq λe=>by rw[hl]at e;cases e.1]
  ·rintro _ y ⟨rfl,b⟩;refine⟨_,rfl,cy (λj=>Dr.i b (λI g=>ld g 0 rfl rfl rfl ?_)) (λj=>⟨⟨k+1,m,c4,bu,?_,b.tail⟩,?_⟩)⟩
   ·refine St.i (g.ro 3 [1,0,2] rfl) (by show 0<1;decide) (λR B=>⟨⟨k+1,x.size,c4,bu,?_,B.ro 3 [0,2] rfl⟩,?_⟩);·rw[bK (kA j)]at he;exact he
    ·rw[c4];dsimp only;omega
   ·rw[bJ (kj j)]at he;exact he
   ·rw[c4];dsimp only;omega
 ·have:k=l.length:=by omega
  subst this;rw[xC]at he;refine⟨?_,p.tail.tail⟩;unfold pick;rw[<- he];rfl
def aIn{s wl:Sl}{a:bS}{wh:bA Bool}{q:Nat}(o:Ints E L s a)(hb:a.length<1000000)(z:L[q]?=some (bw wl 1 (en wh)))(hn:wl.n=wh.length)(t:Int)(h:Sep E L w):
  Calls P KL #[Sv s,Iv t,Sv wl] w (cZ E (Iv (whole a t wh)) L):=by
 apply axX;unfold Pq qD qF qO qQ qW;refine Al.i h (λp C h1=>use (SG o.cons hb t h1) ?_);rintro _ w2 ⟨rfl,h2⟩;refine⟨_,rfl,λx w'=>∃k:Nat,x=(k:Int)-1/\k<=a.length/\x7 a wh k=whole a t wh/\Sep E (bD p [Sv wl]::L) w',λx _=>(x+1).toNat,?_,?_⟩
 ·have hle:=F7 t a;by_cases i:kL t a<a.length;·exact⟨kL t a+1,by rw[bK i];omega,bu,by unfold whole;rw[bK i],h2⟩
  ·exact⟨0,by rw[bJ i];rfl,bu,by unfold whole;rw[bJ i];rfl,h2⟩
 rintro _ _ D ⟨k,rfl,hk,he,d⟩;refine hq (λA=>?_) (λB=>?_)
 ·obtain⟨j,rfl⟩:∃j,k=j+1:=⟨k-1,bu⟩
  have y:((j+1:Nat):Int)-1=(j:Int):=by omega
  rw[y];obtain⟨g,r⟩:∃g,a[j]?=some g:=⟨_,du⟩
  have u:a.getD j 0=g:=by rw[dC,r];rfl
  simp only[x7,u]at he;refine o.cons.el d j rfl r (use (K:=λv w'=>v=.bool (decide (0<=g/\wh.getD g.toNat false=true))/\Sep E (bD p [Sv wl]::L) w') ?_ ?_)
  ·apply ava;unfold Pu qW qc qm;refine ij (λm=>⟨wl,d.cell 0,cU (λh1=>⟨wl,d.cell 0,?_⟩) (λh1=>⟨?_,d⟩)⟩) (λm=>⟨?_,d⟩)
   ·obtain⟨b,l⟩:∃b,wh[g.toNat]?=some b:=⟨_,du⟩
    refine bw.el (q+1) d z m h1 (λc _ f=>⟨b,?_,?_,d⟩)
    ·have:=f 0 bu;rw[l2]at this;rw[this,fY];simp[en,l]
    ·rw[dC,l];cases b with
     |true=>rw[dK ⟨m,rfl⟩]
     |false=>rw[dq λe=>by cases e.2]
   ·rw[dq λe=>by
     have:=e.2;rw[dC,gI bu]at this;cases this]
   ·rw[dq λe=>bu]
  ·rintro _ F ⟨rfl,n⟩;refine⟨_,rfl,cy (λf=>o.cons.el n j rfl r ⟨?_,n.tail⟩) (λf=>⟨⟨j,?_,bu,?_,n⟩,?_⟩)⟩;·rw[bK (kA f)]at he;rw[he]
   ·exact cX bu bu
   ·rw[bJ (kj f)]at he;exact he
   ·rw[cX bu bu];dsimp only;omega
 ·have:k=0:=by omega
  subst this;exact⟨by rw[<- he];rfl,d.tail⟩
end Go.Mp
namespace Go.Kw
def F9:∀ {l:bA Pr} {ins:bS} {i a m:Int},(nb ins i (a,m) l).1=a\/(i<=(nb ins i (a,m) l).1/\(nb ins i (a,m) l).1<i+l.length)
 |[],_,_,_,_=>.inl rfl
 |p::r,ins,i,a,m=>by
  unfold nb;split
  ·rcases F9 (l:=r) (ins:=ins) (i:=i+1) (a:=i) (m:=p.size)with h|h;·right;simp only[hN];omega
   ·right;simp only[hN];omega
  ·rcases F9 (l:=r) (ins:=ins) (i:=i+1) (a:=a) (m:=m)with h|h;·exact .inl h
   ·right;simp only[hN];omega
def aKM{l:bA Pr}{ins:bS}(h:0<=pick l ins):pick l ins<l.length:=by
 unfold pick at h ⊢;rcases F9 (l:=l) (ins:=ins) (i:=0) (a:= -1) (m:=0)with e|e<;>omega
def SH(ins:bS):∀(l r:bA Pr) (i:Int),iy ins i (l++r)=iy ins i l++iy ins (i+l.length) r
 |[],r,i=>by simp[iy]
 |p::l,r,i=>by
  have:=SH ins l r (i+1);rw[pK,iy,iy,this];have e:i+1+(l.length:Int)=i+((p::l).length:Int):=by simp only[hN];omega
  rw[e];split<;>simp
def wU(ins:bS):∀(l:bA Pr) (i:Int),(iy ins i l).length<=l.length
 |[],_=>ec _
 |p::l,i=>by
  have:=wU ins l (i+1);unfold iy;split<;>simp<;>omega
end Go.Kw
namespace Go.Mp
open Go Go.Vc Go.Sp Go.Proofs Go.Kc Go.Kv Go.Kw Go.Kt
variable{E:Env}{L:cr}{w W:bI}
def aIg{b:Nat}{T:bA G}{s wl:Sl}{l:bA Pr}{wh:bA Bool}{q q2:Nat}{t:Int}(hw:WF T)(J:L[q]?=some (fy s l))(hn:s.n=l.length)(hb:l.length<1000000)(Y:L[q2]?=some (bw wl 1 (en wh)))(W:wl.n=wh.length)(h:Sep E (eb b T::L) w):
  Calls P KB #[Pb b,Sv s,Iv t,Sv wl] w (cC λv w'=>∃o:Sl,v=Sv o/\o.n=(l7 T l t wh).length/\Sep E (bw o 1 (bC (l7 T l t wh))::eb b T::L) w'):=by
 have D:∀g,(iu T g).length<1000000:=λg=>by
  have h1:=AG hw g;omega
 have R:∀g,(dx T g).length<1000000:=λg=>by have:=qS hw g;omega
 apply awC;unfold Pf qC qF qJ qL qQ qU qW qa qf qh qy zz;refine use (wg hw h) ?_;rintro _ an ⟨i1,rfl,V,h1⟩;refine⟨i1,rfl,use (aLk (q:=q+2) (s:=s) (i:=i1) (l:=l) J hn hb (Ints.row V) (D t) h1) ?_⟩;rintro _ w2 ⟨rfl,h2⟩;obtain⟨v,K⟩:∃v,pick l (iu T t)=v:=⟨_,rfl⟩
 have d:l7 T l t wh=if v<0 then[]else let w:=whole (dx T (l.getD v.toNat ⟨0,0,false⟩).g) t wh;if w<0 then[v]else iy (iu T w) 0 l:=by unfold l7;rw[K]
 rw[K];refine⟨_,rfl,cU (λj=>⟨⟨none,0,0⟩,rfl,?_⟩) (λS=>?_)⟩
 ·rw[d,bK j];exact⟨rfl,bw.none_ h2.tail⟩
 rw[cK]at d;have ak:v<l.length:=by rw[<- K];exact aKM bu
 obtain⟨x,hx⟩:∃x,l[v.toNat]?=some x:=⟨_,du⟩
 have ae:(l.getD v.toNat ⟨0,0,false⟩).g=x.g:=by rw[dC,hx];rfl
 rw[ae]at d;refine jL Pr.kv (q+2) h2 J hn (show v=((v.toNat:Nat):Int) by omega) hx (λc _ f=>⟨x.g,by rw[cj];exact f 0 _ rfl,use (tQ hw h2.tail) ?_⟩);rintro _ ao ⟨H,rfl,Q,aa⟩;refine⟨H,rfl,use (aIn (L:=bw H 1 (bC (dx T x.g))::eb b T::L) (q:=q2+2) (s:=H) (wl:=wl) (wh:=wh) (Ints.row Q) (R _) Y W t aa) ?_⟩;rintro _ ap ⟨rfl,O⟩;obtain⟨g,U⟩:∃g,whole (dx T x.g) t wh=g:=⟨_,rfl⟩
 rw[U]at d ⊢;dsimp only at d;refine⟨_,rfl,cU (λj=>Al.i O (λp ag n=>⟨⟨some ⟨p,0,none⟩,1,1⟩,rfl,?_⟩)) (λaf=>use (wg hw O.tail) ?_)⟩
 ·rw[d,bK j];exact⟨rfl,bw.make (vs:=bC [v]) (spare:=[]) (n.fr 0 rfl |>.ro 2 [0] rfl) rfl rfl (ec 1)⟩
 rintro _ ag ⟨i2,rfl,F,n⟩;rw[cK]at d;obtain⟨ins,I⟩:∃ins,iu T g=ins:=⟨_,rfl⟩
 have C:=D g;rw[I]at F n d C;rw[d];refine⟨i2,rfl,λo y w'=>∃k:Nat,y=k/\k<=l.length/\o.n=(iy ins 0 (l.take k)).length/\Sep E (bw o 1 (bC (iy ins 0 (l.take k)))::bw i2 1 (bC ins)::eb b T::L) w',λ_ y _=>(l.length-y).toNat,⟨0,rfl,dX _,rfl,bw.none_ n⟩,?_⟩;rintro _ o _ aq ⟨k,rfl,hk,ho,A⟩;refine cU (λj=>?_) (λS=>?_)
 ·obtain⟨z,Z⟩:∃z,l[k]?=some z:=⟨_,du⟩
  have aj:(iy ins 0 (l.take k)).length<=k:=by have:=wU ins (l.take k) 0;rw[gT]at this;omega
  have a:iy ins 0 (l.take (k+1))=iy ins 0 (l.take k)++(if z.live=true/\ins.contains z.g=true then[(k:Int)]else[]):=by
   rw[take_succ Z,SH,gT,show min k l.length=k by omega,Bn];congr 1
  refine wT (q+3) A J hn rfl Z (λ_=>Al.i A (λr ar ab=>ey _ ab rfl (λah m=>?_)));have m:Sep E (bD r z.vs::bw o 1 (bC (iy ins 0 (l.take k)))::bw i2 1 (bC ins)::eb b T::L) ah:=m;have ad:Ints E (bD r z.vs::bw o 1 (bC (iy ins 0 (l.take k)))::bw i2 1 (bC ins)::eb b T::L) i2 ins:=(Ints.row F).cons.cons;refine⟨λc w'=>c=decide (z.live=true/\ins.contains z.g=true)/\Sep E (bw o 1 (bC (iy ins 0 (l.take k)))::bw i2 1 (bC ins)::eb b T::L) w',ld m 0 rfl rfl rfl (cy (λhl=>ld m 0 rfl rfl rfl (use (F8 ad C z.g m) ?_)) (λhl=>⟨?_,m.tail⟩)),?_⟩
  ·rintro _ ai ⟨rfl,B⟩;refine⟨_,rfl,?_,B.tail⟩;cases f:ins.contains z.g with
   |true=>rw[dK ⟨hl,rfl⟩]
   |false=>rw[dq λe=>by cases e.2]
  ·rw[dq λe=>by rw[hl]at e;cases e.1]
  ·rintro _ c ai ⟨rfl,B⟩;refine cy (λf=>Al.i B (λu al M=>r4 ho bu M (λo' am X N=>⟨⟨k+1,c4,bu,?_,?_⟩,?_⟩))) (λf=>⟨⟨k+1,c4,bu,?_,?_⟩,?_⟩);·rw[a,bK (kA f)];exact X
   ·rw[a,bK (kA f)];exact N
   ·rw[c4];dsimp only;omega
   ·rw[a,bJ (kj f),g3];exact ho
   ·rw[a,bJ (kj f),g3];exact B
   ·rw[c4];dsimp only;omega
 ·have:k=l.length:=by omega
  subst this;rw[fB]at ho A;exact⟨o,rfl,ho,A.ro 3 [0,2] rfl⟩
end Go.Mp
namespace Go.Kc
open Go Go.Kt
variable{S T:Cs}
def grow(x:Act):Nat:=if x.k.tmod 12=3\/x.k.tmod 12=4\/x.k.tmod 12=6 then 1 else 0
def SI(h:Inv S)(x:Act)(hx:grow x=0):(S.act x).1.bt.next=S.bt.next:=by
 have a:¬ (x.k.tmod 12=3\/x.k.tmod 12=4\/x.k.tmod 12=6):=λe=>by unfold grow at hx;rw[bK e]at hx;cases hx
 refine yh (P:=λr=>r.1.bt.next=S.bt.next) S x (λ_=>?_) (λ_=>?_) (λ_=>?_) (λe=>absurd (.inl e) a) (λe=>absurd (.inr (.inl e)) a) (λ_=>yi h.toInv0 h.anon _ _) (λe=>absurd (.inr (.inr e)) a) (λ_=>?_) (λ_=>?_) (λ_=>?_) (λ_=>rfl) (λ_=>((Cp h _ _).kept h).next);·unfold Cs.ct;dsimp only;split<;>rfl
 ·unfold Cs.remove;dsimp only;split;·exact(rU _ _ _).1
  ·rfl
 ·unfold Cs.cJ Cs.iV;repeat' split
  all_goals rfl
 ·unfold Cs.put;dsimp only;split;·rfl
  ·split;·exact(rS _ _ _).1
   ·rfl
 ·unfold Cs.get;dsimp only;split;·rfl
  ·dsimp only;split<;>rfl
 ·rcases oz h x.b x.c with⟨_,he⟩|⟨p,hp,⟨_,he⟩|⟨_,_,he⟩|⟨_,_,_,_,he,_⟩⟩
  ·rw[he]
  ·rw[he]
  ·rw[he];rfl
  ·exact he
inductive cw:Nat->Cs->Cs->Prop
 |nil (n:Nat) (S:Cs):cw n S S
 |act {n:Nat} {S T:Cs} (x:Act):cw n S T->cw (n+grow x) S (T.act x).1
def cw.up{n m:Nat}(h:cw n S T)(k:n<=m):cw m S T:=by
 induction h generalizing m with
 |nil=>exact .nil m _
 |act x h a=>
  obtain⟨j,rfl⟩:∃j,m=j+grow x:=⟨m-grow x,bu⟩
  exact .act x (a bu)
def cw.trans{n m:Nat}{U:Cs}(h:cw n S T)(k:cw m T U):cw (n+m) S U:=by
 induction k with
 |nil m=>exact h.up (Nat.le_add_right _ _)
 |act x k a=>rw[<- uR];exact .act x (a h)
def cw.inv{n:Nat}(h:cw n S T)(g:Inv S)(hn:S.bt.next+n<=16777216):Inv T/\S.bt.next<=T.bt.next/\T.bt.next<=S.bt.next+n:=by
 induction h with
 |nil n=>exact⟨g,hh _,bu⟩
 | @act n S T x h f=>
  obtain⟨h1,h2,i⟩:=f g bu;by_cases hx:grow x=0
  ·rw[hx];refine⟨?_,by rw[SI h1 x hx];omega,by rw[SI h1 x hx];omega⟩;by_cases d:T.bt.next<16777216;·exact h1.act d x
   ·have b:¬ (x.k.tmod 12=3\/x.k.tmod 12=4\/x.k.tmod 12=6):=λe=>by unfold grow at hx;rw[bK e]at hx;cases hx
    exact yh (P:=λr=>Inv r.1) T x (λ_=>h1.ct _) (λ_=>h1.remove _) (λ_=>h1.cJ _ _ _) (λe=>absurd (.inl e) b) (λe=>absurd (.inr (.inl e)) b) (λ_=>h1.bY _ _) (λe=>absurd (.inr (.inr e)) b) (λ_=>h1.put _ _ _) (λ_=>h1.get _ _) (λ_=>h1.bP _ _) (λ_=>h1.dD _) (λ_=>h1.shrink _ _)
  ·have c:grow x=1:=by unfold grow at hx ⊢;split at hx<;>first|omega|simp_all
   rw[c]at hn ⊢;have a:T.bt.next<16777216:=by omega
   have:=fc h1 a x;exact⟨h1.act a x,bu,bu⟩
def cw.one(x:Act):cw (grow x) S (S.act x).1:=by
 have:=cw.act x (cw.nil 0 S);rwa[fz]at this
def cw.fresh(g:Int):cw 1 S (S.fresh g).1:=cw.one ⟨3,g,0,0,0,0⟩
def cw.cH(k:Int×Int)(g:Int):cw 1 S (S.cH k g).1:=cw.one ⟨4,g,0,0,k.1,k.2⟩
def cw.bY(id g:Int):cw 0 S (S.bY id g).1:=cw.one ⟨5,g,id,0,0,0⟩
def cw.copy(id g:Int):cw 1 S (S.copy id g).1:=cw.one ⟨6,g,id,0,0,0⟩
def cw.get(id a:Int):cw 0 S (S.get id a).1:=cw.one ⟨8,a,id,0,0,0⟩
def cw.bP(id n:Int):cw 0 S (S.bP id n).1:=cw.one ⟨9,0,id,n,0,0⟩
def cw.dD(t:Int):cw 0 S (S.dD t).1:=cw.one ⟨10,t,0,0,0,0⟩
def cw.shrink(t n:Int):cw 0 S (S.shrink t n).1:=cw.one ⟨11,t,0,n,0,0⟩
def cw.ct(p:Int):cw 0 S (S.ct p).1:=cw.one ⟨0,p,0,0,0,0⟩
def cw.remove(g:Int):cw 0 S (S.remove g).1:=cw.one ⟨1,g,0,0,0,0⟩
def cw.cJ(g a n:Int):cw 0 S (S.cJ g a n).1:=cw.one ⟨2,g,a,n,0,0⟩
def cw.put(id a:Int)(b:UInt8):cw 0 S (S.put id a b).1:=by
 have h:=cw.one (S:=S) ⟨7,a,id,(b.toNat:Int),0,0⟩;have e:(S.act ⟨7,a,id,(b.toNat:Int),0,0⟩).1=(S.put id a (mI (b.toNat:Int))).1:=rfl;have c:mI (b.toNat:Int)=b:=by
  unfold mI;have:=b.toNat_lt;rw[show((b.toNat:Int)%256).toNat=b.toNat by omega];exact UInt8.ofNat_toNat
 rw[e,c]at h;exact h
end Go.Kc
namespace Go.Kw
open Go Go.Kc Go.Kt
abbrev PP:=Int×bX Sp
def jl(l:bA PP):Nat:=l.countP λp=>p.2.isSome
structure Vok(V:Vs):Prop where
 inv:Inv V.core
 sp:∀(i:Nat) g s,V.procs[i]?=some (g,some s)->fR s
 eI:V.procs.length<=64
structure gC(V V':Vs):Prop where
 len:V'.procs.length=V.procs.length
 at_:∀i:Nat,V'.procs[i]?=V.procs[i]? \/∃g s,V.procs[i]?=some (g,some s)/\V'.procs[i]?=some (g,none)
def gC.refl(V:Vs):gC V V:=⟨rfl,λ_=>.inl rfl⟩
def gC.trans{U V W:Vs}(h:gC U V)(k:gC V W):gC U W:=by
 refine⟨k.len.trans h.len,λi=>?_⟩;rcases k.at_ i with e|⟨g,s,a,b⟩
 ·rw[e];exact h.at_ i
 ·rcases h.at_ i with f|⟨c,s',f1,f2⟩
  ·exact .inr ⟨g,s,f▸a,b⟩
  ·rw[f2]at a;cases a
def gC.core{V:Vs}(S:Cs):gC V {V with core:=S} :=⟨rfl,λ_=>.inl rfl⟩
def il{V:Vs}{pid:Int}{s:Sp}(h:V.space pid=some s):0<=pid/\V.procs[pid.toNat]?=some (V.group pid,some s):=by
 unfold Vs.space at h;split at h
 ·next a=>
  refine⟨a,?_⟩;cases hp:V.procs[pid.toNat]? with
  |none=>rw[hp]at h;cases h
  |some p=>
   rw[hp]at h;have h:p.2=some s:=h;unfold Vs.group;rw[dC,hp,<- h];rfl
 ·cases h
def iY{V:Vs}{i:Nat}{g:Int}{s:bX Sp}(h:V.procs[i]?=some (g,s)):V.space (i:Int)=s/\V.group (i:Int)=g:=by
 unfold Vs.space Vs.group;rw[eV,dt,h,dC,h];exact⟨rfl,rfl⟩
def wV:∀(ids:bS) (S:Cs),cw 0 S (ep ids S)
 |[],S=>.nil 0 S
 |x::r,S=>by
  have h:=(cw.bP (S:=S) x (-1)).trans (wV r (S.bP x (-1)).1);exact h
def SJ:∀(ids:bS) (S:Cs),cw 0 S (dN ids S)
 |[],S=>.nil 0 S
 |x::r,S=>by
  have h:=(cw.bP (S:=S) x 1).trans (SJ r (S.bP x 1).1);exact h
def wW{V:Vs}{pid:Int}{s:Sp}(h:V.space pid=some s):V.exit pid=⟨ep (s.ids 0 65536) V.core,V.procs.set pid.toNat (V.group pid,none)⟩:=by
 unfold Vs.exit;rw[h];rfl
def Ga{V:Vs}{pid:Int}(h:V.space pid=none):V.exit pid=V:=by unfold Vs.exit;rw[h]
def SK(V:Vs)(pid:Int):cw 0 V.core (V.exit pid).core/\gC V (V.exit pid)/\jl (V.exit pid).procs<=jl V.procs/\((V.space pid).isSome->jl (V.exit pid).procs<jl V.procs)/\∀i:Nat,(i:Int)≠pid->(V.exit pid).procs[i]?=V.procs[i]? :=by
 cases h:V.space pid with
 |none=>rw[Ga h];exact⟨.nil 0 _,gC.refl V,ec _,(λe=>by cases e),λ_ _=>rfl⟩
 |some s=>
  rw[wW h];obtain⟨d,hp⟩:=il h;have a:=(c2.1 hp).1;have b:V.procs[pid.toNat]=(V.group pid,some s):=by rw[ea a]at hp;exact cV hp
  have c:jl (V.procs.set pid.toNat (V.group pid,none))<jl V.procs:=by
   unfold jl;rw[List.countP_set a,b];have:0<V.procs.countP (λp=>p.2.isSome):=List.countP_pos_iff.2 ⟨_,eG hp,rfl⟩;exact Nat.sub_lt this Nat.one_pos
  refine⟨wV _ _,⟨by simp,λi=>?_⟩,by dsimp only;omega,λ_=>c,λi f=>?_⟩
  ·show(V.procs.set pid.toNat (V.group pid,none))[i]?=_\/_;by_cases e:pid.toNat=i
   ·subst e;refine .inr ⟨_,_,hp,?_⟩;show(V.procs.set pid.toNat (V.group pid,none))[pid.toNat]?=_;rw[jm a]
   ·exact .inl (iM e)
  ·exact iM bu
def sk:∀(l:bS) (V:Vs),cw 0 V.core (V.dg l).core/\gC V (V.dg l)/\jl (V.dg l).procs<=jl V.procs/\∀i:Nat,(i:Int)∉l->(V.dg l).procs[i]?=V.procs[i]?
 |[],V=>⟨.nil 0 _,gC.refl V,ec _,λ_ _=>rfl⟩
 |x::r,V=>by
  obtain⟨b,c,a3,_,a5⟩:=SK V x;obtain⟨b1,b2,b3,b4⟩:=sk r (V.exit x);refine⟨b.trans b1,c.trans b2,lv b3 a3,λi a=>?_⟩;rw[eH,pP]at a;exact(b4 i a.2).trans (a5 i a.1)
def SL{x:Int}{r:bS}{V:Vs}(h:(V.space x).isSome=true):jl (V.dg (x::r)).procs<jl V.procs:=
 Bc (sk r (V.exit x)).2.2.1 ((SK V x).2.2.2.1 h)
def Gb:∀ {l:bA Pr} {ins:bS} {i a m:Int},(nb ins i (a,m) l).1=a\/∃(j:Nat) (p:Pr),(nb ins i (a,m) l).1=i+j/\l[j]?=some p/\p.live=true
 |[],_,_,_,_=>.inl rfl
 |p::r,ins,i,a,m=>by
  unfold nb;split
  ·next c=>
   rcases Gb (l:=r) (ins:=ins) (i:=i+1) (a:=i) (m:=p.size)with h|⟨j,q,h1,h2,b⟩
   ·exact .inr ⟨0,p,bu,rfl,c.1⟩
   ·exact .inr ⟨j+1,q,bu,by simpa using h2,b⟩
  ·rcases Gb (l:=r) (ins:=ins) (i:=i+1) (a:=a) (m:=m)with h|⟨j,q,h1,h2,b⟩
   ·exact .inl h
   ·exact .inr ⟨j+1,q,bu,by simpa using h2,b⟩
def Gc{ins:bS}:∀ {l:bA Pr} {i x:Int},x∈iy ins i l->∃(j:Nat) (p:Pr),x=i+j/\l[j]?=some p/\p.live=true
 |p::r,i,x,h=>by
  unfold iy at h;split at h
  ·next b=>
   rcases eH.1 h with rfl|h;·exact⟨0,p,bu,rfl,b.1⟩
   ·obtain⟨j,q,h1,h2,a⟩:=Gc h;exact⟨j+1,q,bu,by simpa using h2,a⟩
  ·obtain⟨j,q,h1,h2,a⟩:=Gc h;exact⟨j+1,q,bu,by simpa using h2,a⟩
def SM{V:Vs}{j:Nat}{p:Pr}(h:V.pr[j]?=some p)(hl:p.live=true):∃s,V.space (j:Int)=some s:=by
 unfold Vs.pr at h;rw[ez]at h;cases hp:V.procs[j]? with
 |none=>rw[hp]at h;cases h
 |some q=>
  obtain⟨g,o⟩:=q;rw[hp]at h;cases o with
  |none=>cases h;cases hl
  |some s=>exact⟨s,(iY hp).1⟩
def Gd{V:Vs}{T:bA G}{t x:Int}{wh:bA Bool}(h:x∈l7 T V.pr t wh):∃s,V.space x=some s:=by
 unfold l7 at h;dsimp only at h;split at h;·cases h
 ·next c=>
  split at h
  ·rw[h9]at h;subst h;unfold pick at c ⊢;rcases Gb (l:=V.pr) (ins:=iu T t) (i:=0) (a:= -1) (m:=0)with e|⟨j,p,e,h2,b⟩
   ·omega
   ·rw[e,Bn];exact SM h2 b
  ·obtain⟨j,p,e,h2,b⟩:=Gc h;rw[e,Bn];exact SM h2 b
def dead(V:Vs)(t:Int):bS:=l7 V.core.tree V.pr t (nc V.core)
def nq(f:Cs->Int->Cs×Int×Int×Int)(pid:Int)(n:Nat)(V:Vs)(o:cG):fH f pid (n+1) V o=
    (let r:=f V.core (V.group pid)
     let V1:Vs:={V with core:=r.1}
     if r.2.2.2=0 then(V1,o,some r.2.1)else if r.2.2.2≠12 then(V1, {o with err:=r.2.2.2},none)else
     let d:=dead V1 r.2.2.1;let a:=V1.dg d;let b:cG:={o with bE:=o.bE++d}
     if d= []then(a, {b with err:=12},none)else if pid∈d then(a, {b with err:=13},none)else fH f pid n a b):=rfl
def wX{f:Cs->Int->Cs×Int×Int×Int}{pid:Int}(hf:∀S g,cw 1 S (f S g).1):∀(n:Nat) (V:Vs) (o:cG),cw n V.core (fH f pid n V o).1.core/\gC V (fH f pid n V o).1/\((fH f pid n V o).2.2.isSome=true->(fH f pid n V o).1.procs[pid.toNat]?=V.procs[pid.toNat]? \/pid<0)
 |0,V,o=>⟨.nil 0 _,gC.refl V,λh=>by cases h⟩
 |n+1,V,o=>by
  rw[nq];dsimp only;have h1:=hf V.core (V.group pid);have a:cw (n+1) V.core (f V.core (V.group pid)).1:=h1.up bu;generalize f V.core (V.group pid)=r at h1 a;split;·exact⟨a,gC.core _,λ_=>.inl rfl⟩
  split;·exact⟨a,gC.core _,λh=>by cases h⟩
  generalize dead {V with core:=r.1} r.2.2.1=d;obtain⟨b1,b2,b3,b4⟩:=sk d {V with core:=r.1};have h2:cw (n+1) V.core (Vs.dg {V with core:=r.1} d).core:=(h1.trans b1).up bu;have b:gC V (Vs.dg {V with core:=r.1} d):=(gC.core _).trans b2;split;·exact⟨h2,b,λh=>by cases h⟩
  split;·exact⟨h2,b,λh=>by cases h⟩
  next eu=>
  obtain⟨c,i,j⟩:=wX hf n (Vs.dg {V with core:=r.1} d) {o with bE:=o.bE++d};refine⟨((h1.trans b1).trans c).up bu,b.trans i,λh=>?_⟩;rcases j h with e|e
  ·by_cases k:pid<0;·exact .inr k
   ·refine .inl (e.trans (b4 pid.toNat ?_));rw[show((pid.toNat:Nat):Int)=pid by omega];exact eu
  ·exact .inr e
end Go.Kw
namespace Go.Mp
open Go Go.Vc Go.Sp Go.Proofs Go.Kc
variable{E:Env}{L:cr}{w:bI}{A:At}{S:Cs}
def sm{W:bI}{q:Nat}{a:Addr}{v:bH}(h:Sep E L w)(b:L[q]?=some (cO W.heap))(c:W.cell? a=some v):w.cell? a=some v:=
 (cO.open (h.fr q b)).2.pf (i:=0) rfl c
end Go.Mp
namespace Go.Mp
open Go Go.Vc Go.Sp Go.Proofs Go.Kc Go.Kw Go.Kt
variable{E:Env}{L:cr}{w W:bI}{A:At}{S:Cs}{v:Nat}{r:Sl}
abbrev PS:=bA (Int×bX (Nat×Kw.Sp))
def gy(p:Int×bX (Nat×Kw.Sp)):bA bH:=[Iv p.1,.pointer (p.2.map λq=>⟨q.1,0,none⟩)]
def sn(p:Int×bX (Nat×Kw.Sp)):(gy p).length=2:=rfl
def gR(p:Int×bX (Nat×Kw.Sp)):Asn:=match p.2 with|some q=>ei q.1 q.2|none=>emp
def plain(ps:PS):bA PP:=ps.map λp=>(p.1,p.2.map Prod.snd)
def Vm(A:At)(v:Nat)(r:Sl)(S:Cs)(ps:PS)(L:cr):cr:=
 ch A S++(bD v [Pb A.c,Sv r]::bw r 2 (bO gy ps)::(ps.map gR++L))
variable{ps:PS}
def SN(A:At)(v:Nat)(r:Sl)(S:Cs)(B:Asn):cr:=ch A S++[bD v [Pb A.c,Sv r],B]
def oI(B:Asn):(SN A v r S B).length=18:=rfl
def q8(B:Asn)(M:cr):ch A S++(bD v [Pb A.c,Sv r]::B::M)=SN A v r S B++M:=rfl
def iZ{i:Nat}{p:Int×bX (Nat×Kw.Sp)}(h:ps[i]?=some p):(plain ps)[i]?=some (p.1,p.2.map Prod.snd):=by unfold plain;rw[ez,h];rfl
def kx(ps:PS):(plain ps).length=ps.length:=dY _
def SO{i:Nat}{g:Int}{s:Kw.Sp}(h:(plain ps)[i]?=some (g,some s)):∃a,ps[i]?=some (g,some (a,s)):=by
 unfold plain at h;rw[ez]at h;cases hp:ps[i]? with
 |none=>rw[hp]at h;cases h
 |some p=>
  obtain⟨b,o⟩:=p;rw[hp]at h;cases o with
  |none=>cases h
  |some q=>cases h;exact⟨q.1,rfl⟩
def j8(k:Nat):(Vm A v r S ps L)[18+ps.length+k]?=L[k]? :=by
 unfold Vm;rw[q8,fL (by rw[oI];omega),oI,fL (by simp;omega)];congr 1;simp;omega
def SP{i a:Nat}{g:Int}{s:Kw.Sp}(h:ps[i]?=some (g,some (a,s)))(B:Asn):(ch A S++(bD v [Pb A.c,Sv r]::B::(ps.map gR++L)))[18+i]?=some (ei a s):=by
 have b:=(c2.1 h).1;rw[q8,fL (by rw[oI];omega),oI,sB,eQ (by simpa using b),ez,h];rfl
def AK{i a:Nat}{g:Int}{s:Kw.Sp}(h:ps[i]?=some (g,some (a,s))):(Vm A v r S ps L)[18+i]?=some (ei a s):=SP h _
def aKN{i a:Nat}{g:Int}{s s':Kw.Sp}(h:ps[i]?=some (g,some (a,s))):bO gy (ps.set i (g,some (a,s')))=bO gy ps:=by
 unfold bO;congr 1;apply gJ;intro j;rw[ez,ez,hv];split
 ·next e=>
  subst e;have b:=(c2.1 h).1;rw[bK b,h];rfl
 ·rfl
def SQ{i:Nat}(a:i<ps.length)(B X:Asn)(p:Int×bX (Nat×Kw.Sp))(hp:gR p=X):(ch A S++(bD v [Pb A.c,Sv r]::B::(ps.map gR++L))).set (18+i) X=ch A S++(bD v [Pb A.c,Sv r]::B::((ps.set i p).map gR++L)):=by
 rw[q8,q8,iD _ _ (by rw[oI];omega),oI,sB,sD _ _ (by simpa using a),hT,hp]
def SR{i a:Nat}{g:Int}{s s':Kw.Sp}(h:ps[i]?=some (g,some (a,s))):(Vm A v r S ps L).set (18+i) (ei a s')=Vm A v r S (ps.set i (g,some (a,s'))) L:=by
 unfold Vm;rw[aKN h];exact SQ (c2.1 h).1 _ _ _ rfl
def Vm.op{i a:Nat}{g:Int}{s:Kw.Sp}(b:ps[i]?=some (g,some (a,s)))(h:Sep E (Vm A v r S ps L) w):Sep E (ei a s::(Vm A v r S ps L).eraseIdx (18+i)) w:=h.fr _ (AK b)
def Vm.sh{i a:Nat}{g:Int}{s s':Kw.Sp}(b:ps[i]?=some (g,some (a,s)))(h:Sep E (ei a s'::(Vm A v r S ps L).eraseIdx (18+i)) w):Sep E (Vm A v r S (ps.set i (g,some (a,s'))) L) w:=SR b▸Sep.put (AK b) h
def fJ{α:Type}{l:bA α}{i:Nat}{x:α}(h:l[i]?=some x):l.set i x=l:=by
 apply gJ;intro j;rw[hv];split;·next e=>subst e;rw[bK (c2.1 h).1,h]
 ·rfl
def Vm.bk{i a:Nat}{g:Int}{s:Kw.Sp}(b:ps[i]?=some (g,some (a,s)))(h:Sep E (ei a s::(Vm A v r S ps L).eraseIdx (18+i)) w):Sep E (Vm A v r S ps L) w:=by
 have:=Vm.sh b h;rwa[fJ b]at this
def Vm.eK{B:Asn}(h:Sep E (B::Vm A v r S ps L) w):Sep E (Vm A v r S ps (B::L)) w:=by
 refine h.perm ?_;unfold Vm;refine jo.symm.trans (oR _ ?_);have h1:(B::(ps.map gR++L)).Perm (ps.map gR++B::L):=jo.symm;exact((List.Perm.swap _ _ _).trans (List.Perm.cons _ (List.Perm.swap _ _ _))).trans (List.Perm.cons _ (List.Perm.cons _ h1))
def Vm.out{B:Asn}(h:Sep E (Vm A v r S ps (B::L)) w):Sep E (B::Vm A v r S ps L) w:=by
 refine h.perm (List.Perm.symm ?_);unfold Vm;refine jo.symm.trans (oR _ ?_);have h1:(B::(ps.map gR++L)).Perm (ps.map gR++B::L):=jo.symm;exact((List.Perm.swap _ _ _).trans (List.Perm.cons _ (List.Perm.swap _ _ _))).trans (List.Perm.cons _ (List.Perm.cons _ h1))
def ug(M:cr):Vm A v r S ps M=(ch A S++(bD v [Pb A.c,Sv r]::bw r 2 (bO gy ps)::ps.map gR))++M:=by unfold Vm;simp
def Vm.hM(F:cr)(h:Sep E (F++Vm A v r S ps L) w):Sep E (Vm A v r S ps (F++L)) w:=by
 rw[ug]at h ⊢;exact h.perm (mr _ _ _)
def Vm.e4(F:cr)(h:Sep E (Vm A v r S ps (F++L)) w):Sep E (F++Vm A v r S ps L) w:=by
 rw[ug]at h ⊢;exact h.perm (mr _ _ _)
def Vm.Ge{i a:Nat}{g:Int}{s s':Kw.Sp}{B:Asn}(b:ps[i]?=some (g,some (a,s)))(h:Sep E (B::ei a s'::(Vm A v r S ps L).eraseIdx (18+i)) w):Sep E (Vm A v r S (ps.set i (g,some (a,s'))) (B::L)) w:=
 Vm.eK (SR b▸Sep.hC (AK b) h)
def Vm.bk1{i a:Nat}{g:Int}{s:Kw.Sp}{B:Asn}(b:ps[i]?=some (g,some (a,s)))(h:Sep E (B::ei a s::(Vm A v r S ps L).eraseIdx (18+i)) w):Sep E (Vm A v r S ps (B::L)) w:=by
 have:=Vm.Ge b h;rwa[fJ b]at this
def Vm.pL{L':cr}(hp:L.Perm L')(h:Sep E (Vm A v r S ps L) w):Sep E (Vm A v r S ps L') w:=by
 refine h.perm ?_;unfold Vm;exact oR _ (List.Perm.cons _ (List.Perm.cons _ (oR _ hp)))
def Vm.el{i:Nat}{p:Int×bX (Nat×Kw.Sp)}{F:Addr->Prop}{x:Int}(hn:r.n=ps.length)(h:Sep E (Vm A v r S ps L) w)(hx:x=i)(a:ps[i]?=some p)(k:∀b,r.p=some ⟨b,0,none⟩->(∀j u,(gy p)[j]?=some u->w.cell? ⟨b,i*2+j,none⟩=some u)->F ⟨b,i*2,none⟩):cF r.p r.n x 2 F:=
 jL sn 17 h rfl hn hx a k
def Gf{pid:Int}(hn:r.n=ps.length)(h:Sep E (Vm A v r S ps L) w):Calls P p7 #[Pb v,Iv pid] w
  (cC λx w'=>((∃(i a:Nat) (g:Int) (s:Kw.Sp),pid=i/\ps[i]?=some (g,some (a,s))/\x=Pb a)\/(Vs.space ⟨S,plain ps⟩ pid=none/\x=.pointer none))/\w'=w):=by
 apply ay7;unfold N9 qK qW qZ qg;refine⟨λw'=>(0<=pid/\pid<ps.length)/\w'=w,cU (λe=>⟨.inr ⟨?_,rfl⟩,rfl⟩) (λc=>⟨_,rfl,r,h.cellAt 16 rfl 1,hq (λe=>⟨.inr ⟨?_,rfl⟩,rfl⟩) (λh1=>⟨⟨c,bu⟩,rfl⟩)⟩),?_⟩;·unfold Vs.space;rw[cK]
 ·unfold Vs.space;rw[bK c];show((plain ps)[pid.toNat]?).bind Prod.snd=none;rw[gI (by rw[kx];omega)];rfl
 rintro _ _ ⟨⟨c,h1⟩,rfl⟩;obtain⟨p,hp⟩:∃p,ps[pid.toNat]?=some p:=⟨_,du⟩
 refine⟨_,rfl,r,h.cellAt 16 rfl 1,Vm.el hn h (show pid=((pid.toNat:Nat):Int) by omega) hp (λb _ d=>⟨_,by rw[cj];exact d 1 _ rfl,?_,rfl⟩)⟩;obtain⟨g,o⟩:=p;cases o with
 |some q=>exact .inl ⟨pid.toNat,q.1,g,q.2,bu,hp,rfl⟩
 |none=>
  refine .inr ⟨?_,rfl⟩;unfold Vs.space;rw[bK c];show((plain ps)[pid.toNat]?).bind Prod.snd=none;rw[iZ hp];rfl
def SS{s:Sl}{ids:bS}(c:∀S',Ints E (Vm A v r S' ps L) s ids)(hb:ids.length<1000000)(g:Kc.Inv S)(h:Sep E (Vm A v r S ps L) w):
  Calls P CP #[Pb v,Sv s] w (cZ E (.tuple #[]) (Vm A v r (ep ids S) ps L)):=by
 have hlen:=(c S).1;apply ay9;unfold OE qD qO qQ qW qZ;refine⟨λx w'=>∃(k:Nat) (S':Cs),x=k/\k<=ids.length/\Kc.Inv S'/\ep (ids.drop k) S'=ep ids S/\Sep E (Vm A v r S' ps L) w',λx _=>(ids.length-x).toNat,⟨0,S,rfl,dX _,g,rfl,h⟩,?_⟩;rintro _ _ i ⟨k,S',rfl,hk,b,he,h1⟩;refine cU (λf=>?_) (λe=>?_)
 ·obtain⟨x,hx⟩:∃x,ids[k]?=some x:=⟨_,du⟩
  have d:ids.drop k=x::ids.drop (k+1):=by
   have a:=(c2.1 hx).1;rw[kZ a];rw[ea a]at hx;rw[cV hx]
  rw[d]at he;refine(c S').el h1 k rfl hx ⟨_,rfl,_,h1.cellAt 16 rfl 0,use (AH (id:=x) (n:= -1) b h1) ?_⟩;rintro _ w2 ⟨rfl,h2⟩;exact⟨_,rfl,⟨k+1,_,c4,bu,b.bP x (-1),he,h2⟩,by rw[c4];dsimp only;omega⟩
 ·have:k=ids.length:=by omega
  subst this;rw[xC]at he;exact⟨rfl,he▸h1⟩
structure ja(ps cN:PS):Prop where
 len:cN.length=ps.length
 at_:∀i:Nat,cN[i]?=ps[i]? \/∃g q,ps[i]?=some (g,some q)/\cN[i]?=some (g,none)
def ja.refl(ps:PS):ja ps ps:=⟨rfl,λ_=>.inl rfl⟩
def ja.trans{a b c:PS}(h:ja a b)(k:ja b c):ja a c:=by
 refine⟨k.len.trans h.len,λi=>?_⟩;rcases k.at_ i with e|⟨g,q,d,j⟩
 ·rw[e];exact h.at_ i
 ·rcases h.at_ i with f|⟨l,m,f1,f2⟩
  ·exact .inr ⟨g,q,f▸d,j⟩
  ·rw[f2]at d;cases d
def ja.die{i:Nat}{g:Int}{q:Nat×Kw.Sp}(h:ps[i]?=some (g,some q)):ja ps (ps.set i (g,none)):=by
 refine⟨by simp,λj=>?_⟩;by_cases e:i=j;·subst e;exact .inr ⟨g,q,h,jm (c2.1 h).1⟩
 ·exact .inl (iM e)
def SU{i a:Nat}{g:Int}{s:Kw.Sp}(f:ps[i]?=some (g,some (a,s)))(p:fR s)(hn:r.n=ps.length)(D:Kc.Inv S)(h:Sep E (Vm A v r S ps L) w):
  Calls P CN #[Pb v,Iv (i:Nat)] w (cZ E (.tuple #[]) (Vm A v r (ep (s.ids 0 65536) S) (ps.set i (g,none)) L)):=by
 have m:=(c2.1 f).1;apply aAw;unfold Oz qE qJ qK qW qZ;refine⟨_,rfl,r,h.cellAt 16 rfl 1,Vm.el hn h rfl f (λb _ z=>⟨_,by rw[cj];exact z 1 _ rfl,use (Qx (a:=0) (b:=65536) bu bu p (Vm.op f h)) ?_⟩)⟩;rintro _ F ⟨q,rfl,o,h1⟩;have h2:=Vm.Ge f h1;have k:(s.cut 0 65536).2=s.ids 0 65536:=rfl;rw[k]at o h2;have c:(ps.set i (g,some (a,(s.cut 0 65536).1)))[i]?=some (g,some (a,(s.cut 0 65536).1)):=jm m;have y:∀S',Ints E (Vm A v r S' (ps.set i (g,some (a,(s.cut 0 65536).1))) (bw q 1 (bC (s.ids 0 65536))::L)) q (s.ids 0 65536):=λS'=>(Ints.row o).of λ_ B=>Vm.out B;refine⟨q,rfl,use (SS y (by have:=Ai p 0 65536;omega) D h2) ?_⟩;rintro _ w2 ⟨rfl,d⟩;have d:=(Vm.out d).tail;have n:r.n=(ps.set i (g,some (a,(s.cut 0 65536).1))).length:=by rw[eh];exact hn
 refine⟨rfl,_,rfl,r,d.cellAt 16 rfl 1,Vm.el n d rfl c (λb hb _=>?_)⟩;rw[cj];refine tG sn (a':=(g,none)) (d.fr 17 rfl) hb c bN rfl (λC u=>⟨rfl,?_⟩);have e:=Sep.put (L:=Vm A v r (ep (s.ids 0 65536) S) (ps.set i (g,some (a,(s.cut 0 65536).1))) L) (q:=17) (A':=bw r 2 (bO gy ((ps.set i (g,some (a,(s.cut 0 65536).1))).set i (g,none)))) rfl u;have t:(ps.set i (g,some (a,(s.cut 0 65536).1))).set i (g,none)=ps.set i (g,none):=List.set_set ..;have hx:=SQ (A:=A) (S:=ep (s.ids 0 65536) S) (v:=v) (r:=r) (L:=L) (c2.1 c).1 (bw r 2 (bO gy (ps.set i (g,none)))) emp (g,none) rfl;rw[t]at e hx;have e:Sep E (ch A (ep (s.ids 0 65536) S)++(bD v [Pb A.c,Sv r]::bw r 2 (bO gy (ps.set i (g,none)))::((ps.set i (g,some (a,(s.cut 0 65536).1))).map gR++L))) C:=e;have j:(ch A (ep (s.ids 0 65536) S)++(bD v [Pb A.c,Sv r]::bw r 2 (bO gy (ps.set i (g,none)))::((ps.set i (g,some (a,(s.cut 0 65536).1))).map gR++L)))[18+i]?=some (ei a (s.cut 0 65536).1):=SP c _;have l:=Sep.put (A':=emp) j (Sep.emp.2 (e.fr _ j).tail);rw[hx]at l;exact l
end Go.Mp
namespace Go.Kw
def fk(p:PP):Pr:=match p.2 with|some s=>⟨p.1,s.cI.length,true⟩|none=>⟨p.1,0,false⟩
def so(V:Vs):V.pr=V.procs.map fk:=rfl
end Go.Kw
namespace Go.Mp
open Go Go.Vc Go.Sp Go.Proofs Go.Kc Go.Kw Go.Kt
variable{E:Env}{L:cr}{w W:bI}{A:At}{S:Cs}{v:Nat}{r:Sl}{ps:PS}
def dH(ps:PS):Prop:=∀(i:Nat) g a s,ps[i]?=some (g,some (a,s))->fR s
def dH.less{cN:PS}(h:dH ps)(k:ja ps cN):dH cN:=by
 intro i g a s c;rcases k.at_ i with e|⟨d,q,_,b⟩
 ·exact h i g a s (e▸c)
 ·rw[c]at b;cases b
def wY:hG P Wn=some (24,3,[Iv 0,Iv 0,.bool false]):=by kernel_rfl
def aLN(x:Pr):∀u∈x.vs,u.oneCell'=true:=by
 intro u hu;simp only[Pr.vs,eH,uN,uT]at hu;rcases hu with rfl|rfl|rfl<;>rfl
def SV(N:dH ps)(hn:r.n=ps.length)(hb:ps.length<=1000)(h:Sep E (Vm A v r S ps L) w):Calls P oB #[Pb v] w
  (cC λx w'=>∃l:Sl,x=Sv l/\l.n=((plain ps).map fk).length/\Sep E (Vm A v r S ps (fy l ((plain ps).map fk)::L)) w'):=by
 obtain⟨Q,C⟩:∃Q,(plain ps).map fk=Q:=⟨_,rfl⟩
 have R:Q.length=ps.length:=by rw[<- C,dY,kx]
 rw[C];apply ay6;unfold N8 qK qQ qU qW qZ qa qf qg qy zq zz;refine⟨_,rfl,r,h.cellAt 16 rfl 1,λl x w'=>∃k:Nat,x=k/\k<=ps.length/\l.n=(Q.take k).length/\Sep E (Vm A v r S ps (fy l (Q.take k)::L)) w',λ_ x _=>(ps.length-x).toNat,⟨0,rfl,dX _,rfl,Vm.eK (bw.none_ h)⟩,?_⟩;rintro _ l _ W ⟨k,rfl,hk,hl,h1⟩;refine cU (λV=>?_) (λT=>?_)
 ·obtain⟨p,hp⟩:∃p,ps[k]?=some p:=⟨_,du⟩
  obtain⟨g,o⟩:=p;have M:Q[k]?=some (fk (g,o.map Prod.snd)):=by rw[<- C,ez,iZ hp];rfl
  have t:Q.take (k+1)=Q.take k++[fk (g,o.map Prod.snd)]:=take_succ M;obtain⟨x,hx⟩:∃x,fk (g,o.map Prod.snd)=x:=⟨_,rfl⟩
  rw[hx]at t;have U:l.n=k:=by rw[hl,gT];omega
  refine Vm.el hn h1 rfl hp (λb _ D=>⟨g,by rw[cj];exact D 0 _ rfl,o.map (λq=>(⟨q.1,0,none⟩:Addr)),by rw[cj];exact D 1 _ rfl,Al.i h1 (λu w2 h2=>ey _ h2 rfl (λX B=>?_))⟩);refine ld B 0 rfl rfl rfl (ld B 0 rfl rfl rfl (Al.i B (λp2 Y K=>ey _ K rfl (λJ d=>?_))));have d:Sep E (bD p2 [Iv g,Iv 0,.bool (!(o.map λq=>(⟨q.1,0,none⟩:Addr)).isNone)]::bD u (gy (g,o))::Vm A v r S ps (fy l (Q.take k)::L)) J:=d;refine⟨λw'=>Sep E (bD p2 x.vs::bD u (gy (g,o))::Vm A v r S ps (fy l (Q.take k)::L)) w',ld d 0 rfl rfl rfl ?_,?_⟩
  ·cases o with
   |none=>
    refine bF rfl ?_;rw[<- hx];exact d
   |some q=>
    obtain⟨a,s⟩:=q;have H:=N k g a s hp;refine bT rfl (ld d 1 rfl rfl (x:=some ⟨a,0,none⟩) rfl ?_);have e:Sep E (Vm A v r S ps (bD p2 [Iv g,Iv 0,.bool true]::bD u (gy (g,some (a,s)))::fy l (Q.take k)::L)) J:=Vm.hM [_,_] d;refine use (aIu H (Vm.op hp e)) ?_;rintro _ O ⟨rfl,j⟩;have m:=Vm.e4 [_,_] (Vm.bk hp j);refine⟨_,rfl,St.i m (by show 1<3;decide) (λz f=>?_)⟩;rw[<- hx];exact f
  ·rintro _ O y;refine ld y 0 rfl rfl rfl (ld y 0 rfl rfl rfl (ld y 0 rfl rfl rfl (Al.i y (λI z e=>?_))));have e:Sep E (bD I x.vs::bD p2 x.vs::bD u (gy (g,o))::Vm A v r S ps (fy l (Q.take k)::L)) z:=e;have G:=Src.bD (n:=1) (c:=1) e (i:=0) rfl wY rfl (aLN x);have j:=Vm.hM [_,_,_] e;have j:Sep E (Vm A v r S ps ([bD I x.vs,bD p2 x.vs,bD u (gy (g,o)),fy l (Q.take k)]++L)) z:=j;have m:=(Vm.e4 [_,_,_,_] j).ro 4 [3] rfl;have m:Sep E (fy l (Q.take k)::Vm A v r S ps L) z:=m;refine bw.append m wY rfl G bu bu (λl' Z F f=>⟨⟨k+1,c4,bu,?_,Vm.eK ?_⟩,?_⟩);·rw[F,t,df,hl];rfl
   ·unfold fy;rw[t,nm,ph];exact f
   ·rw[c4];dsimp only;omega
 ·have:k=ps.length:=by omega
  subst this;rw[iq bu]at hl h1;exact⟨l,rfl,hl,h1⟩
end Go.Mp
namespace Go.Kw
open Go Go.Kc Go.Kt
def SW(ins:bS):∀(l:bA Pr) (i:Int),(iy ins i l).Pairwise (· < ·)/\∀x∈iy ins i l,i<=x
 |[],_=>⟨List.Pairwise.nil,λ_ h=>by cases h⟩
 |p::r,i=>by
  obtain⟨h1,h2⟩:=SW ins r (i+1);unfold iy;split
  ·refine⟨ht.2 ⟨λx hx=>by have:=h2 x hx;omega,h1⟩,λx hx=>?_⟩;rcases eH.1 hx with rfl|hx;·exact hh _
   ·have:=h2 x hx;omega
  ·exact⟨h1,λx hx=>by have:=h2 x hx;omega⟩
def SX(T:bA G)(l:bA Pr)(t:Int)(wh:bA Bool):(l7 T l t wh).Nodup:=by
 unfold l7;dsimp only;split;·exact Hz
 ·split;·simp
  ·exact(SW _ l 0).1.imp λh=>bu
def aBu(a b:bS)(V:Vs):V.dg (a++b)=(V.dg a).dg b:=Be
def cG.eg(o:cG)(pid:Int)(d:bS):cG:={o with bE:=o.bE++d,err:=if d= []then 12 else if pid∈d then 13 else o.err}
end Go.Kw
namespace Go.Mp
open Go Go.Vc Go.Sp Go.Proofs Go.Kc Go.Kw Go.Kt
variable{E:Env}{L:cr}{w W:bI}{A:At}{S:Cs}{v:Nat}{r:Sl}{ps:PS}
def dc(o:db)(v sp:Nat)(out:cG)(a:Sl):bA bH:=[Iv o.kind,Iv o.a,Iv o.b,Iv o.c,Iv o.d,Pb v,Pb sp,Iv out.err,Iv out.n,Sv a]
def Vm.cell{b:Nat}{C:bA bH}(h:Sep E (Vm A v r S ps L) w)(k:Nat)(hk:L[k]?=some (bD b C))(o:Nat):w.cell? ⟨b,o,none⟩=C[o]? :=h.cellAt (18+ps.length+k) ((j8 k).trans hk) o
def Vm.ints{q:Sl}{l:bS}(hn:q.n=l.length):Ints E (Vm A v r S ps (bw q 1 (bC l)::L)) q l:=(Ints.row hn).of λ_ a=>Vm.out a
def SY{i:Nat}{g:Int}:plain (ps.set i (g,none))=(plain ps).set i (g,none):=by unfold plain;rw[hT];rfl
def aLr{c sp:Nat}{o:db}{out:cG}{f:Sl}{t:Int}(aF:dH ps)(hn:r.n=ps.length)(hb:ps.length<=64)(aL:Kc.Inv S)(hk:f.n=out.bE.length)(aT:out.bE.length<=100000)(h:Sep E (Vm A v r S ps (bD c (dc o v sp out f)::bw f 1 (bC out.bE)::L)) w):Calls P yY #[Pb c,Iv t] w
  (cC λx w'=>x=.bool (decide (dead ⟨S,plain ps⟩ t≠ []/\o.a∉dead ⟨S,plain ps⟩ t))/\∃(cN:PS) (g:Sl),ja ps cN/\plain cN=(Vs.dg ⟨S,plain ps⟩ (dead ⟨S,plain ps⟩ t)).procs/\g.n=(out.eg o.a (dead ⟨S,plain ps⟩ t)).bE.length/\
   Sep E (Vm A v r (Vs.dg ⟨S,plain ps⟩ (dead ⟨S,plain ps⟩ t)).core cN (bD c (dc o v sp (out.eg o.a (dead ⟨S,plain ps⟩ t)) g)::bw g 1 (bC (out.eg o.a (dead ⟨S,plain ps⟩ t)).bE)::L)) w'):=by
 obtain⟨V,al⟩:∃V:Vs,V=⟨S,plain ps⟩:=⟨_,rfl⟩
 obtain⟨d,aw⟩:∃d,dead ⟨S,plain ps⟩ t=d:=⟨_,rfl⟩
 have K:l7 S.tree ((plain ps).map fk) t (nc S)=d:=aw;have ax:(nc S).length=S.guards.length:=by unfold nc;rw[dY]
 rw[aw,<- al];apply ax2;unfold Pa qD qE qF qG qJ qK qL qO qR qW qZ;refine Dr.i h (λaX h1=>⟨_,rfl,some ⟨v,0,none⟩,Vm.cell h1 0 rfl 5,_,rfl,some ⟨A.c,0,none⟩,h1.cellAt 16 rfl 0,_,rfl,some ⟨v,0,none⟩,Vm.cell h1 0 rfl 5,_,rfl,some ⟨v,0,none⟩,Vm.cell h1 0 rfl 5,_,rfl,some ⟨A.c,0,none⟩,h1.cellAt 16 rfl 0,use (wN h1) ?_⟩);rintro _ w2 ⟨rfl,h2⟩;have h2:Sep E (Vm A v r S ps (bD c (dc o v sp out f)::bw f 1 (bC out.bE)::L)) w2:=h2;refine⟨_,rfl,_,h2.cellAt 16 rfl 0,rfl,_,Vm.cell h2 0 rfl 5,rfl,_,Vm.cell h2 0 rfl 5,rfl,use (SV aF hn bu h2) ?_⟩;rintro _ aY ⟨l,rfl,hl,O⟩;refine⟨l,rfl,_,O.cellAt 16 rfl 0,rfl,_,Vm.cell O 1 rfl 5,rfl,use (aKb aL O) ?_⟩;rintro _ aN ⟨wl,rfl,aI,U⟩;have Z:=Vm.eK (Sep.mT (Q:=ch A S) U);have Z:Sep E (Vm A v r S ps (bw wl 1 (en (nc S))::fy l ((plain ps).map fk)::bD c (dc o v sp out f)::bw f 1 (bC out.bE)::L)) aN:=Z;have af:∀k,((Vm A v r S ps (bw wl 1 (en (nc S))::fy l ((plain ps).map fk)::bD c (dc o v sp out f)::bw f 1 (bC out.bE)::L)).eraseIdx 1)[17+ps.length+k]?=(bw wl 1 (en (nc S))::fy l ((plain ps).map fk)::bD c (dc o v sp out f)::bw f 1 (bC out.bE)::L)[k]? :=by
  intro k;rw[List.getElem?_eraseIdx_of_ge bu,show 17+ps.length+k+1=18+ps.length+k by omega];exact j8 k
 have aE:((plain ps).map fk).length<=64:=by rw[dY,kx];exact hb
 refine⟨wl,rfl,use (aIg (q:=17+ps.length+1) (q2:=17+ps.length+0) (b:=A.t) (T:=S.tree) (s:=l) (wl:=wl) (l:=(plain ps).map fk) (wh:=nc S) (t:=t) aL.wf (af 1) hl bu (af 0) (by rw[ax];exact aI) (Z.fr 1 rfl)) ?_⟩;rintro _ aJ ⟨i,rfl,p,ak⟩;rw[K]at p ak;have ar:=Vm.eK (Sep.hC (L:=Vm A v r S ps (bw wl 1 (en (nc S))::fy l ((plain ps).map fk)::bD c (dc o v sp out f)::bw f 1 (bC out.bE)::L)) (q:=1) (A':=eb A.t S.tree) rfl ak);have au:Sep E (Vm A v r S ps (bw i 1 (bC d)::bw wl 1 (en (nc S))::fy l ((plain ps).map fk)::bD c (dc o v sp out f)::bw f 1 (bC out.bE)::L)) aJ:=ar;have av:=Vm.pL (L':=bw i 1 (bC d)::bD c (dc o v sp out f)::bw f 1 (bC out.bE)::bw wl 1 (en (nc S))::fy l ((plain ps).map fk)::L) (List.Perm.cons _ ((mr [_,_] [_,_] L))) au;have ao:Sep E (Vm A v r S ps (bw i 1 (bC d)::bD c (dc o v sp out f)::bw f 1 (bC out.bE)::L)) aJ:=by
  have:=Vm.e4 [_,_,_,_,_] av;exact Vm.hM [_,_,_] (this.ro 5 [0,1,2] rfl)
 clear h1 h2 O U Z ak ar au av;have aQ:d.length<=64:=by
  rw[<- K];unfold l7;dsimp only;split;·simp
  ·split;·simp
   ·exact lv (wU _ _ _) aE
 have aC:d.Nodup:=K▸SX _ _ _ _;have ab:∀x∈d,∃s,V.space x=some s:=λx hx=>by rw[al];exact Gd (V:=⟨S,plain ps⟩) (by rw[<- K]at hx;exact hx)
 refine⟨i,rfl,λx w'=>∃(k:Nat) (S':Cs) (cN:PS),x=k/\k<=d.length/\ja ps cN/\Kc.Inv S'/\(⟨S',plain cN⟩:Vs)=V.dg (d.take k)/\Sep E (Vm A v r S' cN (bw i 1 (bC d)::bD c (dc o v sp out f)::bw f 1 (bC out.bE)::L)) w',λx _=>(d.length-x).toNat,⟨0,S,ps,rfl,dX _,ja.refl _,aL,al.symm,ao⟩,?_⟩;rintro _ _ aZ ⟨k,S',cN,rfl,aU,M,ai,N,I⟩;have aB:r.n=cN.length:=by rw[M.len];exact hn
 refine cU (λaV=>?_) (λaR=>?_)
 ·obtain⟨x,hx⟩:∃x,d[k]?=some x:=⟨_,du⟩
  obtain⟨s,aH⟩:=ab x (eG hx);obtain⟨aj,aD⟩:=il aH;have an:x∉d.take k:=by
   intro hm;obtain⟨j,R⟩:=Ug hm;rw[pI]at R;split at R
   ·next aS=>
    have ag:=(c2.1 hx).1;have ah:=(c2.1 R).1;have:=(List.getElem_inj (h₀:=ah) (h₁:=ag) aC).1 (by rw[ea ah]at R;rw[ea ag]at hx;rw[cV R,cV hx]);omega
   ·cases R
  have X:(plain cN)[x.toNat]?=some (V.group x,some s):=by
   have U:=(sk (d.take k) V).2.2.2 x.toNat (by rw[show((x.toNat:Nat):Int)=x by omega];exact an);rw[<- N]at U;exact U.trans aD
  obtain⟨a,am⟩:=SO X;refine(Vm.ints (L:=bD c (dc o v sp out f)::bw f 1 (bC out.bE)::L) p).el I k rfl hx ⟨_,rfl,some ⟨v,0,none⟩,Vm.cell I 1 rfl 5,?_⟩;have Y:x=((x.toNat:Nat):Int):=by omega
  rw[Y];refine use (SU am ((aF.less M) _ _ _ _ am) aB ai I) ?_;rintro _ aK ⟨rfl,n⟩;refine⟨rfl,⟨k+1,_,_,c4,bu,M.trans (ja.die am),((wV (s.ids 0 65536) S').inv ai (by have:=ai.ids;omega)).1,?_,n⟩,by rw[c4];dsimp only;omega⟩;rw[take_succ hx,aBu,<- N];show _=Vs.exit ⟨S',plain cN⟩ x;have aG:Vs.space ⟨S',plain cN⟩ x=some s:=by
   have:=(iY (V:=⟨S',plain cN⟩) X).1;rwa[<- Y]at this
  have ay:Vs.group ⟨S',plain cN⟩ x=V.group x:=by
   have:=(iY (V:=⟨S',plain cN⟩) X).2;rwa[<- Y]at this
  rw[wW aG,SY,ay]
 ·have:k=d.length:=by omega
  subst this;rw[fB]at N;rw[<- N];have aa:(out.eg o.a d).bE=out.bE++d:=rfl;rw[aa];have n:=Vm.e4 [_,_,_] I;have F:=Src.sub (l:=0) (n':=i.n) (c':=i.c) n (q:=0) rfl tP bu (λu hu=>by obtain⟨z,_,rfl⟩:=fD.1 hu;rfl);rw[r8 (n.fr 0 rfl) i.c]at F;have ad:((bC d).drop (0*1)).take (i.n*1)=bC d:=by
   rw[nA,rv,fY,iq (by simp[bC,p])]
  rw[ad]at F;refine⟨_,rfl,f,n.cellAt 1 rfl 9,bw.app (n.ro 3 [2,0,1] rfl) tP rfl F (by rw[hk];omega) (λg aK az ae=>⟨_,rfl,?_⟩)⟩;have aM:bC out.bE++bC d=bC (out.bE++d):=by simp[bC]
  rw[aM]at ae;have aA:g.n=(out.bE++d).length:=by rw[az,hk,df,p]
  have ap:Sep E (bD c (dc o v sp out f)::bw g 1 (bC (out.bE++d))::bw i 1 (bC d)::Vm A v r S' cN L) aK:=ae.ro 3 [2,0,1] rfl;refine St.i ap (by show 9<10;decide) (λaO y=>?_);obtain⟨C,B⟩:∃C:cG,C= {out with bE:=out.bE++d} :=⟨_,rfl⟩
  have y:Sep E (bD c (dc o v sp C g)::bw g 1 (bC (out.bE++d))::bw i 1 (bC d)::Vm A v r S' cN L) aO:=by rw[B];exact y
  have fin:∀ {w:bI} {e:Int} {b:Bool},(out.eg o.a d)= {C with err:=e}->b=decide (d≠ []/\o.a∉d)->Sep E (bD c (dc o v sp {C with err:=e} g)::bw g 1 (bC (out.bE++d))::bw i 1 (bC d)::Vm A v r S' cN L) w->
    Value.bool b=.bool (decide (d≠ []/\o.a∉d))/\∃(H:PS) (G:Sl),ja ps H/\plain H=plain cN/\G.n=(out.bE++d).length/\Sep E (Vm A v r S' H (bD c (dc o v sp (out.eg o.a d) G)::bw G 1 (bC (out.bE++d))::L)) w:=by
   intro w e b h1 h2 O;refine⟨by rw[h2],cN,g,M,rfl,aA,?_⟩;rw[h1];exact Vm.hM [_,_] (O.ro 3 [0,1] rfl)
  refine eC (λaj=>⟨_,rfl,St.i y (by show 7<10;decide) (λaP J=>fin (e:=12) ?_ ?_ J)⟩) (λaj=>⟨_,rfl,o.a,y.cell 1,use (F8 (l:=d) (L:=bD c (dc o v sp C g)::bw g 1 (bC (out.bE++d))::bw i 1 (bC d)::Vm A v r S' cN L) (Ints.at_ (q:=2) rfl p) bu o.a y) ?_⟩)
  ·have m:d= []:=uC bu;rw[B];unfold cG.eg;rw[bK m]
  ·have m:d= []:=uC bu;exact(dq λe=>e.1 m).symm
  ·have m:d≠ []:=λe=>aj (by rw[p,e];rfl);rintro _ aP ⟨rfl,J⟩;refine⟨_,rfl,cy (λD=>⟨_,rfl,St.i J (by show 7<10;decide) (λaW aq=>fin (e:=13) ?_ ?_ aq)⟩) (λD=>fin (e:=out.err) ?_ ?_ ?_)⟩;·rw[B];unfold cG.eg;rw[bJ m,bK (lq.1 D)]
   ·exact(dq λe=>e.2 (lq.1 D)).symm
   ·have W:o.a∉d:=λe=>by rw[lq.2 e]at D;cases D
    rw[B];unfold cG.eg;rw[bJ m,bJ W]
   ·have W:o.a∉d:=λe=>by rw[lq.2 e]at D;cases D
    exact(dK ⟨m,W⟩).symm
   ·have:({C with err:=out.err} :cG)=C:=by rw[B]
    rw[this];exact J
def uh(w:bI)(b:Nat):Nat->Nat
 |0=>0
 |k+1=>uh w b k+(match w.cell? ⟨b,k*2+1,none⟩with|some (.pointer (some _))=>1|_=>0)
def Gg{b:Nat}(hb:r.p=some ⟨b,0,none⟩)(hn:r.n=ps.length)(h:Sep E (Vm A v r S ps L) w):∀k,k<=ps.length->uh w b k=jl ((plain ps).take k)
 |0,_=>rfl
 |k+1,hk=>by
  obtain⟨p,hp⟩:∃p,ps[k]?=some p:=⟨_,du⟩
  have e:=Gg hb hn h k bu;have c:w.cell? ⟨b,k*2+1,none⟩=some (.pointer (p.2.map λq=>⟨q.1,0,none⟩)):=by
   have:=Vm.el (F:=λa=>w.cell? (a.add 1)=some (.pointer (p.2.map λq=>⟨q.1,0,none⟩))) hn h rfl hp (λf _ c=>by rw[cj];exact c 1 _ rfl);obtain⟨a,d,_,hf⟩:=this;rw[hb]at d;cases d;rw[cj,cj]at hf;rw[<- hf];congr 2;omega
  unfold uh jl;rw[take_succ (iZ hp),Hh,c,e];obtain⟨g,o⟩:=p;cases o with
  |none=>rfl
  |some q=>rfl
def pA(c:cm)(hV:bH)(K:bj0)(R:bi9)(w:bI):Prop:=
 Dr (λa=>NN c λa25=>∃g:cm,a.cell? (a25.add 5)=some (.pointer g)/\NN g λa27=>∃e:Sl,a.cell? (a27.add 1)=some (Sv e)/\NN c λa29=>∃h:Int,a.cell? ((a29.add 0).add 1)=some (Iv h)/\cF e.p e.n h 2 λm=>∃i:Int,a.cell? (m.add 0)=some (Iv i)/\fe P hV #[(Iv i)] a λo d=>∃j:Int,∃k:Int,∃b:Int,o=.returned (.tuple #[(Iv j),(Iv k),(Iv b)])/\bif(b==0)then(K (.tuple #[(Iv j),(.bool true)]) d)else(bif(b !=12)then(NN c λn=>St ((n.add 7).add 0) (Iv b) (λq=>K (.tuple #[(Iv (-1)),(.bool false)]) q) d)else(Calls P yY #[(.pointer c),(Iv k)] d λp f=>∃l:Bool,p=.returned (.bool l)/\bif l then(R f)else(K (.tuple #[(Iv (-1)),(.bool false)]) f)))) w
def aKT(c:cm)(hV:bH)(K:bj0)(w:bI):Pl c hV K w=∃(a:bi9) (M2:bI->Nat),pA c hV K a w/\∀d:Nat->bH,∀b:bI,a b->pA c hV K (λw'=>a w'/\M2 w'<M2 b) b:=rfl
def SZ(E:Env)(A:At)(v:Nat)(r:Sl)(c sp:Nat)(o:db)(L:cr)(fv:bH)(f:Cs->Int->Cs×Int×Int×Int):Prop:=
 ∀(S:Cs) (ps:PS) (out:cG) (a:Sl) (g:Int) (w:bI),Kc.Inv S->S.bt.next<16777216->Sep E (Vm A v r S ps (bD c (dc o v sp out a)::bw a 1 (bC out.bE)::L)) w->
  fe P fv #[Iv g] w (cZ E (.tuple #[Iv (f S g).2.1,Iv (f S g).2.2.1,Iv (f S g).2.2.2]) (Vm A v r (f S g).1 ps (bD c (dc o v sp out a)::bw a 1 (bC out.bE)::L)))
def wZ(x:bX Int):bH:=match x with
 |some id=>.tuple #[Iv id,.bool true]
 |none=>.tuple #[Iv (-1),.bool false]
def im(E:Env)(A:At)(v:Nat)(r:Sl)(c sp:Nat)(o:db)(L:cr)(ps:PS)(q:Vs×cG×bX Int)(x:bH)(w:bI):Prop:=
 x=wZ q.2.2/\∃(cN:PS) (a:Sl),ja ps cN/\plain cN=q.1.procs/\a.n=q.2.1.bE.length/\Sep E (Vm A v r q.1.core cN (bD c (dc o v sp q.2.1 a)::bw a 1 (bC q.2.1.bE)::L)) w
def S1{c sp:Nat}{o:db}{out:cG}{B:Sl}{fv:bH}{f:Cs->Int->Cs×Int×Int×Int}{n:Nat}{R:bi9}{ae:Nat×Kw.Sp}{F:PS}(y:ja F ps)(hf:SZ E A v r c sp o L fv f)(hr:∀S g,cw 1 S (f S g).1)(ad:dH ps)(hn:r.n=ps.length)(hb:ps.length<=64)(ag:Kc.Inv S)(T:S.bt.next<16777216)(hk:B.n=out.bE.length)(O:out.bE.length<=100000)(ai:0<=o.a){g:Int}(hp:ps[o.a.toNat]?=some (g,some ae))(h:Sep E (Vm A v r S ps (bD c (dc o v sp out B)::bw B 1 (bC out.bE)::L)) w)(N:∀(S':Cs) (cN:PS) (out':cG) (j:Sl) (w':bI),fH f o.a n ⟨S',plain cN⟩ out'=fH f o.a (n+1) ⟨S,plain ps⟩ out->jl (plain cN)<jl (plain ps)->ja F cN->cw 1 S S'->j.n=out'.bE.length->out'.bE.length<=out.bE.length+64->cN[o.a.toNat]?=ps[o.a.toNat]?->
   Sep E (Vm A v r S' cN (bD c (dc o v sp out' j)::bw j 1 (bC out'.bE)::L)) w'->R w'):
  pA (some ⟨c,0,none⟩) fv (im E A v r c sp o L F (fH f o.a (n+1) ⟨S,plain ps⟩ out)) R w:=by
 obtain⟨Q,a⟩:∃Q,fH f o.a (n+1) ⟨S,plain ps⟩ out=Q:=⟨_,rfl⟩
 rw[a]at N ⊢;rw[nq]at a;have ab:Vs.group ⟨S,plain ps⟩ o.a=g:=by
  have:=(iY (V:=⟨S,plain ps⟩) (iZ hp)).2;rwa[show((o.a.toNat:Nat):Int)=o.a by omega]at this
 dsimp only at a;rw[ab]at a;unfold pA;refine Dr.i h (λaf h1=>⟨_,rfl,some ⟨v,0,none⟩,Vm.cell h1 0 rfl 5,_,rfl,r,h1.cellAt 16 rfl 1,_,rfl,o.a,Vm.cell h1 0 rfl 1,Vm.el hn h1 (show o.a=((o.a.toNat:Nat):Int) by omega) hp (λb _ p=>⟨g,by rw[cj];exact p 0 _ rfl,pn (hf S ps out B g af ag T h1) ?_⟩)⟩);rintro _ w2 ⟨rfl,h2⟩;have t:=hr S g;have J:=t.inv ag bu;generalize aj:f S g=q at a h2 t J;refine⟨_,_,_,rfl,eC (λhe=>?_) (λhe=>g0 (λP=>⟨_,rfl,?_⟩) (λheq=>?_))⟩
 ·rw[bK he]at a;rw[<- a];exact⟨rfl,ps,B,y,rfl,hk,h2⟩
 ·rw[bJ he,bK P]at a;rw[<- a];have z:=Vm.e4 [_] h2;refine St.i z (by show 7<10;decide) (λW l=>⟨rfl,ps,B,y,rfl,hk,?_⟩);exact Vm.hM [_] l
 ·rw[bJ he,cK]at a;refine use (aLr (S:=q.1) ad hn hb J.1 hk O h2) ?_;rintro _ W ⟨rfl,cN,j,C,m,u,z⟩;have k:=sk (dead ⟨q.1,plain ps⟩ q.2.2.1) ⟨q.1,plain ps⟩;have I:∀x∈dead ⟨q.1,plain ps⟩ q.2.2.1,∃s,Vs.space ⟨q.1,plain ps⟩ x=some s:=λx hx=>Gd hx;have G:(dead ⟨q.1,plain ps⟩ q.2.2.1).length<=64:=by
   have K:(Vs.pr ⟨q.1,plain ps⟩).length<=64:=by rw[so,dY];show(plain ps).length<=64;rw[kx];exact hb
   unfold dead l7;dsimp only;split;·simp
   ·split;·simp
    ·exact lv (wU _ _ _) K
  generalize dead ⟨q.1,plain ps⟩ q.2.2.1=d at a z u m k I G;refine⟨_,rfl,cy (λp=>?_) (λp=>?_)⟩
  ·obtain⟨i,D⟩:=kA p;rw[bJ i,bJ D]at a;have ho:out.eg o.a d= {out with bE:=out.bE++d} :=by unfold cG.eg;rw[bJ i,bJ D]
   rw[ho]at z u;refine N _ cN {out with bE:=out.bE++d} j W ?_ ?_ (y.trans C) (t.trans k.1) u (by show(out.bE++d).length<=_;rw[df];omega) ?_ z;·rw[<- a,m]
   ·rw[m];cases d with
    |nil=>exact absurd rfl i
    |cons x d=>
     obtain⟨s,U⟩:=I x fS;exact SL (V:=⟨q.1,plain ps⟩) (by rw[U];rfl)
   ·rcases C.at_ o.a.toNat with e|⟨Y,ak,ah,X⟩
    ·exact e
    ·exfalso;have l:=k.2.2.2 o.a.toNat (by rw[show((o.a.toNat:Nat):Int)=o.a by omega];exact D);rw[<- m]at l;have Z:=iZ X;rw[Z]at l;have aa:=iZ hp;have l:some (Y,none)=(plain ps)[o.a.toNat]? :=l;rw[aa]at l;cases l
  ·have p:=kj p;have M:(Vs.dg ⟨q.1,plain ps⟩ d,out.eg o.a d,none)=Q:=by
    by_cases i:d= []
    ·rw[bK i]at a;rw[<- a];unfold cG.eg;rw[bK i]
    ·have H:o.a∈d:=sA λe=>p ⟨i,e⟩;rw[bJ i,bK H]at a;rw[<- a];unfold cG.eg;rw[bJ i,bK H]
   rw[<- M];exact⟨rfl,cN,j,y.trans C,m,u,z⟩
def Gh{c sp:Nat}{o:db}{out:cG}{J:Sl}{fv:bH}{f:Cs->Int->Cs×Int×Int×Int}{K:Nat×Kw.Sp}(hf:SZ E A v r c sp o L fv f)(hr:∀S g,cw 1 S (f S g).1)(V:dH ps)(hn:r.n=ps.length)(hb:ps.length<=64)(ag:Kc.Inv S)(ak:S.bt.next+66<=16777216)(hk:J.n=out.bE.length)(u:out.bE= [])(N:0<=o.a){g:Int}(hp:ps[o.a.toNat]?=some (g,some K))(h:Sep E (Vm A v r S ps (bD c (dc o v sp out J)::bw J 1 (bC out.bE)::L)) w):
  Calls P yR #[Pb c,fv] w (cC (im E A v r c sp o L ps (Vs.dW ⟨S,plain ps⟩ f o.a out))):=by
 apply azd;rw[aKT];have aj:=(c2.1 hp).1;obtain⟨b,B⟩:∃b,r.p=some ⟨b,0,none⟩:=by
  have:=Vm.el (F:=λ_=>∃b,r.p=some ⟨b,0,none⟩) hn h rfl hp (λb hb _=>⟨b,hb⟩);obtain⟨_,_,_,Z⟩:=this;exact Z
 have ai:jl (plain ps)<=ps.length:=by unfold jl;have:=Ba (p:=λp:PP=>p.2.isSome) (l:=plain ps);rw[kx]at this;exact this
 have W:Vs.dW ⟨S,plain ps⟩ f o.a out=fH f o.a (ps.length+1) ⟨S,plain ps⟩ out:=by unfold Vs.dW;rw[kx]
 rw[W];obtain⟨Q,H⟩:∃Q,fH f o.a (ps.length+1) ⟨S,plain ps⟩ out=Q:=⟨_,rfl⟩
 rw[H];have x:∀ {cN:PS},cN[o.a.toNat]?=some (g,some K)->0<jl (plain cN):=λh1=>List.countP_pos_iff.2 ⟨_,eG (iZ h1),rfl⟩;refine⟨λw'=>∃(n:Nat) (S':Cs) (cN:PS) (out':cG) (a:Sl),fH f o.a (n+1) ⟨S',plain cN⟩ out'=Q/\jl (plain cN)<=n/\n<=64/\ja ps cN/\Kc.Inv S'/\S'.bt.next+n+1<=16777216/\a.n=out'.bE.length/\out'.bE.length+64*n<=100000/\cN[o.a.toNat]?=some (g,some K)/\
  Sep E (Vm A v r S' cN (bD c (dc o v sp out' a)::bw a 1 (bC out'.bE)::L)) w',λw'=>uh w' b ps.length,?_,?_⟩
 ·rw[<- H];refine S1 (ja.refl _) hf hr V hn hb ag bu hk (by rw[u];simp) N hp h (λS' cN out' a w' h1 h2 C i D s G t=>?_);have I:=i.inv ag bu;have T:=x (cN:=cN) (G.trans hp);obtain⟨m,hm⟩:∃m,ps.length=m+1:=⟨ps.length-1,bu⟩
  refine⟨m,S',cN,out',a,by rw[<- hm,h1,H],bu,bu,C,I.1,bu,D,?_,G.trans hp,t⟩;rw[u]at s;simp only[rr]at s;omega
 ·rintro _ af ⟨n,am,e,ae,al,z,ah,ab,d,M,ad,R,aa,j,h1⟩;have y:r.n=e.length:=by rw[d.len];exact hn
  have k:=Gg B y h1 e.length (ec _);rw[<- z];refine S1 d hf hr (V.less d) y (by rw[d.len];exact hb) M bu R bu N j h1 (λS' cN out' a w' h2 C i D s G t O=>?_);have I:=D.inv M bu;have T:=x (cN:=cN) (t.trans j);obtain⟨m,hm⟩:∃m,n=m+1:=⟨n-1,bu⟩
  have U:r.n=cN.length:=by rw[i.len];exact hn
  have q:=Gg B U O cN.length (ec _);refine⟨⟨m,S',cN,out',a,by rw[<- hm,h2,z],bu,bu,i,I.1,bu,s,bu,t.trans j,O⟩,?_⟩;have X:(plain cN).take cN.length=plain cN:=iq (by rw[kx];exact ec _);have Y:(plain e).take e.length=plain e:=iq (by rw[kx];exact ec _);rw[X]at q;rw[Y]at k;rw[i.len]at q;rw[d.len]at k;show uh w' b ps.length<uh af b ps.length;rw[k,q];exact C
end Go.Mp
namespace Go.Kc
open Go Go.Kt
variable{S:Cs}
def S2(h:Inv S)(hn:S.bt.next<16777216){g:Int}(hl:S.live g=true)(text:bA UInt8)(he:(S.di g text).2.2.2=0):0<=(S.di g text).2.1/\(S.di g text).2.1<16777216:=by
 rcases yd h hn hl text with⟨S0,a,k,e,_⟩|⟨S0,t,k,e⟩
 ·rw[e];exact⟨h.cI.next,hn⟩
 ·rw[e]at he;cases he
def S3(h:Inv S)(hn:S.bt.next<16777216){g:Int}(he:(S.fresh g).2.2.2=0):0<=(S.fresh g).2.1/\(S.fresh g).2.1<16777216:=by
 unfold Cs.fresh at he ⊢;split at he;·cases he
 ·next hl=>rw[bJ hl];exact S2 h hn (by simpa using hl) _ he
def S4(h:Inv S)(hn:S.bt.next<16777216){id g:Int}(he:(S.copy id g).2.2.2=0):0<=(S.copy id g).2.1/\(S.copy id g).2.1<16777216:=by
 unfold Cs.copy at he ⊢;dsimp only at he ⊢;split at he;·cases he
 ·next hl=>
  rw[bJ hl];have hl:S.live g=true:=by
   cases a:S.live g with
   |true=>rfl
   |false=>exact absurd (.inr (.inl a)) hl
  exact S2 h hn hl _ he
def S5(h:Inv S)(hn:S.bt.next<16777216){k:Int×Int}{g:Int}(he:(S.cH k g).2.2.2=0):0<=(S.cH k g).2.1/\(S.cH k g).2.1<16777216:=by
 unfold Cs.cH at he ⊢;dsimp only at he ⊢;split at he;·cases he
 next a=>
 rw[bJ a];by_cases hm:S.bt.of k<0
 ·rw[dK hm]at he ⊢;simp only[g4]at he ⊢;have hl:S.live g=true:=by
   cases b:S.live g with
   |true=>rfl
   |false=>exact absurd (.inr b) a
  have c:=rT S.bt (kf:=k.1) (ki:=k.2) (o:=g) ⟨h.cI.next,hn⟩ (.inr hm);split at he;·next hb=>rw[bK hb];dsimp only;rw[c.1];exact⟨h.cI.next,hn⟩
  ·next hb=>exact absurd he hb
 ·rw[dq hm]at he ⊢;simp only[lZ,gU]at he ⊢;obtain⟨p,hp,_⟩:=I0 h.toInv0 (k:=k) bu;have:=h.cI.ids _ _ hp;split at he;·next hb=>rw[bK hb];dsimp only;omega
  ·next hb=>exact absurd he hb
end Go.Kc
namespace Go.Kw
open Go Go.Kc Go.Kt
def Gi{f:Cs->Int->Cs×Int×Int×Int}{pid:Int}(hf:∀S g,cw 1 S (f S g).1)(eD:∀S g,Kc.Inv S->S.bt.next<16777216->(f S g).2.2.2=0->0<=(f S g).2.1/\(f S g).2.1<16777216):∀(n:Nat) (V:Vs) (o:cG) (id:Int),Kc.Inv V.core->V.core.bt.next+n<=16777216->(fH f pid n V o).2.2=some id->0<=id/\id<16777216
 |0,V,o,id,_,_,h=>by cases h
 |n+1,V,o,id,b,hn,h=>by
  rw[nq]at h;dsimp only at h;have h1:=hf V.core (V.group pid);have h2:=eD V.core (V.group pid) b bu;have a:=h1.inv b bu;generalize f V.core (V.group pid)=r at h h1 h2 a;split at h;·next he=>cases h;exact h2 he
  split at h;·cases h
  generalize dead {V with core:=r.1} r.2.2.1=d at h;have hm:r.1.bt.next<=V.core.bt.next+1:=a.2.2;have b1:=((sk d {V with core:=r.1}).1).inv a.1 (by show r.1.bt.next+0<=_;omega);have hk:(Vs.dg {V with core:=r.1} d).core.bt.next<=r.1.bt.next+0:=b1.2.2;split at h;·cases h
  split at h;·cases h
  exact Gi hf eD n _ _ id b1.1 bu h
end Go.Kw
namespace Go.Mp
open Go Go.Vc Go.Sp Go.Proofs Go.Kc Go.Kw Go.Kt
variable{E:Env}{L:cr}{w W:bI}{A:At}{S:Cs}{v:Nat}{r:Sl}{ps:PS}
def mj{c sp:Nat}{o:db}{out:cG}{a:Sl}(F:cr)(h:Sep E (Vm A v r S ps (bD c (dc o v sp out a)::bw a 1 (bC out.bE)::(F++L))) w):Sep E (F++Vm A v r S ps (bD c (dc o v sp out a)::bw a 1 (bC out.bE)::L)) w:=
 Vm.e4 F (Vm.pL (L':=F++(bD c (dc o v sp out a)::bw a 1 (bC out.bE)::L)) (mr [_,_] F L) h)
def lW{c sp:Nat}{o:db}{out:cG}{a:Sl}(F:cr)(h:Sep E (F++Vm A v r S ps (bD c (dc o v sp out a)::bw a 1 (bC out.bE)::L)) w):Sep E (Vm A v r S ps (bD c (dc o v sp out a)::bw a 1 (bC out.bE)::(F++L))) w:=
 Vm.pL (L:=F++(bD c (dc o v sp out a)::bw a 1 (bC out.bE)::L)) (mr F [_,_] L) (Vm.hM F h)
def ra{i a:Nat}{g:Int}{s:Kw.Sp}:plain (ps.set i (g,some (a,s)))=(plain ps).set i (g,some s):=by unfold plain;rw[hT];rfl
def lk(E:Env)(A:At)(v:Nat)(r:Sl)(c sp:Nat)(o:db)(L:cr)(n:Nat)(S:Cs)(q:Vs×cG×bX Int)(x:bH)(w:bI):Prop:=
 x=wZ q.2.2/\cw 66 S q.1.core/\∃(cN:PS) (a:Sl),dH cN/\cN.length=n/\plain cN=q.1.procs/\a.n=q.2.1.bE.length/\(q.2.2.isSome=true->∃g s,cN[o.a.toNat]?=some (g,some (sp,s)))/\
  Sep E (Vm A v r q.1.core cN (bD c (dc o v sp q.2.1 a)::bw a 1 (bC q.2.1.bE)::L)) w
def im.cut{c sp:Nat}{o:db}{F:cr}{q:Vs×cG×bX Int}{x:bH}(h:im E A v r c sp o (F++L) ps q x w):im E A v r c sp o L ps q x w:=by
 obtain⟨h1,cN,a,h2,b,d,e⟩:=h;exact⟨h1,cN,a,h2,b,d,(mj F e).right⟩
def lk.cut{c sp n:Nat}{o:db}{F:cr}{q:Vs×cG×bX Int}{x:bH}(h:lk E A v r c sp o (F++L) n S q x w):lk E A v r c sp o L n S q x w:=by
 obtain⟨h1,b,cN,a,i,h2,d,e,f,g⟩:=h;exact⟨h1,b,cN,a,i,h2,d,e,f,(mj F g).right⟩
def ja.own{cN:PS}(h:ja ps cN){i:Nat}{g:Int}{q:Nat×Kw.Sp}(hp:ps[i]?=some (g,some q))(he:(plain cN)[i]?=(plain ps)[i]?):cN[i]?=some (g,some q):=by
 rcases h.at_ i with e|⟨c,d,b,a⟩
 ·exact e.trans hp
 ·rw[iZ a,iZ hp]at he;cases he
def Gj{f:Cs->Int->Cs×Int×Int×Int}(hr:∀S g,cw 1 S (f S g).1){pid:Int}(j:0<=pid){out:cG}{cN:PS}{q:Vs×cG×bX Int}(a:Vs.dW ⟨S,plain ps⟩ f pid out=q)(b:ja ps cN)(c:plain cN=q.1.procs){g:Int}{d:Nat×Kw.Sp}(hp:ps[pid.toNat]?=some (g,some d))(i:q.2.2.isSome=true):cN[pid.toNat]?=some (g,some d):=by
 have h:=(wX (pid:=pid) hr ((plain ps).length+1) ⟨S,plain ps⟩ out).2.2;have a:fH f pid ((plain ps).length+1) ⟨S,plain ps⟩ out=q:=a;rw[a]at h;rcases h i with e|e;·exact b.own hp (by rw[c];exact e)
 ·omega
def Gk{f:Cs->Int->Cs×Int×Int×Int}(hr:∀S g,cw 1 S (f S g).1)(hb:ps.length<=64)(pid:Int)(out:cG):cw 66 S (Vs.dW ⟨S,plain ps⟩ f pid out).1.core:=by
 have h:=(wX (pid:=pid) hr ((plain ps).length+1) ⟨S,plain ps⟩ out).1;exact h.up (by rw[kx];omega)
def im.lk{c sp:Nat}{o:db}{f:Cs->Int->Cs×Int×Int×Int}{out:cG}{x:bH}(hr:∀S g,cw 1 S (f S g).1)(a:dH ps)(hb:ps.length<=64)(e:0<=o.a){g:Int}{s:Kw.Sp}(hp:ps[o.a.toNat]?=some (g,some (sp,s)))(h:im E A v r c sp o L ps (Vs.dW ⟨S,plain ps⟩ f o.a out) x w):lk E A v r c sp o L ps.length S (Vs.dW ⟨S,plain ps⟩ f o.a out) x w:=by
 obtain⟨h1,cN,d,h2,b,i,j⟩:=h;exact⟨h1,Gk hr hb _ _,cN,d,a.less h2,h2.len,b,i,λa=>⟨g,s,Gj hr e rfl h2 b hp a⟩,j⟩
def dH.set(h:dH ps){i a:Nat}{g:Int}{s:Kw.Sp}(d:fR s):dH (ps.set i (g,some (a,s))):=by
 intro j c a' s' b;rw[hv]at b;split at b
 ·split at b;·cases b;exact d
  ·cases b
 ·exact h j c a' s' b
def S6{c sp k:Nat}{o:db}{out:cG}{a:Sl}{bL id:Int}{wr:Bool}{g:Int}{s:Kw.Sp}(hk:k=1\/k=2)(eD:0<=id/\id<16777216)(b:fR s)(e:Kc.Inv S)(hp:ps[o.a.toNat]?=some (g,some (sp,s)))(h:Sep E (Vm A v r S ps (bD c (dc o v sp out a)::L)) w):Calls P C3 #[Pb c,Iv bL,Iv id,Iv (k:Int),.bool wr] w
  (cZ E (.tuple #[]) (Vm A v r (S.bP id 1).1 (ps.set o.a.toNat (g,some (sp,s.enter bL id k wr))) (bD c (dc o v sp out a)::L))):=by
 apply awF;unfold OW qQ qZ;refine⟨_,rfl,some ⟨v,0,none⟩,Vm.cell h 0 rfl 5,_,rfl,some ⟨A.c,0,none⟩,h.cellAt 16 rfl 0,use (AH (id:=id) (n:=1) e h) ?_⟩;rintro _ d ⟨rfl,h1⟩;have h1:Sep E (Vm A v r (S.bP id 1).1 ps (bD c (dc o v sp out a)::L)) d:=h1;refine⟨_,rfl,_,rfl,some ⟨sp,0,none⟩,Vm.cell h1 0 rfl 6,use (aKp (bL:=bL) (id:=id) (k:=k) (wr:=wr) hk bu b (Vm.op hp h1)) ?_⟩;rintro _ w2 ⟨⟨x,rfl⟩,h2⟩;exact⟨_,rfl,rfl,Vm.sh hp h2⟩
def S7{V:Vs}{pid p id:Int}{k:Nat}{wr:Bool}{s:Kw.Sp}(h:V.space pid=some s):V.enter pid p id k wr=⟨(V.core.bP id 1).1,V.procs.set pid.toNat (V.group pid,some (s.enter p id k wr))⟩:=by
 unfold Vs.enter;have h1:Vs.space {V with core:=(V.core.bP id 1).1} pid=some s:=h;dsimp only;rw[h1];rfl
def S8{c sp:Nat}{o:db}{out:cG}{m:Sl}{id:Int}(z:dH ps)(hn:r.n=ps.length)(hb:ps.length<=64)(H:Kc.Inv S)(t:S.bt.next+66<=16777216)(hk:m.n=out.bE.length)(q:out.bE= [])(n:0<=o.a){g:Int}{s:Kw.Sp}(hp:ps[o.a.toNat]?=some (g,some (sp,s)))(h:Sep E (Vm A v r S ps (bD c (dc o v sp out m)::bw m 1 (bC out.bE)::L)) w):
  Calls P C0 #[Pb c,Iv id] w (cC (lk E A v r c sp o L ps.length S (Vs.bY ⟨S,plain ps⟩ o.a id out))):=by
 have hr:∀(S:Cs) (g:Int),cw 1 S ((λ(S:Cs) g=>let r:=S.bY id g;(r.1,id,r.2)) S g).1:=λS g=>(cw.bY id g).up bu;apply awE;unfold OT qC qb qp;refine Al.i h (λe I h1=>Al.i h1 (λi w2 h2=>?_));have C:=lW [bD i [Iv id],bD e [Pb c]] h2;refine⟨some ⟨c,0,none⟩,h2.cellAt 1 rfl 0,use (Gh (fv:=.func (.func Dx) #[] #[Pb e,Pb i]) (f:=λS g=>let r:=S.bY id g;(r.1,id,r.2)) (λS' cN out' j k w' B G h'=>⟨_,_,rfl,by kernel_rfl,?_⟩) hr z hn hb H t hk q n hp C) ?_⟩
 ·show Calls P Dx #[Iv k,Pb e,Pb i] w' _;apply atf;unfold O9 qD qZ qb qj;refine Dr.i h' (λD a=>⟨some ⟨c,0,none⟩,Vm.cell a 3 rfl 0,_,rfl,some ⟨v,0,none⟩,Vm.cell a 0 rfl 5,_,rfl,some ⟨A.c,0,none⟩,a.cellAt 16 rfl 0,id,Vm.cell a 2 rfl 0,use (Sm (id:=id) (g:=k) B a) ?_⟩);rintro _ F ⟨rfl,d⟩;have d:Sep E (Vm A v r (S'.bY id k).1 cN (bD c (dc o v sp out' j)::bw j 1 (bC out'.bE)::([bD i [Iv id],bD e [Pb c]]++L))) F:=d;exact⟨_,_,rfl,id,Vm.cell d 2 rfl 0,rfl,d⟩
 rintro x D l;have l:=(im.cut l).lk hr z hb n hp;obtain⟨rfl,b⟩:=l;have p:Vs.bY ⟨S,plain ps⟩ o.a id out=Vs.dW ⟨S,plain ps⟩ (λS g=>let r:=S.bY id g;(r.1,id,r.2)) o.a out:=rfl;rw[<- p]at b ⊢;cases u:(Vs.bY ⟨S,plain ps⟩ o.a id out).2.2 with
 |none=>exact⟨_,_,rfl,by rw[u];rfl,b⟩
 |some y=>exact⟨_,_,rfl,by rw[u];rfl,b⟩
def lX(o:bX En):bA bH:=match o with
 |some e=>e.vs
 |none=>wj
def Gl(o:bX En):∃(k id:Int) (wr tc:Bool),lX o= [Iv k,Iv id,.bool wr,.bool tc]/\Qr o=.tuple #[.agg #[Iv k,Iv id,.bool wr,.bool tc],.bool o.isSome]:=by
 cases o with
 |some e=>exact⟨_,_,_,_,rfl,rfl⟩
 |none=>exact⟨_,_,_,_,rfl,rfl⟩
def lk.dW{c sp n:Nat}{o:db}{q:Vs×cG×bX Int}{x:bH}(h:lk E A v r c sp o L n S q x w):∃(id:Int) (b:Bool),x=.tuple #[Iv id,.bool b]:=by
 obtain⟨rfl,_⟩:=h;cases q.2.2 with
 |none=>exact⟨_,_,rfl⟩
 |some y=>exact⟨_,_,rfl⟩
def S9{c sp:Nat}{o:db}{out:cG}{i:Sl}{bL:Int}{x:Rg}(hx:x.fits)(av:0<=bL/\bL<65536)(W:dH ps)(hn:r.n=ps.length)(hb:ps.length<=64)(aj:Kc.Inv S)(aa:S.bt.next+66<=16777216)(hk:i.n=out.bE.length)(Z:out.bE= [])(ad:0<=o.a){g:Int}{s:Kw.Sp}(hp:ps[o.a.toNat]?=some (g,some (sp,s)))(h:Sep E (Vm A v r S ps (bD c (dc o v sp out i)::bw i 1 (bC out.bE)::L)) w):
  Calls P CR #[Pb c,Iv bL,.agg x.vs.toArray] w (cC (lk E A v r c sp o L ps.length S (Vs.there ⟨S,plain ps⟩ o.a bL s x out))):=by
 have N:=W _ _ _ _ hp;obtain⟨B,K⟩:∃B,s.entry bL=B:=⟨_,rfl⟩
 obtain⟨aJ,aG,aI,aH,Y,ab⟩:=Gl B;apply awJ;unfold OG qC qD qE qG qL qU qZ qb qp qy zG zY zo zu zy;refine Al.i h (λm aK h1=>Al.i h1 (λn w2 h2=>Al.i h2 (λl aF ae=>?_)));have ae:Sep E (bD l x.vs::bD n [Iv bL]::bD m [Pb c]::Vm A v r S ps (bD c (dc o v sp out i)::bw i 1 (bC out.bE)::L)) aF:=ae;have aC:=lW [bD l x.vs,bD n [Iv bL],bD m [Pb c]] ae;refine⟨λal ok w'=>∃q:Nat,al=⟨q,0,none⟩/\ok=B.isSome/\Sep E (bD q (lX B)::bD l x.vs::bD n [Iv bL]::bD m [Pb c]::Vm A v r S ps (bD c (dc o v sp out i)::bw i 1 (bC out.bE)::L)) w',Dr.i aC (λay p=>⟨some ⟨c,0,none⟩,Vm.cell p 4 rfl 0,_,rfl,some ⟨sp,0,none⟩,Vm.cell p 0 rfl 6,bL,Vm.cell p 3 rfl 0,?_,?_⟩),?_⟩
 ·refine use (wk bL N (Vm.op hp p)) ?_;rintro _ O ⟨rfl,a⟩;have d:=mj [bD l x.vs,bD n [Iv bL],bD m [Pb c]] (Vm.bk hp a);have d:Sep E (bD l x.vs::bD n [Iv bL]::bD m [Pb c]::Vm A v r S ps (bD c (dc o v sp out i)::bw i 1 (bC out.bE)::L)) O:=d;rw[K,ab];refine⟨_,_,_,_,_,rfl,Al.i d (λq ai t=>⟨bL,t.cellAt 2 rfl 0,rfl,some ⟨sp,0,none⟩,?_,rfl,some ⟨c,0,none⟩,t.cellAt 3 rfl 0,rfl,ey _ t rfl (λaz C=>⟨q,rfl,rfl,?_⟩)⟩)⟩
  ·have aD:=Vm.hM [_,_,_,_] t;exact Vm.cell aD 4 rfl 6
  ·rw[Y];exact C
 ·have aq:=mj [bD l x.vs,bD n [Iv bL],bD m [Pb c]] p;refine Al.i aq (λq O a=>?_);have a:Sep E (bD q wj::bD l x.vs::bD n [Iv bL]::bD m [Pb c]::Vm A v r S ps (bD c (dc o v sp out i)::bw i 1 (bC out.bE)::L)) O:=a;have ap:=Vm.hM [_,_,_,_] a;refine⟨bL,a.cellAt 2 rfl 0,rfl,some ⟨sp,0,none⟩,Vm.cell ap 4 rfl 6,rfl,some ⟨c,0,none⟩,a.cellAt 3 rfl 0,rfl,use (wk bL N (Vm.op hp ap)) ?_⟩;rintro _ ai ⟨rfl,d⟩;have t:=Vm.e4 [_,_,_,_] (Vm.bk hp d);rw[K,ab];refine⟨_,_,_,_,_,rfl,ey _ t rfl (λaz C=>⟨q,rfl,rfl,?_⟩)⟩;rw[Y];exact C
 rintro _ _ _ ay ⟨q,rfl,rfl,p⟩;have an:=lW [bD q (lX B),bD l x.vs,bD n [Iv bL],bD m [Pb c]] p;have ag:∀e,B=some e->Vs.there ⟨S,plain ps⟩ o.a bL s x out=Vs.bY ⟨S,plain ps⟩ o.a e.id out:=λe he=>by unfold Vs.there;rw[K,he]
 have ah:B=none->Vs.there ⟨S,plain ps⟩ o.a bL s x out=(let r:=Vs.dW ⟨S,plain ps⟩ (λS g=>S.cH (dM x bL) g) o.a out;match r.2.2 with|some id=>(r.1.enter o.a bL id 2 x.wr,r.2)|none=>r):=λhe=>by unfold Vs.there;rw[K,he];rfl
 cases B with
 |some e=>
  rw[ag e rfl];have ao:Sep E (bD q e.vs::bD l x.vs::bD n [Iv bL]::bD m [Pb c]::Vm A v r S ps (bD c (dc o v sp out i)::bw i 1 (bC out.bE)::L)) ay:=p;refine bT rfl ⟨some ⟨c,0,none⟩,p.cellAt 3 rfl 0,ld ao 0 rfl rfl (x:=(e.id:Int)) rfl (use (S8 (id:=(e.id:Int)) W hn hb aj aa hk Z ad hp an) ?_)⟩;rintro _ O D;have D:=lk.cut D;obtain⟨y,b,rfl⟩:=D.dW;exact⟨_,_,rfl,D⟩
 |none=>
  rw[ah rfl];have hr:∀(S:Cs) (g:Int),cw 1 S ((λ(S:Cs) g=>S.cH (dM x bL) g) S g).1:=λS g=>cw.cH _ g;refine bF rfl ⟨some ⟨c,0,none⟩,p.cellAt 3 rfl 0,use (Gh (fv:=.func (.func C2) #[] #[Pb m,Pb l,Pb n]) (f:=λS g=>S.cH (dM x bL) g) (λS' cN out' H am w' aA au h'=>⟨_,_,rfl,by kernel_rfl,?_⟩) hr W hn hb aj aa hk Z ad hp an) ?_⟩
  ·show Calls P C2 #[Iv am,Pb m,Pb l,Pb n] w' _;apply atl;unfold OU qD qG qZ qb zR zX zo;have z:∀ {ak:Cs} {w:bI},Sep E (Vm A v r ak cN (bD c (dc o v sp out' H)::bw H 1 (bC out'.bE)::([bD q (lX none),bD l x.vs,bD n [Iv bL],bD m [Pb c]]++L))) w->∀j,w.cell? ⟨l,j,none⟩=x.vs[j]? :=λaE j=>Vm.cell aE 3 rfl j;refine Dr.i h' (λO a=>⟨some ⟨c,0,none⟩,Vm.cell a 5 rfl 0,_,rfl,some ⟨v,0,none⟩,Vm.cell a 0 rfl 5,_,rfl,some ⟨A.c,0,none⟩,a.cellAt 16 rfl 0,_,z a 0,_,z a 1,_,z a 2,_,z a 3,_,z a 4,_,z a 5,bL,Vm.cell a 4 rfl 0,use (aLq hx av a) ?_⟩);rintro _ ai ⟨rfl,d⟩;refine⟨_,_,rfl,_,d.cellAt 16 rfl 0,rfl,_,Vm.cell d 0 rfl 5,rfl,_,Vm.cell d 5 rfl 0,rfl,use (aLj (k:=dM x bL) (g:=am) aA au d) ?_⟩;rintro _ az ⟨rfl,t⟩;exact⟨_,_,_,rfl,rfl,t⟩
  rintro y O D;have D:=D.cut (F:=[]);obtain⟨X,cN,H,G,u,R,d⟩:=D;have T:=Gj hr ad (out:=out) rfl G u hp;have U:=Gk (S:=S) hr hb o.a out;have aw:=(wX (pid:=o.a) hr ((plain ps).length+1) ⟨S,plain ps⟩ out).1;have J:=aw.inv aj (by rw[kx];show S.bt.next+((ps.length+1:Nat):Int)<=_;omega);have eD:=Gi (pid:=o.a) hr (λS g aj hn he=>S5 aj hn he) ((plain ps).length+1) ⟨S,plain ps⟩ out;have aB:fH (λS g=>S.cH (dM x bL) g) o.a ((plain ps).length+1) ⟨S,plain ps⟩ out=Vs.dW ⟨S,plain ps⟩ (λS g=>S.cH (dM x bL) g) o.a out:=rfl;rw[aB]at J eD;dsimp only;generalize Vs.dW ⟨S,plain ps⟩ (λS g=>S.cH (dM x bL) g) o.a out=Q at X u R d T J eD U ⊢;cases I:Q.2.2 with
  |none=>
   rw[I]at X;subst X;exact⟨_,_,rfl,bF rfl ⟨by dsimp only;rw[I];rfl,U,cN,H,W.less G,G.len,u,R,(λe=>by dsimp only at e;rw[I]at e;cases e),(mj [_,_,_,_] d).right⟩⟩
  |some id=>
   rw[I]at X;subst X;have af:=eD id aj (by rw[kx];show S.bt.next+((ps.length+1:Nat):Int)<=_;omega) I;have M:=T (by rw[I];rfl);refine⟨_,_,rfl,bT rfl ⟨some ⟨c,0,none⟩,Vm.cell d 5 rfl 0,bL,Vm.cell d 4 rfl 0,x.wr,Vm.cell d 3 rfl 5,use (S6 (k:=2) (bL:=bL) (id:=id) (wr:=x.wr) (.inr rfl) af N J.1 M d) ?_⟩⟩;rintro _ ai ⟨rfl,t⟩;have ax:Vs.space Q.1 o.a=some s:=by
    have C:=iZ M;rw[u]at C;have:=(iY (V:=Q.1) C).1;rwa[show((o.a.toNat:Nat):Int)=o.a by omega]at this
   have ar:Vs.group Q.1 o.a=g:=by
    have C:=iZ M;rw[u]at C;have:=(iY (V:=Q.1) C).2;rwa[show((o.a.toNat:Nat):Int)=o.a by omega]at this
   refine⟨rfl,?_⟩;dsimp only;rw[S7 ax,ar];refine⟨by dsimp only;rw[I];rfl,U.trans (cw.bP id 1),_,H,(W.less G).set (N.enter (.inr rfl)),?_,?_,R,λ_=>⟨g,_,jm (c2.1 M).1⟩,(mj [_,_,_,_] t).right⟩;·rw[eh];exact G.len
   ·rw[ra,u]
def Ta{c sp:Nat}{o:db}{Q:Vs×cG×bX Int}{V':Vs}{cN:PS}{a:Sl}{n:Nat}{id:Int}{s':Kw.Sp}{g:Int}{S:Cs}(f:Q.2.2=some id)(hr:cw 66 S V'.core)(h:dH cN)(h1:cN.length=n)(h2:plain cN=V'.procs)(b:a.n=Q.2.1.bE.length)(d:cN[o.a.toNat]?=some (g,some (sp,s')))(e:Sep E (Vm A v r V'.core cN (bD c (dc o v sp Q.2.1 a)::bw a 1 (bC Q.2.1.bE)::L)) w):lk E A v r c sp o L n S (V',Q.2) (.tuple #[Iv id,.bool true]) w:=
 ⟨by dsimp only;rw[f];rfl,hr,cN,a,h,h1,h2,b,λ_=>⟨g,s',d⟩,e⟩
def aLy{c sp:Nat}{o:db}{out:cG}{q:Sl}{bL:Int}(ab:dH ps)(hn:r.n=ps.length)(hb:ps.length<=64)(ao:Kc.Inv S)(an:S.bt.next+66<=16777216)(hk:q.n=out.bE.length)(am:out.bE= [])(aq:0<=o.a){g:Int}{s:Kw.Sp}(hp:ps[o.a.toNat]?=some (g,some (sp,s)))(h:Sep E (Vm A v r S ps (bD c (dc o v sp out q)::bw q 1 (bC out.bE)::L)) w):
  Calls P JC #[Pb c,Iv bL] w (cC (lk E A v r c sp o L ps.length S (Vs.own ⟨S,plain ps⟩ o.a bL s out))):=by
 have aa:=ab _ _ _ _ hp;obtain⟨a,af⟩:∃a,s.entry bL=a:=⟨_,rfl⟩
 obtain⟨aN,d,aL,aK,u,aB⟩:=Gl a;obtain⟨pg,Y⟩:∃pg,(S.bt.get d).1=pg:=⟨_,rfl⟩
 obtain⟨K,hK⟩:∃K:bj0,K=lk E A v r c sp o L ps.length S (Vs.own ⟨S,plain ps⟩ o.a bL s out):=⟨_,rfl⟩
 rw[<- hK];apply azc;unfold OJ qE qG qL qQ qU qV qX qZ qb qg qh qm qp zH zo zu zy;refine Al.i h (λt aI h1=>?_);have h1:Sep E (bD t [Pb c]::Vm A v r S ps (bD c (dc o v sp out q)::bw q 1 (bC out.bE)::L)) aI:=h1;have ay:=lW [bD t [Pb c]] h1;refine⟨λaG I w'=>∃m q2:Nat,aG=⟨m,0,none⟩/\I=⟨q2,0,none⟩/\Sep E (Vm A v r S ps (bD c (dc o v sp out q)::bw q 1 (bC out.bE)::([bD q2 [.bool a.isSome],bD m (lX a),bD t [Pb c]]++L))) w',
  ⟨some ⟨c,0,none⟩,h1.cell 0,_,rfl,some ⟨sp,0,none⟩,Vm.cell ay 0 rfl 6,use (wk bL aa (Vm.op hp ay)) ?_⟩,?_⟩
 ·rintro _ w2 ⟨rfl,h2⟩;have l:=mj [bD t [Pb c]] (Vm.bk hp h2);rw[af,aB];refine⟨_,_,_,_,_,rfl,Al.i l (λm aw O=>Al.i O (λq2 ak x=>ey _ x.swap rfl (λG i=>St.i i.swap (by show 0<1;decide) (λaO I=>⟨m,q2,rfl,rfl,?_⟩))))⟩;refine lW [_,_,_] ?_;rw[u];exact I
 rintro _ _ _ w2 ⟨m,q2,rfl,rfl,h2⟩;have J:∀ {S':Cs} {cN:PS} {o':cG} {j:Sl} {F:cr} {w:bI},Sep E (Vm A v r S' cN (bD c (dc o v sp o' j)::bw j 1 (bC o'.bE)::(bD q2 [.bool a.isSome]::bD m (lX a)::F))) w->w.cell? ⟨m,1,none⟩=some (Iv d):=λah=>by rw[Vm.cell ah 3 rfl 1,u];rfl
 refine⟨λaE w'=>∃z:Nat,aE=⟨z,0,none⟩/\Sep E (Vm A v r S ps (bD c (dc o v sp out q)::bw q 1 (bC out.bE)::([bD q2 [.bool a.isSome],bD m (lX a),bD t [Pb c],bD z pg.vs]++L))) w',
  Dr.i h2 (λaF l=>⟨some ⟨c,0,none⟩,Vm.cell l 4 rfl 0,_,rfl,some ⟨v,0,none⟩,Vm.cell l 0 rfl 5,_,rfl,some ⟨A.c,0,none⟩,l.cellAt 16 rfl 0,d,J l,?_,?_⟩),?_⟩
 ·refine use (FO d l) ?_;rintro _ aw ⟨rfl,O⟩;rw[Y];have O:Sep E (Vm A v r S ps (bD c (dc o v sp out q)::bw q 1 (bC out.bE)::([bD q2 [.bool a.isSome],bD m (lX a),bD t [Pb c]]++L))) aw:=O;refine⟨_,_,_,_,_,_,_,_,_,_,rfl,Al.i O (λz ak x=>?_)⟩;have al:=Vm.eK x;refine⟨d,(Vm.cell al 4 rfl 1).trans (by rw[u];rfl),rfl,_,al.cellAt 16 rfl 0,rfl,_,Vm.cell al 1 rfl 5,rfl,_,Vm.cell al 5 rfl 0,rfl,ey _ x rfl (λG i=>⟨z,rfl,?_⟩)⟩;have i:Sep E (bD z pg.vs::Vm A v r S ps ([bD c (dc o v sp out q),bw q 1 (bC out.bE),bD q2 [.bool a.isSome],bD m (lX a),bD t [Pb c]]++L)) G:=i;exact Vm.pL (jo (l₁:=[_,_,_,_,_])).symm (Vm.eK i)
 ·refine Al.i l (λz aw O=>?_);have ad:=Vm.eK O;refine⟨d,(Vm.cell ad 4 rfl 1).trans (by rw[u];rfl),rfl,_,ad.cellAt 16 rfl 0,rfl,_,Vm.cell ad 1 rfl 5,rfl,_,Vm.cell ad 5 rfl 0,rfl,use (FO d ad) ?_⟩;rintro _ ak ⟨rfl,x⟩;rw[Y];refine⟨_,_,_,_,_,_,_,_,_,_,rfl,ey _ (Vm.out x) rfl (λG i=>⟨z,rfl,?_⟩)⟩;have i:Sep E (bD z pg.vs::Vm A v r S ps ([bD c (dc o v sp out q),bw q 1 (bC out.bE),bD q2 [.bool a.isSome],bD m (lX a),bD t [Pb c]]++L)) G:=i;exact Vm.pL (jo (l₁:=[_,_,_,_,_])).symm (Vm.eK i)
 rintro _ _ aF ⟨z,rfl,l⟩;refine⟨λb w'=>b=(a.isSome&&decide (pg.refs<=1))/\w'=aF,⟨a.isSome,Vm.cell l 2 rfl 0,cy (λhe=>⟨pg.refs,Vm.cell l 5 rfl 5,by rw[he];rfl,rfl⟩) (λhe=>⟨by rw[he];rfl,rfl⟩)⟩,?_⟩;rintro _ _ _ ⟨rfl,rfl⟩;refine cy (λM=>?_) (λM=>?_)
 ·cases a with
  |none=>cases M
  |some e=>
  have M:decide (pg.refs<=1)=true:=by simpa using M
  have T:d=e.id:=by simp only[lX,En.vs,List.cons.injEq,Value.int.injEq]at u;exact u.2.1.2.symm
  have R:Vs.own ⟨S,plain ps⟩ o.a bL s out=Vs.bY ⟨S,plain ps⟩ o.a e.id out:=by
   unfold Vs.own;rw[af];dsimp only;rw[<- T,Y,bK (kA M)]
  rw[R]at hK;refine⟨some ⟨c,0,none⟩,Vm.cell l 4 rfl 0,d,J l,use (S8 (id:=d) ab hn hb ao an hk am aq hp l) ?_⟩;rintro _ ak ae;have ae:=lk.cut ae;obtain⟨y,b,rfl⟩:=ae.dW;rw[T]at ae;exact⟨_,_,rfl,by rw[hK];exact ae⟩
 ·obtain⟨f,hf⟩:∃f:Cs->Int->Cs×Int×Int×Int,f= λS g=>if a.isSome then S.copy d g else S.fresh g:=⟨_,rfl⟩
  have hr:∀(S:Cs) (g:Int),cw 1 S (f S g).1:=λS g=>by rw[hf];dsimp only;split;exact cw.copy _ _;exact cw.fresh _
  have au:∀(S:Cs) (g:Int),Kc.Inv S->S.bt.next<16777216->(f S g).2.2.2=0->0<=(f S g).2.1/\(f S g).2.1<16777216:=by
   intro S g ao hn he;rw[hf]at he ⊢;dsimp only at he ⊢;split at he;·next ah=>rw[bK ah];exact S4 ao hn he
   ·next ah=>rw[bJ ah];exact S3 ao hn he
  have R:Vs.own ⟨S,plain ps⟩ o.a bL s out=(let r:=Vs.dW ⟨S,plain ps⟩ f o.a out;match r.2.2 with
    |some id=>(let V1:=r.1.enter o.a bL id 1 true;((if a.isSome then {V1 with core:=(V1.core.bP d (-1)).1} else V1),r.2))
    |none=>r):=by
   unfold Vs.own;rw[af];cases a with
   |some e=>
    have T:d=e.id:=by simp only[lX,En.vs,List.cons.injEq,Value.int.injEq]at u;exact u.2.1.2.symm
    have M:decide (pg.refs<=1)=false:=by simpa using M
    dsimp only;rw[<- T,Y,bJ (kj M),hf];rfl
   |none=>rw[hf];rfl
  rw[R]at hK;refine⟨some ⟨c,0,none⟩,Vm.cell l 4 rfl 0,use (Gh (fv:=.func (.func C5) #[] #[Pb q2,Pb t,Pb m]) (f:=f) (λS' cN out' j ap w' ax aM h'=>⟨_,_,rfl,by kernel_rfl,?_⟩) hr ab hn hb ao an hk am aq hp l) ?_⟩
  ·show Calls P C5 #[Iv ap,Pb q2,Pb t,Pb m] w' _;apply awG;unfold OZ qL qZ qb qm zX;rw[hf];dsimp only;refine⟨a.isSome,Vm.cell h' 2 rfl 0,cy (λhe=>Dr.i h' (λak x=>⟨some ⟨c,0,none⟩,Vm.cell x 4 rfl 0,_,rfl,some ⟨v,0,none⟩,Vm.cell x 0 rfl 5,_,rfl,some ⟨A.c,0,none⟩,x.cellAt 16 rfl 0,d,J x,use (aLf (id:=d) (g:=ap) ax x) ?_⟩)) (λhe=>⟨some ⟨c,0,none⟩,Vm.cell h' 4 rfl 0,_,rfl,some ⟨v,0,none⟩,Vm.cell h' 0 rfl 5,_,rfl,some ⟨A.c,0,none⟩,h'.cellAt 16 rfl 0,use (aJ4 (g:=ap) ax h') ?_⟩)⟩
   ·rintro _ G ⟨rfl,i⟩;rw[bK he];exact⟨_,_,_,rfl,rfl,i⟩
   ·rintro _ G ⟨rfl,i⟩;rw[bJ (by rw[he];decide)];exact⟨_,_,_,rfl,rfl,i⟩
  rintro y ak ⟨aj,cN,j,H,C,U,i⟩;have W:=Gj hr aq (out:=out) rfl H C hp;have Z:=Gk (S:=S) hr hb o.a out;have aC:=(wX (pid:=o.a) hr ((plain ps).length+1) ⟨S,plain ps⟩ out).1;have D:=aC.inv ao (by rw[kx];show S.bt.next+((ps.length+1:Nat):Int)<=_;omega);have eD:=Gi (pid:=o.a) hr au ((plain ps).length+1) ⟨S,plain ps⟩ out;have aH:fH f o.a ((plain ps).length+1) ⟨S,plain ps⟩ out=Vs.dW ⟨S,plain ps⟩ f o.a out:=rfl;rw[aH]at D eD;dsimp only at hK;generalize Vs.dW ⟨S,plain ps⟩ f o.a out=Q at aj C U i W D eD Z hK;cases N:Q.2.2 with
  |none=>
   rw[N]at aj hK;subst aj;refine⟨_,_,rfl,λw'=>Sep E (Vm A v r Q.1.core cN (bD c (dc o v sp Q.2.1 j)::bw j 1 (bC Q.2.1.bE)::([bD q2 [.bool a.isSome],bD m (lX a),bD t [Pb c],bD z pg.vs]++L))) w',bF rfl i,?_⟩;rintro _ G i;refine⟨λb w'=>b=false/\w'=G,bF rfl ⟨rfl,rfl⟩,?_⟩;rintro _ _ _ ⟨rfl,rfl⟩;refine bF rfl ?_;rw[hK];exact⟨by dsimp only;rw[N];rfl,Z,cN,j,ab.less H,H.len,C,U,(λe=>by dsimp only at e;rw[N]at e;cases e),(mj [_,_,_,_] i).right⟩
  |some id=>
   rw[N]at aj hK;subst aj;have av:=eD id ao (by rw[kx];show S.bt.next+((ps.length+1:Nat):Int)<=_;omega) N;have X:=W (by rw[N];rfl);have aD:Vs.space Q.1 o.a=some s:=by
    have B:=iZ X;rw[C]at B;have:=(iY (V:=Q.1) B).1;rwa[show((o.a.toNat:Nat):Int)=o.a by omega]at this
   have aA:Vs.group Q.1 o.a=g:=by
    have B:=iZ X;rw[C]at B;have:=(iY (V:=Q.1) B).2;rwa[show((o.a.toNat:Nat):Int)=o.a by omega]at this
   have az:=((cw.bP (S:=Q.1.core) id 1).inv D.1 (by have:=D.1.ids;omega)).1;have ag:=S7 (V:=Q.1) (pid:=o.a) (p:=bL) (id:=id) (k:=1) (wr:=true) aD;rw[aA]at ag;dsimp only at hK;rw[ag]at hK;refine⟨_,_,rfl,λw'=>Sep E (Vm A v r (Q.1.core.bP id 1).1 (cN.set o.a.toNat (g,some (sp,s.enter bL id 1 true))) (bD c (dc o v sp Q.2.1 j)::bw j 1 (bC Q.2.1.bE)::([bD q2 [.bool a.isSome],bD m (lX a),bD t [Pb c],bD z pg.vs]++L))) w',bT rfl ⟨some ⟨c,0,none⟩,Vm.cell i 4 rfl 0,use (S6 (k:=1) (bL:=bL) (id:=id) (wr:=true) (.inl rfl) av aa D.1 X i) ?_⟩,?_⟩
   ·rintro _ G ⟨rfl,I⟩;exact⟨rfl,I⟩
   rintro _ G I;refine⟨λb w'=>b=a.isSome/\w'=G,bT rfl ⟨a.isSome,Vm.cell I 2 rfl 0,rfl,rfl⟩,?_⟩;rintro _ _ _ ⟨rfl,rfl⟩;have hlen:(cN.set o.a.toNat (g,some (sp,s.enter bL id 1 true))).length=ps.length:=by rw[eh];exact H.len
   have ai:(cN.set o.a.toNat (g,some (sp,s.enter bL id 1 true)))[o.a.toNat]?=some (g,some (sp,s.enter bL id 1 true)):=jm (c2.1 X).1;refine cy (λhe=>Dr.i I (λaP B=>⟨some ⟨c,0,none⟩,Vm.cell B 4 rfl 0,_,rfl,some ⟨v,0,none⟩,Vm.cell B 0 rfl 5,_,rfl,some ⟨A.c,0,none⟩,B.cellAt 16 rfl 0,d,J B,use (AH (id:=d) (n:= -1) az B) ?_⟩)) (λhe=>?_)
   ·rintro _ aJ ⟨rfl,ar⟩;have ar:Sep E (Vm A v r ((Q.1.core.bP id 1).1.bP d (-1)).1 (cN.set o.a.toNat (g,some (sp,s.enter bL id 1 true))) (bD c (dc o v sp Q.2.1 j)::bw j 1 (bC Q.2.1.bE)::([bD q2 [.bool a.isSome],bD m (lX a),bD t [Pb c],bD z pg.vs]++L))) aJ:=ar;rw[bK he]at hK;rw[hK];exact⟨_,rfl,Ta N ((Z.trans (cw.bP id 1)).trans (cw.bP d (-1))) ((ab.less H).set (aa.enter (.inl rfl))) hlen (by rw[ra,C]) U ai (mj [_,_,_,_] ar).right⟩
   ·rw[bJ (by rw[he];decide)]at hK;rw[hK];exact Ta N (Z.trans (cw.bP id 1)) ((ab.less H).set (aa.enter (.inl rfl))) hlen (by rw[ra,C]) U ai (mj [_,_,_,_] I).right
end Go.Mp
