/- Part of a proof about the core: of its walks and plain laws. -/
import Derived.Test.YtafigbgagbolgaaGreatDoorC13
set_option linter.all false
set_option maxRecDepth 100000
open Go.IntKind(i64 u64)
namespace Go.Mp
open Go Go.Vc Go.Sp Go.Proofs Go.Kc
variable{E:Env}{L:ch}{w:World}{A:At}{S:Cs}
def aG1(h:Sep E L w):Calls P Co #[] w (bW λv w'=>∃t,v=Pb t/\Sep E (dT t Kt.new::L) w'):=by
 apply Wk;unfold KZ;refine Al.i h (λa f h1=>Al.i h1 (λb w2 d=>⟨b,rfl,dT.mk (s:=⟨some ⟨a,0,none⟩,1,1⟩) rfl ?_⟩));have e:Sep E (bE a ([Iv (-1),.bool true]++[])::bE b [.slice (some ⟨a,0,none⟩) 1 1]::L) w2:=d.swap;exact(bC.make (spare:=[]) (n:=1) (c:=1) (m:=2) e rfl rfl (dN _)).swap
def pj(v:Value)(s:eJ):Asn:=e8 λp:Nat=>e8 λb:Nat=>e8 λu:Nat=>cC (v=.agg #[Pb p,Pb b,Pb u]) (star (fY p s.bK) (star (ga b s.bK.length s.cG) (c6 u s.used)))
def R9(n:Int)(h:Sep E L w):Calls P vx #[Iv n] w (bW λv w'=>wP v/\Sep E (pj v (gv n)::L) w'):=by
 apply Wl;unfold K0 qP qR qU;refine Al.i h (λq k h1=>use (ZJ n h1) ?_);rintro _ w2 ⟨p,rfl,d⟩;refine⟨_,rfl,use (aDR n d) ?_⟩;rintro _ l ⟨b,rfl,f⟩;refine⟨_,rfl,use (aBN f) ?_⟩;rintro _ m ⟨u,rfl,g⟩;refine⟨_,rfl,eh (vs:=[Pb p,Pb b,Pb u]) _ (g.fr 3 rfl) rfl (λc a=>?_)⟩;refine ld a 0 rfl rfl rfl (ld a 0 rfl rfl rfl (ld a 0 rfl rfl rfl ⟨⟨_,_,_,rfl⟩,?_⟩));have i:Sep E (fY p (iu n)::ga b (min (max n 0).toNat 1024) (List.replicate (16*min (max n 0).toNat 1024) 0)::c6 u j4::L) c:=a.tail.ro 3 [2,1,0] rfl;refine Sep.ex.2 ⟨p,Sep.ex.2 ⟨b,Sep.ex.2 ⟨u,Sep.cC.2 ⟨rfl,Sep.star.2 ?_⟩⟩⟩⟩;have e:(iu n).length=min (max n 0).toNat 1024:=by simp[iu]
 have j:Sep E (star (ga b (min (max n 0).toNat 1024) (List.replicate (16*min (max n 0).toNat 1024) 0)) (c6 u j4)::fY p (iu n)::L) c:=Sep.star.2 (i.ro 3 [1,2,0] rfl);rw[show(gv n).bK.length=min (max n 0).toNat 1024 from e];exact j.swap
def gz(f:Nat->Asn)(v:Value):Asn:=e8 λb:Nat=>cC (v=Pb b) (f b)
def FM(fr sl:Int)(l:bU):Nat->Value->ch
 |0,v=>[gz (λt=>dT t Kt.new) v]
 |1,v=>[pj v (gv fr)]
 |2,v=>[pj v (gv sl)]
 |3,v=>[gz (λb=>ic b (gL l)) v]
 |4,v=>[gz (λb=>Gp.fh b []) v]
 |5,v=>[gz (λb=>fE b (List.replicate 64 0)) v]
 |6,v=>[gz (λb=>Tp.c0 b TS.zero) v]
 |7,v=>[e8 λm:Nat=>cC (v=.map (some m)) (nL m (λ_=>none))]
 |8,v=>[e8 λs:Sl=>cC (v=Sv s) (iA s [⟨0,0,false⟩])]
 |9,v=>[e8 λs:Sl=>cC (v=Sv s) (jb s Kt.new)]
 |_,_=>[]
def parts{fr sl:Int}{sz:Sl}{l:bU}(d:Ints E L sz l)(a:sz.n<=sz.c):qn E L fr sl sz (FM fr sl l) where
 tree:=λh=>use (aG1 h) (by rintro _ w' ⟨t,rfl,h'⟩;exact⟨_,rfl,⟨_,rfl⟩,Sep.ex.2 ⟨t,Sep.cC.2 ⟨rfl,h'⟩⟩⟩)
 bN:=λh=>R9 fr h
 bR:=λh=>R9 sl h
 files:=λ{R w} h=>use (aFD (d.of (λ_ f=>Sep.right (Q:=R) f)) a h) (by rintro _ w' ⟨t,rfl,h'⟩;exact⟨_,rfl,⟨_,rfl⟩,Sep.ex.2 ⟨t,Sep.cC.2 ⟨rfl,h'⟩⟩⟩)
 bY:=λh=>use (Gp.wy h) (by rintro _ w' ⟨t,rfl,h'⟩;exact⟨_,rfl,⟨_,rfl⟩,Sep.ex.2 ⟨t,Sep.cC.2 ⟨rfl,h'⟩⟩⟩)
 log:=λh=>use (aDT h) (by rintro _ w' ⟨t,rfl,h'⟩;exact⟨_,rfl,⟨_,rfl⟩,Sep.ex.2 ⟨t,Sep.cC.2 ⟨rfl,h'⟩⟩⟩)
 bz:=λh=>use (Tp.wy h) (by rintro _ w' ⟨t,rfl,h'⟩;exact⟨_,rfl,⟨_,rfl⟩,Sep.ex.2 ⟨t,Sep.cC.2 ⟨rfl,h'⟩⟩⟩)
 kept:=λ{L w b} h=>Sep.ex.2 ⟨b,Sep.cC.2 ⟨rfl,Sep.cC.2 ⟨λ_ _ e=>(by cases e),h⟩⟩⟩
 guards:=λ{L w b} h=>Sep.ex.2 ⟨⟨some ⟨b,0,none⟩,1,1⟩,Sep.cC.2 ⟨rfl,Sep.cC.2 ⟨rfl,bC.make (spare:=[]) (n:=1) (c:=1) (m:=3) h rfl rfl (dN _)⟩⟩⟩
 up:=λ{L w b} h=>Sep.ex.2 ⟨⟨some ⟨b,0,none⟩,1,1⟩,Sep.cC.2 ⟨rfl,Sep.cC.2 ⟨rfl,bC.make (spare:=[]) (n:=1) (c:=1) (m:=1) h rfl rfl (dN _)⟩⟩⟩
def gz.open{f:Nat->Asn}{v:Value}(h:Sep E (gz f v::L) w):∃b,v=Pb b/\Sep E (f b::L) w:=by
 obtain⟨b,h⟩:=Sep.ex.1 h;obtain⟨a,h⟩:=Sep.cC.1 h;exact⟨b,a,h⟩
def pj.open{s:eJ}{v:Value}(h:Sep E (pj v s::L) w):∃p b u,v=.agg #[Pb p,Pb b,Pb u]/\Sep E (fY p s.bK::ga b s.bK.length s.cG::c6 u s.used::L) w:=by
 obtain⟨p,h⟩:=Sep.ex.1 h;obtain⟨b,h⟩:=Sep.ex.1 h;obtain⟨u,h⟩:=Sep.ex.1 h;obtain⟨c,h⟩:=Sep.cC.1 h;have h1:=Sep.star.1 h;have a:=Sep.star.1 (h1.fr 1 rfl);exact⟨p,b,u,c,a.ro 3 [2,0,1] rfl⟩
def Sa{s s':Sl}(h:Value.slice s.p s.n s.c=.slice s'.p s'.n s'.c):s=s':=by
 obtain⟨a,b,c⟩:=s;obtain⟨d,e,f⟩:=s';injection h with h1 g i
 simp only at h1 g i;rw[h1,g,i]
def wy{fr sl:Int}{sz:Sl}{l:bU}{o:Array Obj}(U:Ints E (cy o::L) sz l)(q:sz.n<=sz.c)(h:Sep E (cy o::L) w):Calls P Cm #[Iv fr,Iv sl,Sv sz] w
  (bW λv w'=>∃A:At,v=Pb A.c/\A.o=o/\Sep E (cd A (Kc.new fr sl l)++L) w'):=by
 refine use (aFB (parts U q) h) ?_;rintro _ K ⟨b,t,B,b1,D,C,b2,F,f,g,lg,pg,m,gs,up,rfl,h1⟩;have h1:Sep E (bE b (wN t B b1 D C b2 F f g lg pg m gs up)::gz (λt=>dT t Kt.new) (.pointer t)::pj (.agg #[.pointer B,.pointer b1,.pointer D]) (gv fr)::pj (.agg #[.pointer C,.pointer b2,.pointer F]) (gv sl)::
  gz (λb=>ic b (gL l)) (.pointer f)::gz (λb=>Gp.fh b []) (.pointer g)::gz (λb=>fE b (List.replicate 64 0)) (.pointer lg)::gz (λb=>Tp.c0 b TS.zero) (.pointer pg)::
  (e8 λc:Nat=>cC ((.map m:Value)=.map (some c)) (nL c (λ_=>none)))::(e8 λs:Sl=>cC ((Sv gs:Value)=Sv s) (iA s [⟨0,0,false⟩]))::(e8 λs:Sl=>cC ((Sv up:Value)=Sv s) (jb s Kt.new))::cy o::L) K:=h1
 obtain⟨x,W,M⟩:=gz.open (h1.fr 1 rfl);obtain⟨r,u,y,G,N⟩:=pj.open (M.fr 2 rfl);obtain⟨p2,q2,z,H,O⟩:=pj.open (N.fr 5 rfl);obtain⟨f',hf,Q⟩:=gz.open (O.fr 8 rfl);obtain⟨n,V,R⟩:=gz.open (Q.fr 9 rfl);obtain⟨j,I,S⟩:=gz.open (R.fr 10 rfl);obtain⟨k,J,T⟩:=gz.open (S.fr 11 rfl);obtain⟨c,p⟩:=Sep.ex.1 (T.fr 12 rfl);obtain⟨hm,p⟩:=Sep.cC.1 p;obtain⟨X,d⟩:=Sep.ex.1 (p.fr 13 rfl);obtain⟨e,d⟩:=Sep.cC.1 d;obtain⟨Y,a⟩:=Sep.ex.1 (d.fr 14 rfl);obtain⟨i,a⟩:=Sep.cC.1 a;have e:=Sa e;have i:=Sa i;cases W;cases hf;cases V;cases I;cases J;cases hm;simp only[Value.agg.injEq,Array.mk.injEq,List.cons.injEq,Value.pointer.injEq,and_true]at G H;obtain⟨rfl,rfl,rfl⟩:=G;obtain⟨rfl,rfl,rfl⟩:=H;subst e i;refine⟨_,rfl,⟨b,x,r,u,y,p2,q2,z,f',n,j,k,c,gs,up,o⟩,rfl,rfl,?_⟩;have a:Sep E (jb up Kt.new::iA gs [⟨0,0,false⟩]::nL c (λ_=>none)::Tp.c0 k TS.zero::fE j (List.replicate 64 0)::Gp.fh n []::ic f' (gL l)::fY p2 (gv sl).bK::ga q2 (gv sl).bK.length (gv sl).cG::c6 z (gv sl).used::
  fY r (gv fr).bK::ga u (gv fr).bK.length (gv fr).cG::c6 y (gv fr).used::dT x Kt.new::bE b (wN (some ⟨x,0,none⟩) (some ⟨r,0,none⟩) (some ⟨u,0,none⟩) (some ⟨y,0,none⟩) (some ⟨p2,0,none⟩) (some ⟨q2,0,none⟩) (some ⟨z,0,none⟩) (some ⟨f',0,none⟩) (some ⟨n,0,none⟩) (some ⟨j,0,none⟩) (some ⟨k,0,none⟩) (some c) gs up)::cy o::L) K:=a
 exact a.ro 16 [14,13,10,11,12,7,8,9,6,5,4,3,2,1,0,15] rfl
def Sb:g9 P lE=some (1,1,[.bool false]):=by kernel_rfl
def aGA{s:Sl}{q:Nat}{l:List Bool}{x:Bool}(b:s.n=l.length)(k:l.length<1000000)(h:Sep E (bE q [.bool x]::bC s 1 (ea l)::L) w){G:Sl->bh6}(g:∀s' a,s'.n=l.length+1->Sep E (bC s' 1 (ea (l++[x]))::L) a->G s' a):
  ∃f:Sl,∃a,Sem.run P (Builtin.append_ #[lE,lE] lE #[Sv s,.slice (some ⟨q,0,none⟩) 1 1]) w=.ok (Sv f) a/\G f a:=by
 have j:=Src.bE (n:=1) (c:=1) h (i:=0) rfl Sb rfl (λu hu=>by simp at hu;rw[hu];rfl);have e:ea (l++[x])=ea l++[.bool x]:=by simp[ea]
 refine bC.append h.swap Sb rfl j bA (by rw[b];omega) (λs' a d h1=>?_);refine g s' a (by rw[d,b]) ?_;rw[e];exact(h1.fr 0 rfl).ro 2 [0] rfl
def aKt(r:Kc.Inv S)(h:Sep E (cd A S++L) w):Calls P Ka #[Pb A.c] w
  (bW λv w'=>∃s:Sl,v=Sv s/\s.n=S.guards.length/\Sep E (cd A S++bC s 1 (ea (S.guards.map eH.whole))::L) w'):=by
 have o:S.guards.length<=64:=by rw[r.gl];exact r.wf.fq
 apply YJ;unfold M0 qK qU qW qa qf qx qy;have g:=(iA.open (h.fr 13 rfl)).1;refine⟨_,rfl,A.gs,h.cellAt 0 rfl 12,?_⟩;refine⟨λs i w'=>∃k:Nat,i=k/\k<=S.guards.length/\s.n=k/\Sep E (cd A S++bC s 1 (ea ((S.guards.take k).map eH.whole))::L) w',λ_ i _=>(S.guards.length-i).toNat,⟨0,rfl,ec _,rfl,Sep.eA (bC.none_ h)⟩,?_⟩;rintro _ s _ B ⟨k,rfl,z,l,h1⟩;refine cL (λu=>?_) (λt=>?_)
 ·have a:k<S.guards.length:=by omega
  obtain⟨x,hx⟩:∃x,S.guards[k]?=some x:=⟨_,dD a⟩
  refine kZ eH.lJ 0 (iA.open (h1.fr 13 rfl)).2 rfl g rfl hx (λb _ d=>⟨x.min,by rw[cj];exact d 0 _ rfl,x.low,by rw[cj];exact d 1 _ rfl,x.whole,by rw[cj];exact d 2 _ rfl,?_⟩);refine Al.i h1 (λy w2 m=>eh (vs:=eH.vs x) _ m rfl (λC f=>ld f 0 rfl rfl rfl (Al.i f.tail (λq p c=>?_))));have c:Sep E (bE q [.bool x.whole]::bC s 1 (ea ((S.guards.take k).map eH.whole))::(cd A S++L)) p:=(c.fr 17 rfl).swap;refine aGA (by simp;omega) (by simp;omega) c (λs' D j n=>?_);have e:(S.guards.take (k+1)).map eH.whole=(S.guards.take k).map eH.whole++[x.whole]:=by rw[fw hx,jV];rfl
  rw[c1];refine⟨⟨k+1,rfl,a,by rw[j];simp;omega,by rw[e];exact Sep.eA (Q:=cd A S) n⟩,?_⟩;show(((S.guards.length:Nat):Int)-((k+1:Nat):Int)).toNat<(((S.guards.length:Nat):Int)-(k:Int)).toNat;omega
 ·have:k=S.guards.length:=by omega
  subst this;rw[fN]at h1;exact⟨s,rfl,l,h1⟩
end Go.Mp
namespace Go.Kw
def Pr.vs(x:Pr):List Value:=[Iv x.g,Iv x.size,.bool x.live]
def Pr.lJ(x:Pr):x.vs.length=3:=rfl
def FN(v:Int):∀l:bU,j9 v l<=l.length
 |[]=>dN _
 |x::r=>by unfold j9;have:=FN v r;split<;>simp;omega
def Sc{v:Int}:∀ {l:bU} {k:Nat},l[k]?=some v->(∀j y,j<k->l[j]?=some y->v≠y)->j9 v l=k
 |y::r,0,h,_=>by simp at h;subst h;unfold j9;rw[bM rfl]
 |y::r,k+1,h,a=>by
  unfold j9;rw[bJ (a 0 y bA rfl),Sc (l:=r) (k:=k) (by simpa using h) λj z c b=>a (j+1) z bA (by simpa using b)]
def Sd{v:Int}:∀ {l:bU},(∀(j:Nat) y,l[j]?=some y->v≠y)->j9 v l=l.length
 |[],_=>rfl
 |y::r,h=>by
  unfold j9;rw[bJ (h 0 y rfl),Sd (l:=r) λj z a=>h (j+1) z (by simpa using a)];rfl
end Go.Kw
namespace Go.Mp
open Go Go.Vc Go.Sp Go.Proofs Go.Kc Go.Kv Go.Kw Go.Kt
variable{E:Env}{L:ch}{w W:World}
def Se{s:Sl}{l:bU}(c:Ints E L s l)(o:l.length<1000000)(v:Int)(h:Sep E L w):Calls P vG #[Sv s,Iv v] w (bW λr w'=>r=Iv (if j9 v l<l.length then(j9 v l:Int)else -1)/\Sep E L w'):=by
 have q:=c.1;apply D5;unfold y6 qD qO qW;refine⟨λi w'=>∃k:Nat,i=k/\k<=l.length/\(∀j y,j<k->l[j]?=some y->v≠y)/\Sep E L w',λi _=>(l.length-i).toNat,⟨0,rfl,ec _,λj y d=>absurd d bA,h⟩,?_⟩;rintro _ _ t ⟨k,rfl,p,a,h1⟩;refine cL (λn=>?_) (λm=>?_)
 ·obtain⟨x,hx⟩:∃x,l[k]?=some x:=⟨_,dL⟩
  refine c.el h1 k rfl hx (eD (λhe=>⟨?_,h1⟩) (λg=>⟨⟨k+1,c1,bA,λj y d b=>?_,h1⟩,?_⟩))
  ·subst he;rw[Sc hx a,eG]
  ·rcases gS j k with e|e;·exact a j y e b
   ·have:j=k:=by omega
    subst this;rw[hx]at b;cases b;exact g
  ·rw[c1];dsimp only;omega
 ·have f:k=l.length:=by omega
  subst f;refine⟨?_,h1⟩;rw[Sd λj y b=>a j y (cT.1 b).1 b,cM]
def FO{s:Sl}{l:bU}(a:Ints E L s l)(b:l.length<1000000)(v:Int)(h:Sep E L w):Calls P pW #[Sv s,Iv v] w (bW λr w'=>r=.bool (l.contains v)/\Sep E L w'):=by
 apply D1;unfold y5 qQ;refine use (Se a b v h) ?_;rintro _ f ⟨rfl,h1⟩;refine⟨_,rfl,?_,h1⟩;have hle:=FN v l;have key:∀l:bU,(j9 v l<l.length)↔v∈l:=by
  intro l;induction l with
  |nil=>simp[j9]
  |cons x r d=>
   unfold j9;by_cases e:v=x;·simp[e]
   ·simp[e,d]
 by_cases hm:v∈l
 ·rw[bM ((key l).2 hm),kI.2 hm];exact eO Value.bool (dh bA)
 ·rw[bJ λe=>hm ((key l).1 e)];have:l.contains v=false:=by cases c:l.contains v with|false=>rfl|true=>exact absurd (kI.1 c) hm
  rw[this];rfl
def jd(s:Sl)(l:List Pr):Asn:=bC s 3 (bQ Pr.vs l)
def wQ{s:Sl}{l:List Pr}{i:Int}{k:Nat}{x:Pr}{F:Addr->Int->Int->Bool->Prop}(q:Nat)(h:Sep E L w)(m:L[q]?=some (jd s l))(j:s.n=l.length)(g:i=k)(hx:l[k]?=some x)(n:∀a,F a x.g x.size x.live):
  cx s.p s.n i 3 λa=>∃d:Int,w.cell? (a.add 0)=some (Iv d)/\∃e:Int,w.cell? (a.add 1)=some (Iv e)/\∃f:Bool,w.cell? (a.add 2)=some (.bool f)/\F a d e f:=
 kZ Pr.lJ q h m j g hx (λb _ c=>⟨_,by rw[cj];exact c 0 _ rfl,_,by rw[cj];exact c 1 _ rfl,_,by rw[cj];exact c 2 _ rfl,n _⟩)
def aLG{s i:Sl}{l:List Pr}{ins:bU}{q:Nat}(I:L[q]?=some (jd s l))(H:s.n=l.length)(R:l.length<1000000)(F:Ints E L i ins)(u:ins.length<1000000)(h:Sep E L w):
  Calls P Kl #[Sv s,Sv i] w (bW λv w'=>v=Iv (pick l ins)/\Sep E L w'):=by
 apply azy;unfold OY qC qF qI qL qU qW qa zz;refine Al.i h (λd T h1=>Al.i h1 (λf w2 B=>St.i B (by show 0<1;decide) (λJ o=>?_)));have o:Sep E (bE f [Iv 0]::bE d [Sv i]::L) J:=o;refine⟨λa x w'=>∃(k:Nat) (m:Int),x=k/\k<=l.length/\mR ins k (a,m) (l.drop k)=mR ins 0 (-1,0) l/\Sep E (bE f [Iv m]::bE d [Sv i]::L) w',λ_ x _=>(l.length-x).toNat,⟨0,0,rfl,ec _,rfl,o⟩,?_⟩;rintro _ a _ U ⟨k,m,rfl,S,he,p⟩;refine cL (λQ=>?_) (λO=>?_)
 ·obtain⟨x,hx⟩:∃x,l[k]?=some x:=⟨_,dL⟩
  have G:l.drop k=x::l.drop (k+1):=by
   have n:=(cT.1 hx).1;rw[ln n];rw[dD n]at hx;rw[cQ hx]
  rw[G]at he;simp only[mR]at he;refine wQ (q+2) p I H rfl hx (λ_=>Al.i p (λr V C=>eh _ C rfl (λM c=>?_)));have c:Sep E (bE r x.vs::bE f [Iv m]::bE d [Sv i]::L) M:=c;refine ld c 0 rfl rfl rfl (ld c 0 rfl rfl rfl (ld c 0 rfl rfl rfl (use (K:=λv w'=>v=.bool (decide (x.live=true/\m<x.size/\ins.contains x.g=true))/\Sep E (bE r x.vs::bE f [Iv m]::bE d [Sv i]::L) w') ?_ ?_)))
  ·apply aw1;unfold O6 qD qF qL qc qy;refine Al.i c (λz A b=>?_);have b:Sep E (bE z x.vs::bE r x.vs::bE f [Iv m]::bE d [Sv i]::L) A:=b;refine ld b 0 rfl rfl rfl (cw (λt=>ld b 0 rfl rfl rfl (ld b 2 rfl rfl rfl (eW (λy=>⟨i,b.cellAt 3 rfl 0,ld b 0 rfl rfl rfl (use (FO F.cons.cons.cons.cons u x.g b) ?_)⟩) (λy=>⟨?_,b.tail⟩)))) (λt=>⟨?_,b.tail⟩))
   ·rintro _ N ⟨rfl,g⟩;refine⟨_,rfl,?_,g.tail⟩;congr 1;cases j:ins.contains x.g with
    |true=>rw[dh ⟨t,y,rfl⟩]
    |false=>rw[c4 λe=>by cases e.2.2]
   ·rw[c4 λe=>bA]
   ·rw[c4 λe=>by rw[t]at e;cases e.1]
  ·rintro _ A ⟨rfl,b⟩;refine⟨_,rfl,cw (λj=>Dr.i b (λN g=>ld g 0 rfl rfl rfl ?_)) (λj=>⟨⟨k+1,m,c1,bA,?_,b.tail⟩,?_⟩)⟩
   ·refine St.i (g.ro 3 [1,0,2] rfl) (by show 0<1;decide) (λW D=>⟨⟨k+1,x.size,c1,bA,?_,D.ro 3 [0,2] rfl⟩,?_⟩);·rw[bM (jL j)]at he;exact he
    ·rw[c1];dsimp only;omega
   ·rw[bJ (jo j)]at he;exact he
   ·rw[c1];dsimp only;omega
 ·have:k=l.length:=by omega
  subst this;rw[xy]at he;refine⟨?_,p.tail.tail⟩;unfold pick;rw[<- he];rfl
def aIJ{s wl:Sl}{a:bU}{wh:List Bool}{q:Nat}(o:Ints E L s a)(z:a.length<1000000)(B:L[q]?=some (bC wl 1 (ea wh)))(G:wl.n=wh.length)(t:Int)(h:Sep E L w):
  Calls P Km #[Sv s,Iv t,Sv wl] w (bW λv w'=>v=Iv (whole a t wh)/\Sep E L w'):=by
 apply ayq;unfold O5 qD qF qO qQ qW;refine Al.i h (λp H h1=>use (Se o.cons z t h1) ?_);rintro _ w2 ⟨rfl,u⟩;refine⟨_,rfl,λx w'=>∃k:Nat,x=(k:Int)-1/\k<=a.length/\x3 a wh k=whole a t wh/\Sep E (bE p [Sv wl]::L) w',λx _=>(x+1).toNat,?_,?_⟩
 ·have hle:=FN t a;by_cases i:j9 t a<a.length;·exact⟨j9 t a+1,by rw[bM i];omega,bA,by unfold whole;rw[bM i],u⟩
  ·exact⟨0,by rw[bJ i];rfl,bA,by unfold whole;rw[bJ i];rfl,u⟩
 rintro _ _ I ⟨k,rfl,F,he,d⟩;refine hk (λC=>?_) (λD=>?_)
 ·obtain⟨j,rfl⟩:∃j,k=j+1:=⟨k-1,bA⟩
  have A:((j+1:Nat):Int)-1=(j:Int):=by omega
  rw[A];obtain⟨g,r⟩:∃g,a[j]?=some g:=⟨_,dL⟩
  have y:a.getD j 0=g:=by rw[dK,r];rfl
  simp only[x3,y]at he;refine o.cons.el d j rfl r (use (K:=λv w'=>v=.bool (decide (0<=g/\wh.getD g.toNat false=true))/\Sep E (bE p [Sv wl]::L) w') ?_ ?_)
  ·apply avI;unfold O7 qW qc qm;refine hN (λm=>⟨wl,d.cell 0,cL (λh1=>⟨wl,d.cell 0,?_⟩) (λh1=>⟨?_,d⟩)⟩) (λm=>⟨?_,d⟩)
   ·obtain⟨b,l⟩:∃b,wh[g.toNat]?=some b:=⟨_,dL⟩
    refine bC.el (q+1) d B m h1 (λc _ f=>⟨b,?_,?_,d⟩)
    ·have:=f 0 bA;rw[lu]at this;rw[this,fC];simp[ea,l]
    ·rw[dK,l];cases b with
     |true=>rw[dh ⟨m,rfl⟩]
     |false=>rw[c4 λe=>by cases e.2]
   ·rw[c4 λe=>by
     have:=e.2;rw[dK,fH bA]at this;cases this]
   ·rw[c4 λe=>bA]
  ·rintro _ J ⟨rfl,n⟩;refine⟨_,rfl,cw (λf=>o.cons.el n j rfl r ⟨?_,n.tail⟩) (λf=>⟨⟨j,?_,bA,?_,n⟩,?_⟩)⟩;·rw[bM (jL f)]at he;rw[he]
   ·exact cH bA bA
   ·rw[bJ (jo f)]at he;exact he
   ·rw[cH bA bA];dsimp only;omega
 ·have:k=0:=by omega
  subst this;exact⟨by rw[<- he];rfl,d.tail⟩
end Go.Mp
namespace Go.Kw
def FP:∀ {l:List Pr} {ins:bU} {i a m:Int},(mR ins i (a,m) l).1=a\/(i<=(mR ins i (a,m) l).1/\(mR ins i (a,m) l).1<i+l.length)
 |[],_,_,_,_=>.inl rfl
 |p::r,ins,i,a,m=>by
  unfold mR;split
  ·rcases FP (l:=r) (ins:=ins) (i:=i+1) (a:=i) (m:=p.size)with h|h;·right;simp only[hS];omega
   ·right;simp only[hS];omega
  ·rcases FP (l:=r) (ins:=ins) (i:=i+1) (a:=a) (m:=m)with h|h;·exact .inl h
   ·right;simp only[hS];omega
def aK7{l:List Pr}{ins:bU}(h:0<=pick l ins):pick l ins<l.length:=by
 unfold pick at h ⊢;rcases FP (l:=l) (ins:=ins) (i:=0) (a:= -1) (m:=0)with e|e<;>omega
def Sf(ins:bU):∀(l r:List Pr) (i:Int),hX ins i (l++r)=hX ins i l++hX ins (i+l.length) r
 |[],r,i=>by simp[hX]
 |p::l,r,i=>by
  have:=Sf ins l r (i+1);rw[oJ,hX,hX,this];have e:i+1+(l.length:Int)=i+((p::l).length:Int):=by simp only[hS];omega
  rw[e];split<;>simp
def wR(ins:bU):∀(l:List Pr) (i:Int),(hX ins i l).length<=l.length
 |[],_=>dN _
 |p::l,i=>by
  have:=wR ins l (i+1);unfold hX;split<;>simp<;>omega
end Go.Kw
namespace Go.Mp
open Go Go.Vc Go.Sp Go.Proofs Go.Kc Go.Kv Go.Kw Go.Kt
variable{E:Env}{L:ch}{w W:World}
def aIC{b:Nat}{T:List G}{s wl:Sl}{l:List Pr}{wh:List Bool}{q q2:Nat}{t:Int}(hw:WF T)(N:L[q]?=some (jd s l))(M:s.n=l.length)(ah:l.length<1000000)(ab:L[q2]?=some (bC wl 1 (ea wh)))(Z:wl.n=wh.length)(h:Sep E (dT b T::L) w):
  Calls P J9 #[Pb b,Sv s,Iv t,Sv wl] w (bW λv w'=>∃o:Sl,v=Sv o/\o.n=(lz T l t wh).length/\Sep E (bC o 1 (bD (lz T l t wh))::dT b T::L) w'):=by
 have D:∀g,(hT T g).length<1000000:=λg=>by
  have h1:=Az hw g;omega
 have V:∀g,(c8 T g).length<1000000:=λg=>by have:=p4 hw g;omega
 apply aw0;unfold OW qC qF qJ qL qQ qU qW qa qf qh qy zz;refine use (v8 hw h) ?_;rintro _ au ⟨i1,rfl,Y,h1⟩;refine⟨i1,rfl,use (aLG (q:=q+2) (s:=s) (i:=i1) (l:=l) N M ah (Ints.row Y) (D t) h1) ?_⟩;rintro _ w2 ⟨rfl,I⟩;obtain⟨v,O⟩:∃v,pick l (hT T t)=v:=⟨_,rfl⟩
 have d:lz T l t wh=if v<0 then[]else let w:=whole (c8 T (l.getD v.toNat ⟨0,0,false⟩).g) t wh;if w<0 then[v]else hX (hT T w) 0 l:=by unfold lz;rw[O]
 rw[O];refine⟨_,rfl,cL (λj=>⟨⟨none,0,0⟩,rfl,?_⟩) (λW=>?_)⟩
 ·rw[d,bM j];exact⟨rfl,bC.none_ I.tail⟩
 rw[cM]at d;have ao:v<l.length:=by rw[<- O];exact aK7 bA
 obtain⟨x,hx⟩:∃x,l[v.toNat]?=some x:=⟨_,dL⟩
 have ai:(l.getD v.toNat ⟨0,0,false⟩).g=x.g:=by rw[dK,hx];rfl
 rw[ai]at d;refine kZ Pr.lJ (q+2) I N M (show v=((v.toNat:Nat):Int) by omega) hx (λc _ f=>⟨x.g,by rw[cj];exact f 0 _ rfl,use (rW hw I.tail) ?_⟩);rintro _ av ⟨H,rfl,U,ae⟩;refine⟨H,rfl,use (aIJ (L:=bC H 1 (bD (c8 T x.g))::dT b T::L) (q:=q2+2) (s:=H) (wl:=wl) (wh:=wh) (Ints.row U) (V _) ab Z t ae) ?_⟩;rintro _ aw ⟨rfl,S⟩;obtain⟨g,X⟩:∃g,whole (c8 T x.g) t wh=g:=⟨_,rfl⟩
 rw[X]at d ⊢;dsimp only at d;refine⟨_,rfl,cL (λj=>Al.i S (λp ak n=>⟨⟨some ⟨p,0,none⟩,1,1⟩,rfl,?_⟩)) (λaj=>use (v8 hw S.tail) ?_)⟩
 ·rw[d,bM j];exact⟨rfl,bC.make (vs:=bD [v]) (spare:=[]) (n.fr 0 rfl |>.ro 2 [0] rfl) rfl rfl (dN 1)⟩
 rintro _ ak ⟨i2,rfl,F,n⟩;rw[cM]at d;obtain⟨ins,J⟩:∃ins,hT T g=ins:=⟨_,rfl⟩
 have C:=D g;rw[J]at F n d C;rw[d];refine⟨i2,rfl,λo y w'=>∃k:Nat,y=k/\k<=l.length/\o.n=(hX ins 0 (l.take k)).length/\Sep E (bC o 1 (bD (hX ins 0 (l.take k)))::bC i2 1 (bD ins)::dT b T::L) w',λ_ y _=>(l.length-y).toNat,⟨0,rfl,ec _,rfl,bC.none_ n⟩,?_⟩;rintro _ o _ ax ⟨k,rfl,ar,ho,A⟩;refine cL (λj=>?_) (λW=>?_)
 ·obtain⟨z,ad⟩:∃z,l[k]?=some z:=⟨_,dL⟩
  have an:(hX ins 0 (l.take k)).length<=k:=by have:=wR ins (l.take k) 0;rw[g7]at this;omega
  have a:hX ins 0 (l.take (k+1))=hX ins 0 (l.take k)++(if z.live=true/\ins.contains z.g=true then[(k:Int)]else[]):=by
   rw[fw ad,Sf,g7,show min k l.length=k by omega,Bc];congr 1
  refine wQ (q+3) A N M rfl ad (λ_=>Al.i A (λr ay af=>eh _ af rfl (λal m=>?_)));have m:Sep E (bE r z.vs::bC o 1 (bD (hX ins 0 (l.take k)))::bC i2 1 (bD ins)::dT b T::L) al:=m;have ag:Ints E (bE r z.vs::bC o 1 (bD (hX ins 0 (l.take k)))::bC i2 1 (bD ins)::dT b T::L) i2 ins:=(Ints.row F).cons.cons;refine⟨λc w'=>c=decide (z.live=true/\ins.contains z.g=true)/\Sep E (bC o 1 (bD (hX ins 0 (l.take k)))::bC i2 1 (bD ins)::dT b T::L) w',ld m 0 rfl rfl rfl (cw (λK=>ld m 0 rfl rfl rfl (use (FO ag C z.g m) ?_)) (λK=>⟨?_,m.tail⟩)),?_⟩
  ·rintro _ am ⟨rfl,B⟩;refine⟨_,rfl,?_,B.tail⟩;cases f:ins.contains z.g with
   |true=>rw[dh ⟨K,rfl⟩]
   |false=>rw[c4 λe=>by cases e.2]
  ·rw[c4 λe=>by rw[K]at e;cases e.1]
  ·rintro _ c am ⟨rfl,B⟩;refine cw (λf=>Al.i B (λu ap Q=>rV ho bA Q (λo' aq aa R=>⟨⟨k+1,c1,bA,?_,?_⟩,?_⟩))) (λf=>⟨⟨k+1,c1,bA,?_,?_⟩,?_⟩);·rw[a,bM (jL f)];exact aa
   ·rw[a,bM (jL f)];exact R
   ·rw[c1];dsimp only;omega
   ·rw[a,bJ (jo f),hF];exact ho
   ·rw[a,bJ (jo f),hF];exact B
   ·rw[c1];dsimp only;omega
 ·have:k=l.length:=by omega
  subst this;rw[fN]at ho A;exact⟨o,rfl,ho,A.ro 3 [0,2] rfl⟩
end Go.Mp
namespace Go.Kc
open Go Go.Kt
variable{S T:Cs}
def grow(x:Act):Nat:=if x.k.tmod 12=3\/x.k.tmod 12=4\/x.k.tmod 12=6 then 1 else 0
def Sg(h:Inv S)(x:Act)(hx:grow x=0):(S.act x).1.bz.next=S.bz.next:=by
 have a:¬ (x.k.tmod 12=3\/x.k.tmod 12=4\/x.k.tmod 12=6):=λe=>by unfold grow at hx;rw[bM e]at hx;cases hx
 refine oY (P:=λr=>r.1.bz.next=S.bz.next) S x (λ_=>?_) (λ_=>?_) (λ_=>?_) (λe=>absurd (.inl e) a) (λe=>absurd (.inr (.inl e)) a) (λ_=>yc h.toInv0 h.anon _ _) (λe=>absurd (.inr (.inr e)) a) (λ_=>?_) (λ_=>?_) (λ_=>?_) (λ_=>rfl) (λ_=>((rM h _ _).kept h).next);·unfold Cs.bZ;dsimp only;split<;>rfl
 ·unfold Cs.remove;dsimp only;split;·exact(rL _ _ _).1
  ·rfl
 ·unfold Cs.cf Cs.iV;repeat' split
  all_goals rfl
 ·unfold Cs.put;dsimp only;split;·rfl
  ·split;·exact(od _ _ _).1
   ·rfl
 ·unfold Cs.get;dsimp only;split;·rfl
  ·dsimp only;split<;>rfl
 ·rcases rK h x.b x.c with⟨_,he⟩|⟨p,hp,⟨_,he⟩|⟨_,_,he⟩|⟨_,_,_,_,he,_⟩⟩
  ·rw[he]
  ·rw[he]
  ·rw[he];rfl
  ·exact he
inductive cv:Nat->Cs->Cs->Prop
 |nil (n:Nat) (S:Cs):cv n S S
 |act {n:Nat} {S T:Cs} (x:Act):cv n S T->cv (n+grow x) S (T.act x).1
def cv.up{n m:Nat}(h:cv n S T)(k:n<=m):cv m S T:=by
 induction h generalizing m with
 |nil=>exact .nil m _
 |act x h a=>
  obtain⟨j,rfl⟩:∃j,m=j+grow x:=⟨m-grow x,bA⟩
  exact .act x (a bA)
def cv.trans{n m:Nat}{U:Cs}(h:cv n S T)(k:cv m T U):cv (n+m) S U:=by
 induction k with
 |nil m=>exact h.up (Nat.le_add_right _ _)
 |act x k a=>rw[<- uV];exact .act x (a h)
def cv.inv{n:Nat}(h:cv n S T)(i:Inv S)(f:S.bz.next+n<=16777216):Inv T/\S.bz.next<=T.bz.next/\T.bz.next<=S.bz.next+n:=by
 induction h with
 |nil n=>exact⟨i,e7 _,bA⟩
 | @act n S T x h g=>
  obtain⟨h1,j,k⟩:=g i bA;by_cases hx:grow x=0
  ·rw[hx];refine⟨?_,by rw[Sg h1 x hx];omega,by rw[Sg h1 x hx];omega⟩;by_cases d:T.bz.next<16777216;·exact h1.act d x
   ·have b:¬ (x.k.tmod 12=3\/x.k.tmod 12=4\/x.k.tmod 12=6):=λe=>by unfold grow at hx;rw[bM e]at hx;cases hx
    exact oY (P:=λr=>Inv r.1) T x (λ_=>h1.bZ _) (λ_=>h1.remove _) (λ_=>h1.cf _ _ _) (λe=>absurd (.inl e) b) (λe=>absurd (.inr (.inl e)) b) (λ_=>h1.cb _ _) (λe=>absurd (.inr (.inr e)) b) (λ_=>h1.put _ _ _) (λ_=>h1.get _ _) (λ_=>h1.bX _ _) (λ_=>h1.du _) (λ_=>h1.shrink _ _)
  ·have c:grow x=1:=by unfold grow at hx ⊢;split at hx<;>first|omega|simp_all
   rw[c]at f ⊢;have a:T.bz.next<16777216:=by omega
   have:=VR h1 a x;exact⟨h1.act a x,bA,bA⟩
def cv.one(x:Act):cv (grow x) S (S.act x).1:=by
 have:=cv.act x (cv.nil 0 S);rwa[e5]at this
def cv.fresh(g:Int):cv 1 S (S.fresh g).1:=cv.one ⟨3,g,0,0,0,0⟩
def cv.cD(k:Int×Int)(g:Int):cv 1 S (S.cD k g).1:=cv.one ⟨4,g,0,0,k.1,k.2⟩
def cv.cb(id g:Int):cv 0 S (S.cb id g).1:=cv.one ⟨5,g,id,0,0,0⟩
def cv.copy(id g:Int):cv 1 S (S.copy id g).1:=cv.one ⟨6,g,id,0,0,0⟩
def cv.get(id a:Int):cv 0 S (S.get id a).1:=cv.one ⟨8,a,id,0,0,0⟩
def cv.bX(id n:Int):cv 0 S (S.bX id n).1:=cv.one ⟨9,0,id,n,0,0⟩
def cv.du(t:Int):cv 0 S (S.du t).1:=cv.one ⟨10,t,0,0,0,0⟩
def cv.shrink(t n:Int):cv 0 S (S.shrink t n).1:=cv.one ⟨11,t,0,n,0,0⟩
def cv.bZ(p:Int):cv 0 S (S.bZ p).1:=cv.one ⟨0,p,0,0,0,0⟩
def cv.remove(g:Int):cv 0 S (S.remove g).1:=cv.one ⟨1,g,0,0,0,0⟩
def cv.cf(g a n:Int):cv 0 S (S.cf g a n).1:=cv.one ⟨2,g,a,n,0,0⟩
def cv.put(id a:Int)(b:UInt8):cv 0 S (S.put id a b).1:=by
 have h:=cv.one (S:=S) ⟨7,a,id,(b.toNat:Int),0,0⟩;have e:(S.act ⟨7,a,id,(b.toNat:Int),0,0⟩).1=(S.put id a (l1 (b.toNat:Int))).1:=rfl;have c:l1 (b.toNat:Int)=b:=by
  unfold l1;have:=b.toNat_lt;rw[show((b.toNat:Int)%256).toNat=b.toNat by omega];exact UInt8.ofNat_toNat
 rw[e,c]at h;exact h
end Go.Kc
namespace Go.Kw
open Go Go.Kc Go.Kt
abbrev PP:=Int×Option Sp
def jG(l:List PP):Nat:=l.countP λp=>p.2.isSome
structure fU(V:Vs):Prop where
 inv:Inv V.core
 sp:∀(i:Nat) g s,V.procs[i]?=some (g,some s)->gh s
 fq:V.procs.length<=64
structure gi(V V':Vs):Prop where
 len:V'.procs.length=V.procs.length
 at_:∀i:Nat,V'.procs[i]?=V.procs[i]? \/∃g s,V.procs[i]?=some (g,some s)/\V'.procs[i]?=some (g,none)
def gi.refl(V:Vs):gi V V:=⟨rfl,λ_=>.inl rfl⟩
def gi.trans{U V W:Vs}(h:gi U V)(k:gi V W):gi U W:=by
 refine⟨k.len.trans h.len,λi=>?_⟩;rcases k.at_ i with e|⟨g,s,a,b⟩
 ·rw[e];exact h.at_ i
 ·rcases h.at_ i with f|⟨c,s',f1,f2⟩
  ·exact .inr ⟨g,s,f▸a,b⟩
  ·rw[f2]at a;cases a
def gi.core{V:Vs}(S:Cs):gi V {V with core:=S} :=⟨rfl,λ_=>.inl rfl⟩
def AD{V:Vs}{pid:Int}{s:Sp}(h:V.space pid=some s):0<=pid/\V.procs[pid.toNat]?=some (V.group pid,some s):=by
 unfold Vs.space at h;split at h
 ·next a=>
  refine⟨a,?_⟩;cases hp:V.procs[pid.toNat]? with
  |none=>rw[hp]at h;cases h
  |some p=>
   rw[hp]at h;have h:p.2=some s:=h;unfold Vs.group;rw[dK,hp,<- h];rfl
 ·cases h
def jS{V:Vs}{i:Nat}{g:Int}{s:Option Sp}(h:V.procs[i]?=some (g,s)):V.space (i:Int)=s/\V.group (i:Int)=g:=by
 unfold Vs.space Vs.group;rw[eG,dk,h,dK,h];exact⟨rfl,rfl⟩
def wS:∀(ids:bU) (S:Cs),cv 0 S (j8 ids S)
 |[],S=>.nil 0 S
 |x::r,S=>by
  have h:=(cv.bX (S:=S) x (-1)).trans (wS r (S.bX x (-1)).1);exact h
def Si:∀(ids:bU) (S:Cs),cv 0 S (nv ids S)
 |[],S=>.nil 0 S
 |x::r,S=>by
  have h:=(cv.bX (S:=S) x 1).trans (Si r (S.bX x 1).1);exact h
def ux{V:Vs}{pid:Int}{s:Sp}(h:V.space pid=some s):V.exit pid=⟨j8 (s.ids 0 65536) V.core,V.procs.set pid.toNat (V.group pid,none)⟩:=by
 unfold Vs.exit;rw[h];rfl
def FQ{V:Vs}{pid:Int}(h:V.space pid=none):V.exit pid=V:=by unfold Vs.exit;rw[h]
def Sj(V:Vs)(pid:Int):cv 0 V.core (V.exit pid).core/\gi V (V.exit pid)/\jG (V.exit pid).procs<=jG V.procs/\((V.space pid).isSome->jG (V.exit pid).procs<jG V.procs)/\∀i:Nat,(i:Int)≠pid->(V.exit pid).procs[i]?=V.procs[i]? :=by
 cases h:V.space pid with
 |none=>rw[FQ h];exact⟨.nil 0 _,gi.refl V,dN _,(λe=>by cases e),λ_ _=>rfl⟩
 |some s=>
  rw[ux h];obtain⟨d,hp⟩:=AD h;have a:=(cT.1 hp).1;have b:V.procs[pid.toNat]=(V.group pid,some s):=by rw[dD a]at hp;exact cQ hp
  have c:jG (V.procs.set pid.toNat (V.group pid,none))<jG V.procs:=by
   unfold jG;rw[List.countP_set a,b];have:0<V.procs.countP (λp=>p.2.isSome):=List.countP_pos_iff.2 ⟨_,eu hp,rfl⟩;exact Nat.sub_lt this Nat.one_pos
  refine⟨wS _ _,⟨by simp,λi=>?_⟩,by dsimp only;omega,λ_=>c,λi f=>?_⟩
  ·show(V.procs.set pid.toNat (V.group pid,none))[i]?=_\/_;by_cases e:pid.toNat=i
   ·subst e;refine .inr ⟨_,_,hp,?_⟩;show(V.procs.set pid.toNat (V.group pid,none))[pid.toNat]?=_;rw[iM a]
   ·exact .inl (h4 e)
  ·exact h4 bA
def r6:∀(l:bU) (V:Vs),cv 0 V.core (V.ej l).core/\gi V (V.ej l)/\jG (V.ej l).procs<=jG V.procs/\∀i:Nat,(i:Int)∉l->(V.ej l).procs[i]?=V.procs[i]?
 |[],V=>⟨.nil 0 _,gi.refl V,dN _,λ_ _=>rfl⟩
 |x::r,V=>by
  obtain⟨b,c,a3,_,a5⟩:=Sj V x;obtain⟨b1,b2,b3,b4⟩:=r6 r (V.exit x);refine⟨b.trans b1,c.trans b2,mD b3 a3,λi a=>?_⟩;rw[ey,not_or]at a;exact(b4 i a.2).trans (a5 i a.1)
def aFM{x:Int}{r:bU}{V:Vs}(h:(V.space x).isSome=true):jG (V.ej (x::r)).procs<jG V.procs:=
 AZ (r6 r (V.exit x)).2.2.1 ((Sj V x).2.2.2.1 h)
def FR:∀ {l:List Pr} {ins:bU} {i a m:Int},(mR ins i (a,m) l).1=a\/∃(j:Nat) (p:Pr),(mR ins i (a,m) l).1=i+j/\l[j]?=some p/\p.live=true
 |[],_,_,_,_=>.inl rfl
 |p::r,ins,i,a,m=>by
  unfold mR;split
  ·next d=>
   rcases FR (l:=r) (ins:=ins) (i:=i+1) (a:=i) (m:=p.size)with h|⟨j,q,h1,b,c⟩
   ·exact .inr ⟨0,p,bA,rfl,d.1⟩
   ·exact .inr ⟨j+1,q,bA,by simpa using b,c⟩
  ·rcases FR (l:=r) (ins:=ins) (i:=i+1) (a:=a) (m:=m)with h|⟨j,q,h1,b,c⟩
   ·exact .inl h
   ·exact .inr ⟨j+1,q,bA,by simpa using b,c⟩
def FT{ins:bU}:∀ {l:List Pr} {i x:Int},x∈hX ins i l->∃(j:Nat) (p:Pr),x=i+j/\l[j]?=some p/\p.live=true
 |p::r,i,x,h=>by
  unfold hX at h;split at h
  ·next c=>
   rcases ey.1 h with rfl|h;·exact⟨0,p,bA,rfl,c.1⟩
   ·obtain⟨j,q,h1,a,b⟩:=FT h;exact⟨j+1,q,bA,by simpa using a,b⟩
  ·obtain⟨j,q,h1,a,b⟩:=FT h;exact⟨j+1,q,bA,by simpa using a,b⟩
def Sk{V:Vs}{j:Nat}{p:Pr}(h:V.pr[j]?=some p)(a:p.live=true):∃s,V.space (j:Int)=some s:=by
 unfold Vs.pr at h;rw[ew]at h;cases hp:V.procs[j]? with
 |none=>rw[hp]at h;cases h
 |some q=>
  obtain⟨g,o⟩:=q;rw[hp]at h;cases o with
  |none=>cases h;cases a
  |some s=>exact⟨s,(jS hp).1⟩
def Sm{V:Vs}{T:List G}{t x:Int}{wh:List Bool}(h:x∈lz T V.pr t wh):∃s,V.space x=some s:=by
 unfold lz at h;dsimp only at h;split at h;·cases h
 ·next d=>
  split at h
  ·rw[iD]at h;subst h;unfold pick at d ⊢;rcases FR (l:=V.pr) (ins:=hT T t) (i:=0) (a:= -1) (m:=0)with e|⟨j,p,e,b,c⟩
   ·omega
   ·rw[e,Bc];exact Sk b c
  ·obtain⟨j,p,e,b,c⟩:=FT h;rw[e,Bc];exact Sk b c
def dead(V:Vs)(t:Int):bU:=lz V.core.tree V.pr t (mS V.core)
def uy(f:Cs->Int->Cs×Int×Int×Int)(pid:Int)(n:Nat)(V:Vs)(o:cE):fy f pid (n+1) V o=
    (let r:=f V.core (V.group pid)
     let V1:Vs:={V with core:=r.1}
     if r.2.2.2=0 then(V1,o,some r.2.1)else if r.2.2.2≠12 then(V1, {o with err:=r.2.2.2},none)else
     let d:=dead V1 r.2.2.1;let V2:=V1.ej d;let a:cE:={o with bI:=o.bI++d}
     if d= []then(V2, {a with err:=12},none)else if pid∈d then(V2, {a with err:=13},none)else fy f pid n V2 a):=rfl
def wT{f:Cs->Int->Cs×Int×Int×Int}{pid:Int}(hf:∀S g,cv 1 S (f S g).1):∀(n:Nat) (V:Vs) (o:cE),cv n V.core (fy f pid n V o).1.core/\gi V (fy f pid n V o).1/\((fy f pid n V o).2.2.isSome=true->(fy f pid n V o).1.procs[pid.toNat]?=V.procs[pid.toNat]? \/pid<0)
 |0,V,o=>⟨.nil 0 _,gi.refl V,λh=>by cases h⟩
 |n+1,V,o=>by
  rw[uy];dsimp only;have h1:=hf V.core (V.group pid);have a:cv (n+1) V.core (f V.core (V.group pid)).1:=h1.up bA;generalize f V.core (V.group pid)=r at h1 a;split;·exact⟨a,gi.core _,λ_=>.inl rfl⟩
  split;·exact⟨a,gi.core _,λh=>by cases h⟩
  generalize dead {V with core:=r.1} r.2.2.1=d;obtain⟨b1,b2,b3,b4⟩:=r6 d {V with core:=r.1};have i:cv (n+1) V.core (Vs.ej {V with core:=r.1} d).core:=(h1.trans b1).up bA;have b:gi V (Vs.ej {V with core:=r.1} d):=(gi.core _).trans b2;split;·exact⟨i,b,λh=>by cases h⟩
  split;·exact⟨i,b,λh=>by cases h⟩
  next c=>
  obtain⟨j,k,l⟩:=wT hf n (Vs.ej {V with core:=r.1} d) {o with bI:=o.bI++d};refine⟨((h1.trans b1).trans j).up bA,b.trans k,λh=>?_⟩;rcases l h with e|e
  ·by_cases m:pid<0;·exact .inr m
   ·refine .inl (e.trans (b4 pid.toNat ?_));rw[show((pid.toNat:Nat):Int)=pid by omega];exact c
  ·exact .inr e
end Go.Kw
namespace Go.Mp
open Go Go.Vc Go.Sp Go.Proofs Go.Kc
variable{E:Env}{L:ch}{w:World}{A:At}{S:Cs}
def nN{W:World}{q:Nat}{a:Addr}{v:Value}(h:Sep E L w)(b:L[q]?=some (cy W.heap))(c:W.cell? a=some v):w.cell? a=some v:=
 (cy.open (h.fr q b)).2.o3 (i:=0) rfl c
end Go.Mp
namespace Go.Mp
open Go Go.Vc Go.Sp Go.Proofs Go.Kc Go.Kw Go.Kt
variable{E:Env}{L:ch}{w W:World}{A:At}{S:Cs}{v:Nat}{r:Sl}
abbrev PS:=List (Int×Option (Nat×Kw.Sp))
def gJ(p:Int×Option (Nat×Kw.Sp)):List Value:=[Iv p.1,.pointer (p.2.map λq=>⟨q.1,0,none⟩)]
def r7(p:Int×Option (Nat×Kw.Sp)):(gJ p).length=2:=rfl
def g2(p:Int×Option (Nat×Kw.Sp)):Asn:=match p.2 with|some q=>dY q.1 q.2|none=>emp
def plain(ps:PS):List PP:=ps.map λp=>(p.1,p.2.map Prod.snd)
def Vm(A:At)(v:Nat)(r:Sl)(S:Cs)(ps:PS)(L:ch):ch:=
 cd A S++(bE v [Pb A.c,Sv r]::bC r 2 (bQ gJ ps)::(ps.map g2++L))
variable{ps:PS}
def Sn(A:At)(v:Nat)(r:Sl)(S:Cs)(B:Asn):ch:=cd A S++[bE v [Pb A.c,Sv r],B]
def qq(B:Asn):(Sn A v r S B).length=18:=rfl
def uz(B:Asn)(M:ch):cd A S++(bE v [Pb A.c,Sv r]::B::M)=Sn A v r S B++M:=rfl
def ig{i:Nat}{p:Int×Option (Nat×Kw.Sp)}(h:ps[i]?=some p):(plain ps)[i]?=some (p.1,p.2.map Prod.snd):=by unfold plain;rw[ew,h];rfl
def jT(ps:PS):(plain ps).length=ps.length:=eb _
def Sq{i:Nat}{g:Int}{s:Kw.Sp}(h:(plain ps)[i]?=some (g,some s)):∃a,ps[i]?=some (g,some (a,s)):=by
 unfold plain at h;rw[ew]at h;cases hp:ps[i]? with
 |none=>rw[hp]at h;cases h
 |some p=>
  obtain⟨b,o⟩:=p;rw[hp]at h;cases o with
  |none=>cases h
  |some q=>cases h;exact⟨q.1,rfl⟩
def ml(k:Nat):(Vm A v r S ps L)[18+ps.length+k]?=L[k]? :=by
 unfold Vm;rw[uz,fo (by rw[qq];omega),qq,fo (by simp;omega)];congr 1;simp;omega
def Sr{i a:Nat}{g:Int}{s:Kw.Sp}(h:ps[i]?=some (g,some (a,s)))(B:Asn):(cd A S++(bE v [Pb A.c,Sv r]::B::(ps.map g2++L)))[18+i]?=some (dY a s):=by
 have b:=(cT.1 h).1;rw[uz,fo (by rw[qq];omega),qq,sF,eE (by simpa using b),ew,h];rfl
def FU{i a:Nat}{g:Int}{s:Kw.Sp}(h:ps[i]?=some (g,some (a,s))):(Vm A v r S ps L)[18+i]?=some (dY a s):=Sr h _
def aK8{i a:Nat}{g:Int}{s s':Kw.Sp}(h:ps[i]?=some (g,some (a,s))):bQ gJ (ps.set i (g,some (a,s')))=bQ gJ ps:=by
 unfold bQ;congr 1;apply g6;intro j;rw[ew,ew,jg];split
 ·next e=>
  subst e;have b:=(cT.1 h).1;rw[bM b,h];rfl
 ·rfl
def Ss{i:Nat}(a:i<ps.length)(B X:Asn)(p:Int×Option (Nat×Kw.Sp))(hp:g2 p=X):(cd A S++(bE v [Pb A.c,Sv r]::B::(ps.map g2++L))).set (18+i) X=cd A S++(bE v [Pb A.c,Sv r]::B::((ps.set i p).map g2++L)):=by
 rw[uz,uz,ik _ _ (by rw[qq];omega),qq,sF,sH _ _ (by simpa using a),hq,hp]
def Su{i a:Nat}{g:Int}{s s':Kw.Sp}(h:ps[i]?=some (g,some (a,s))):(Vm A v r S ps L).set (18+i) (dY a s')=Vm A v r S (ps.set i (g,some (a,s'))) L:=by
 unfold Vm;rw[aK8 h];exact Ss (cT.1 h).1 _ _ _ rfl
def Vm.op{i a:Nat}{g:Int}{s:Kw.Sp}(b:ps[i]?=some (g,some (a,s)))(h:Sep E (Vm A v r S ps L) w):Sep E (dY a s::(Vm A v r S ps L).eraseIdx (18+i)) w:=h.fr _ (FU b)
def Vm.sh{i a:Nat}{g:Int}{s s':Kw.Sp}(b:ps[i]?=some (g,some (a,s)))(h:Sep E (dY a s'::(Vm A v r S ps L).eraseIdx (18+i)) w):Sep E (Vm A v r S (ps.set i (g,some (a,s'))) L) w:=Su b▸Sep.put (FU b) h
def FV{α:Type}{l:List α}{i:Nat}{x:α}(h:l[i]?=some x):l.set i x=l:=by
 apply g6;intro j;rw[jg];split;·next e=>subst e;rw[bM (cT.1 h).1,h]
 ·rfl
def Vm.bk{i a:Nat}{g:Int}{s:Kw.Sp}(b:ps[i]?=some (g,some (a,s)))(h:Sep E (dY a s::(Vm A v r S ps L).eraseIdx (18+i)) w):Sep E (Vm A v r S ps L) w:=by
 have:=Vm.sh b h;rwa[FV b]at this
def Vm.eA{B:Asn}(h:Sep E (B::Vm A v r S ps L) w):Sep E (Vm A v r S ps (B::L)) w:=by
 refine h.perm ?_;unfold Vm;refine il.symm.trans (mu _ ?_);have h1:(B::(ps.map g2++L)).Perm (ps.map g2++B::L):=il.symm;exact((List.Perm.swap _ _ _).trans (List.Perm.cons _ (List.Perm.swap _ _ _))).trans (List.Perm.cons _ (List.Perm.cons _ h1))
def Vm.out{B:Asn}(h:Sep E (Vm A v r S ps (B::L)) w):Sep E (B::Vm A v r S ps L) w:=by
 refine h.perm (List.Perm.symm ?_);unfold Vm;refine il.symm.trans (mu _ ?_);have h1:(B::(ps.map g2++L)).Perm (ps.map g2++B::L):=il.symm;exact((List.Perm.swap _ _ _).trans (List.Perm.cons _ (List.Perm.swap _ _ _))).trans (List.Perm.cons _ (List.Perm.cons _ h1))
def AE(M:ch):Vm A v r S ps M=(cd A S++(bE v [Pb A.c,Sv r]::bC r 2 (bQ gJ ps)::ps.map g2))++M:=by unfold Vm;simp
def Vm.hn(F:ch)(h:Sep E (F++Vm A v r S ps L) w):Sep E (Vm A v r S ps (F++L)) w:=by
 rw[AE]at h ⊢;exact h.perm (kH _ _ _)
def Vm.fg(F:ch)(h:Sep E (Vm A v r S ps (F++L)) w):Sep E (F++Vm A v r S ps L) w:=by
 rw[AE]at h ⊢;exact h.perm (kH _ _ _)
def Vm.FX{i a:Nat}{g:Int}{s s':Kw.Sp}{B:Asn}(b:ps[i]?=some (g,some (a,s)))(h:Sep E (B::dY a s'::(Vm A v r S ps L).eraseIdx (18+i)) w):Sep E (Vm A v r S (ps.set i (g,some (a,s'))) (B::L)) w:=
 Vm.eA (Su b▸Sep.g1 (FU b) h)
def Vm.bk1{i a:Nat}{g:Int}{s:Kw.Sp}{B:Asn}(b:ps[i]?=some (g,some (a,s)))(h:Sep E (B::dY a s::(Vm A v r S ps L).eraseIdx (18+i)) w):Sep E (Vm A v r S ps (B::L)) w:=by
 have:=Vm.FX b h;rwa[FV b]at this
def Vm.pL{L':ch}(hp:L.Perm L')(h:Sep E (Vm A v r S ps L) w):Sep E (Vm A v r S ps L') w:=by
 refine h.perm ?_;unfold Vm;exact mu _ (List.Perm.cons _ (List.Perm.cons _ (mu _ hp)))
def Vm.el{i:Nat}{p:Int×Option (Nat×Kw.Sp)}{F:Addr->Prop}{x:Int}(c:r.n=ps.length)(h:Sep E (Vm A v r S ps L) w)(hx:x=i)(a:ps[i]?=some p)(k:∀b,r.p=some ⟨b,0,none⟩->(∀j u,(gJ p)[j]?=some u->w.cell? ⟨b,i*2+j,none⟩=some u)->F ⟨b,i*2,none⟩):cx r.p r.n x 2 F:=
 kZ r7 17 h rfl c hx a k
def AF{pid:Int}(f:r.n=ps.length)(h:Sep E (Vm A v r S ps L) w):Calls P nA #[Pb v,Iv pid] w
  (bW λx w'=>((∃(i a:Nat) (g:Int) (s:Kw.Sp),pid=i/\ps[i]?=some (g,some (a,s))/\x=Pb a)\/(Vs.space ⟨S,plain ps⟩ pid=none/\x=.pointer none))/\w'=w):=by
 apply ZS;unfold NQ qK qW qZ qg;refine⟨λw'=>(0<=pid/\pid<ps.length)/\w'=w,cL (λe=>⟨.inr ⟨?_,rfl⟩,rfl⟩) (λc=>⟨_,rfl,r,h.cellAt 16 rfl 1,hk (λe=>⟨.inr ⟨?_,rfl⟩,rfl⟩) (λh1=>⟨⟨c,bA⟩,rfl⟩)⟩),?_⟩;·unfold Vs.space;rw[cM]
 ·unfold Vs.space;rw[bM c];show((plain ps)[pid.toNat]?).bind Prod.snd=none;rw[fH (by rw[jT];omega)];rfl
 rintro _ _ ⟨⟨c,h1⟩,rfl⟩;obtain⟨p,hp⟩:∃p,ps[pid.toNat]?=some p:=⟨_,dL⟩
 refine⟨_,rfl,r,h.cellAt 16 rfl 1,Vm.el f h (show pid=((pid.toNat:Nat):Int) by omega) hp (λb _ d=>⟨_,by rw[cj];exact d 1 _ rfl,?_,rfl⟩)⟩;obtain⟨g,o⟩:=p;cases o with
 |some q=>exact .inl ⟨pid.toNat,q.1,g,q.2,bA,hp,rfl⟩
 |none=>
  refine .inr ⟨?_,rfl⟩;unfold Vs.space;rw[bM c];show((plain ps)[pid.toNat]?).bind Prod.snd=none;rw[ig hp];rfl
def Sw{s:Sl}{ids:bU}(c:∀S',Ints E (Vm A v r S' ps L) s ids)(j:ids.length<1000000)(i:Kc.Inv S)(h:Sep E (Vm A v r S ps L) w):
  Calls P CB #[Pb v,Sv s] w (bW λx w'=>x=.tuple #[]/\Sep E (Vm A v r (j8 ids S) ps L) w'):=by
 have hlen:=(c S).1;apply azC;unfold Oh qD qO qQ qW qZ;refine⟨λx w'=>∃(k:Nat) (S':Cs),x=k/\k<=ids.length/\Kc.Inv S'/\j8 (ids.drop k) S'=j8 ids S/\Sep E (Vm A v r S' ps L) w',λx _=>(ids.length-x).toNat,⟨0,S,rfl,ec _,i,rfl,h⟩,?_⟩;rintro _ _ m ⟨k,S',rfl,l,b,he,h1⟩;refine cL (λg=>?_) (λf=>?_)
 ·obtain⟨x,hx⟩:∃x,ids[k]?=some x:=⟨_,dL⟩
  have e:ids.drop k=x::ids.drop (k+1):=by
   have a:=(cT.1 hx).1;rw[ln a];rw[dD a]at hx;rw[cQ hx]
  rw[e]at he;refine(c S').el h1 k rfl hx ⟨_,rfl,_,h1.cellAt 16 rfl 0,use (AA (id:=x) (n:= -1) b h1) ?_⟩;rintro _ w2 ⟨rfl,d⟩;exact⟨_,rfl,⟨k+1,_,c1,bA,b.bX x (-1),he,d⟩,by rw[c1];dsimp only;omega⟩
 ·have:k=ids.length:=by omega
  subst this;rw[xy]at he;exact⟨rfl,he▸h1⟩
structure iB(ps cF:PS):Prop where
 len:cF.length=ps.length
 at_:∀i:Nat,cF[i]?=ps[i]? \/∃g q,ps[i]?=some (g,some q)/\cF[i]?=some (g,none)
def iB.refl(ps:PS):iB ps ps:=⟨rfl,λ_=>.inl rfl⟩
def iB.trans{a b c:PS}(h:iB a b)(k:iB b c):iB a c:=by
 refine⟨k.len.trans h.len,λi=>?_⟩;rcases k.at_ i with e|⟨g,q,d,j⟩
 ·rw[e];exact h.at_ i
 ·rcases h.at_ i with f|⟨l,m,f1,f2⟩
  ·exact .inr ⟨g,q,f▸d,j⟩
  ·rw[f2]at d;cases d
def iB.die{i:Nat}{g:Int}{q:Nat×Kw.Sp}(h:ps[i]?=some (g,some q)):iB ps (ps.set i (g,none)):=by
 refine⟨by simp,λj=>?_⟩;by_cases e:i=j;·subst e;exact .inr ⟨g,q,h,iM (cT.1 h).1⟩
 ·exact .inl (h4 e)
def Sx{i a:Nat}{g:Int}{s:Kw.Sp}(f:ps[i]?=some (g,some (a,s)))(u:gh s)(o:r.n=ps.length)(H:Kc.Inv S)(h:Sep E (Vm A v r S ps L) w):
  Calls P Cz #[Pb v,Iv (i:Nat)] w (bW λx w'=>x=.tuple #[]/\Sep E (Vm A v r (j8 (s.ids 0 65536) S) (ps.set i (g,none)) L) w'):=by
 have n:=(cT.1 f).1;apply aA9;unfold Od qE qJ qK qW qZ;refine⟨_,rfl,r,h.cellAt 16 rfl 1,Vm.el o h rfl f (λb _ D=>⟨_,by rw[cj];exact D 1 _ rfl,use (Qe (a:=0) (b:=65536) bA bA u (Vm.op f h)) ?_⟩)⟩;rintro _ I ⟨q,rfl,t,h1⟩;have l:=Vm.FX f h1;have k:(s.cut 0 65536).2=s.ids 0 65536:=rfl;rw[k]at t l;have c:(ps.set i (g,some (a,(s.cut 0 65536).1)))[i]?=some (g,some (a,(s.cut 0 65536).1)):=iM n;have B:∀S',Ints E (Vm A v r S' (ps.set i (g,some (a,(s.cut 0 65536).1))) (bC q 1 (bD (s.ids 0 65536))::L)) q (s.ids 0 65536):=λS'=>(Ints.row t).of λ_ F=>Vm.out F;refine⟨q,rfl,use (Sw B (by have:=Ac u 0 65536;omega) H l) ?_⟩;rintro _ w2 ⟨rfl,d⟩;have d:=(Vm.out d).tail;have p:r.n=(ps.set i (g,some (a,(s.cut 0 65536).1))).length:=by rw[dA];exact o
 refine⟨rfl,_,rfl,r,d.cellAt 16 rfl 1,Vm.el p d rfl c (λb C _=>?_)⟩;rw[cj];refine tT r7 (a':=(g,none)) (d.fr 17 rfl) C c bO rfl (λG z=>⟨rfl,?_⟩);have e:=Sep.put (L:=Vm A v r (j8 (s.ids 0 65536) S) (ps.set i (g,some (a,(s.cut 0 65536).1))) L) (q:=17) (A':=bC r 2 (bQ gJ ((ps.set i (g,some (a,(s.cut 0 65536).1))).set i (g,none)))) rfl z;have y:(ps.set i (g,some (a,(s.cut 0 65536).1))).set i (g,none)=ps.set i (g,none):=List.set_set ..;have hx:=Ss (A:=A) (S:=j8 (s.ids 0 65536) S) (v:=v) (r:=r) (L:=L) (cT.1 c).1 (bC r 2 (bQ gJ (ps.set i (g,none)))) emp (g,none) rfl;rw[y]at e hx;have e:Sep E (cd A (j8 (s.ids 0 65536) S)++(bE v [Pb A.c,Sv r]::bC r 2 (bQ gJ (ps.set i (g,none)))::((ps.set i (g,some (a,(s.cut 0 65536).1))).map g2++L))) G:=e;have j:(cd A (j8 (s.ids 0 65536) S)++(bE v [Pb A.c,Sv r]::bC r 2 (bQ gJ (ps.set i (g,none)))::((ps.set i (g,some (a,(s.cut 0 65536).1))).map g2++L)))[18+i]?=some (dY a (s.cut 0 65536).1):=Sr c _;have m:=Sep.put (A':=emp) j (Sep.emp.2 (e.fr _ j).tail);rw[hx]at m;exact m
end Go.Mp
namespace Go.Kw
def fV(p:PP):Pr:=match p.2 with|some s=>⟨p.1,s.ct.length,true⟩|none=>⟨p.1,0,false⟩
def AG(V:Vs):V.pr=V.procs.map fV:=rfl
end Go.Kw
namespace Go.Mp
open Go Go.Vc Go.Sp Go.Proofs Go.Kc Go.Kw Go.Kt
variable{E:Env}{L:ch}{w W:World}{A:At}{S:Cs}{v:Nat}{r:Sl}{ps:PS}
def dF(ps:PS):Prop:=∀(i:Nat) g a s,ps[i]?=some (g,some (a,s))->gh s
def dF.less{cF:PS}(h:dF ps)(k:iB ps cF):dF cF:=by
 intro i g a s c;rcases k.at_ i with e|⟨d,q,_,b⟩
 ·exact h i g a s (e▸c)
 ·rw[c]at b;cases b
def wU:g9 P V0=some (24,3,[Iv 0,Iv 0,.bool false]):=by kernel_rfl
def aL7(x:Pr):∀u∈x.vs,u.oneCell'=true:=by
 intro u hu;simp only[Pr.vs,ey,ra,ri]at hu;rcases hu with rfl|rfl|rfl<;>rfl
def AH(T:dF ps)(O:r.n=ps.length)(Z:ps.length<=1000)(h:Sep E (Vm A v r S ps L) w):Calls P o1 #[Pb v] w
  (bW λx w'=>∃l:Sl,x=Sv l/\l.n=((plain ps).map fV).length/\Sep E (Vm A v r S ps (jd l ((plain ps).map fV)::L)) w'):=by
 obtain⟨Q,D⟩:∃Q,(plain ps).map fV=Q:=⟨_,rfl⟩
 have V:Q.length=ps.length:=by rw[<- D,eb,jT]
 rw[D];apply ZR;unfold NP qK qQ qU qW qZ qa qf qg qy zq zz;refine⟨_,rfl,r,h.cellAt 16 rfl 1,λl x w'=>∃k:Nat,x=k/\k<=ps.length/\l.n=(Q.take k).length/\Sep E (Vm A v r S ps (jd l (Q.take k)::L)) w',λ_ x _=>(ps.length-x).toNat,⟨0,rfl,ec _,rfl,Vm.eA (bC.none_ h)⟩,?_⟩;rintro _ l _ ab ⟨k,rfl,aa,z,h1⟩;refine cL (λY=>?_) (λW=>?_)
 ·obtain⟨p,hp⟩:∃p,ps[k]?=some p:=⟨_,dL⟩
  obtain⟨g,o⟩:=p;have R:Q[k]?=some (fV (g,o.map Prod.snd)):=by rw[<- D,ew,ig hp];rfl
  have t:Q.take (k+1)=Q.take k++[fV (g,o.map Prod.snd)]:=fw R;obtain⟨x,hx⟩:∃x,fV (g,o.map Prod.snd)=x:=⟨_,rfl⟩
  rw[hx]at t;have X:l.n=k:=by rw[z,g7];omega
  refine Vm.el O h1 rfl hp (λb _ F=>⟨g,by rw[cj];exact F 0 _ rfl,o.map (λq=>(⟨q.1,0,none⟩:Addr)),by rw[cj];exact F 1 _ rfl,Al.i h1 (λu w2 M=>eh _ M rfl (λad C=>?_))⟩);refine ld C 0 rfl rfl rfl (ld C 0 rfl rfl rfl (Al.i C (λp2 ae N=>eh _ N rfl (λK d=>?_))));have d:Sep E (bE p2 [Iv g,Iv 0,.bool (!(o.map λq=>(⟨q.1,0,none⟩:Addr)).isNone)]::bE u (gJ (g,o))::Vm A v r S ps (jd l (Q.take k)::L)) K:=d;refine⟨λw'=>Sep E (bE p2 x.vs::bE u (gJ (g,o))::Vm A v r S ps (jd l (Q.take k)::L)) w',ld d 0 rfl rfl rfl ?_,?_⟩
  ·cases o with
   |none=>
    refine bF rfl ?_;rw[<- hx];exact d
   |some q=>
    obtain⟨a,s⟩:=q;have I:=T k g a s hp;refine bT rfl (ld d 1 rfl rfl (x:=some ⟨a,0,none⟩) rfl ?_);have e:Sep E (Vm A v r S ps (bE p2 [Iv g,Iv 0,.bool true]::bE u (gJ (g,some (a,s)))::jd l (Q.take k)::L)) K:=Vm.hn [_,_] d;refine use (aIQ I (Vm.op hp e)) ?_;rintro _ U ⟨rfl,j⟩;have m:=Vm.fg [_,_] (Vm.bk hp j);refine⟨_,rfl,St.i m (by show 1<3;decide) (λB f=>?_)⟩;rw[<- hx];exact f
  ·rintro _ U y;refine ld y 0 rfl rfl rfl (ld y 0 rfl rfl rfl (ld y 0 rfl rfl rfl (Al.i y (λJ B e=>?_))));have e:Sep E (bE J x.vs::bE p2 x.vs::bE u (gJ (g,o))::Vm A v r S ps (jd l (Q.take k)::L)) B:=e;have H:=Src.bE (n:=1) (c:=1) e (i:=0) rfl wU rfl (aL7 x);have j:=Vm.hn [_,_,_] e;have j:Sep E (Vm A v r S ps ([bE J x.vs,bE p2 x.vs,bE u (gJ (g,o)),jd l (Q.take k)]++L)) B:=j;have m:=(Vm.fg [_,_,_,_] j).ro 4 [3] rfl;have m:Sep E (jd l (Q.take k)::Vm A v r S ps L) B:=m;refine bC.append m wU rfl H bA bA (λl' af G f=>⟨⟨k+1,c1,bA,?_,Vm.eA ?_⟩,?_⟩);·rw[G,t,da,z];rfl
   ·unfold jd;rw[t,mX,o4];exact f
   ·rw[c1];dsimp only;omega
 ·have:k=ps.length:=by omega
  subst this;rw[hE bA]at z h1;exact⟨l,rfl,z,h1⟩
end Go.Mp
namespace Go.Kw
open Go Go.Kc Go.Kt
def Sy(ins:bU):∀(l:List Pr) (i:Int),(hX ins i l).Pairwise (· < ·)/\∀x∈hX ins i l,i<=x
 |[],_=>⟨List.Pairwise.nil,λ_ h=>by cases h⟩
 |p::r,i=>by
  obtain⟨h1,a⟩:=Sy ins r (i+1);unfold hX;split
  ·refine⟨g5.2 ⟨λx hx=>by have:=a x hx;omega,h1⟩,λx hx=>?_⟩;rcases ey.1 hx with rfl|hx;·exact e7 _
   ·have:=a x hx;omega
  ·exact⟨h1,λx hx=>by have:=a x hx;omega⟩
def aB2(T:List G)(l:List Pr)(t:Int)(wh:List Bool):(lz T l t wh).Nodup:=by
 unfold lz;dsimp only;split;·exact List.nodup_nil
 ·split;·simp
  ·exact(Sy _ l 0).1.imp λh=>bA
def aB6(a b:bU)(V:Vs):V.ej (a++b)=(V.ej a).ej b:=A1
def cE.dV(o:cE)(pid:Int)(d:bU):cE:={o with bI:=o.bI++d,err:=if d= []then 12 else if pid∈d then 13 else o.err}
end Go.Kw
namespace Go.Mp
open Go Go.Vc Go.Sp Go.Proofs Go.Kc Go.Kw Go.Kt
variable{E:Env}{L:ch}{w W:World}{A:At}{S:Cs}{v:Nat}{r:Sl}{ps:PS}
def c3(o:c7)(v sp:Nat)(out:cE)(a:Sl):List Value:=[Iv o.kind,Iv o.a,Iv o.b,Iv o.c,Iv o.d,Pb v,Pb sp,Iv out.err,Iv out.n,Sv a]
def Vm.cell{b:Nat}{C:List Value}(h:Sep E (Vm A v r S ps L) w)(k:Nat)(a:L[k]?=some (bE b C))(o:Nat):w.cell? ⟨b,o,none⟩=C[o]? :=h.cellAt (18+ps.length+k) ((ml k).trans a) o
def Vm.ints{q:Sl}{l:bU}(b:q.n=l.length):Ints E (Vm A v r S ps (bC q 1 (bD l)::L)) q l:=(Ints.row b).of λ_ a=>Vm.out a
def Sz{i:Nat}{g:Int}:plain (ps.set i (g,none))=(plain ps).set i (g,none):=by unfold plain;rw[hq];rfl
def aLN{c sp:Nat}{o:c7}{out:cE}{f:Sl}{t:Int}(aI:dF ps)(aD:r.n=ps.length)(aQ:ps.length<=64)(aO:Kc.Inv S)(aA:f.n=out.bI.length)(aY:out.bI.length<=100000)(h:Sep E (Vm A v r S ps (bE c (c3 o v sp out f)::bC f 1 (bD out.bI)::L)) w):Calls P yQ #[Pb c,Iv t] w
  (bW λx w'=>x=.bool (decide (dead ⟨S,plain ps⟩ t≠ []/\o.a∉dead ⟨S,plain ps⟩ t))/\∃(cF:PS) (g:Sl),iB ps cF/\plain cF=(Vs.ej ⟨S,plain ps⟩ (dead ⟨S,plain ps⟩ t)).procs/\g.n=(out.dV o.a (dead ⟨S,plain ps⟩ t)).bI.length/\
   Sep E (Vm A v r (Vs.ej ⟨S,plain ps⟩ (dead ⟨S,plain ps⟩ t)).core cF (bE c (c3 o v sp (out.dV o.a (dead ⟨S,plain ps⟩ t)) g)::bC g 1 (bD (out.dV o.a (dead ⟨S,plain ps⟩ t)).bI)::L)) w'):=by
 obtain⟨V,am⟩:∃V:Vs,V=⟨S,plain ps⟩:=⟨_,rfl⟩
 obtain⟨d,ax⟩:∃d,dead ⟨S,plain ps⟩ t=d:=⟨_,rfl⟩
 have M:lz S.tree ((plain ps).map fV) t (mS S)=d:=ax;have ay:(mS S).length=S.guards.length:=by unfold mS;rw[eb]
 rw[ax,<- am];apply ayv;unfold OS qD qE qF qG qJ qK qL qO qR qW qZ;refine Dr.i h (λa2 h1=>⟨_,rfl,some ⟨v,0,none⟩,Vm.cell h1 0 rfl 5,_,rfl,some ⟨A.c,0,none⟩,h1.cellAt 16 rfl 0,_,rfl,some ⟨v,0,none⟩,Vm.cell h1 0 rfl 5,_,rfl,some ⟨v,0,none⟩,Vm.cell h1 0 rfl 5,_,rfl,some ⟨A.c,0,none⟩,h1.cellAt 16 rfl 0,use (wL h1) ?_⟩);rintro _ w2 ⟨rfl,y⟩;have y:Sep E (Vm A v r S ps (bE c (c3 o v sp out f)::bC f 1 (bD out.bI)::L)) w2:=y;refine⟨_,rfl,_,y.cellAt 16 rfl 0,rfl,_,Vm.cell y 0 rfl 5,rfl,_,Vm.cell y 0 rfl 5,rfl,use (AH aI aD bA y) ?_⟩;rintro _ a3 ⟨l,rfl,aR,R⟩;refine⟨l,rfl,_,R.cellAt 16 rfl 0,rfl,_,Vm.cell R 1 rfl 5,rfl,use (aKt aO R) ?_⟩;rintro _ aS ⟨wl,rfl,aL,W⟩;have aa:=Vm.eA (Sep.mh (Q:=cd A S) W);have aa:Sep E (Vm A v r S ps (bC wl 1 (ea (mS S))::jd l ((plain ps).map fV)::bE c (c3 o v sp out f)::bC f 1 (bD out.bI)::L)) aS:=aa;have ag:∀k,((Vm A v r S ps (bC wl 1 (ea (mS S))::jd l ((plain ps).map fV)::bE c (c3 o v sp out f)::bC f 1 (bD out.bI)::L)).eraseIdx 1)[17+ps.length+k]?=(bC wl 1 (ea (mS S))::jd l ((plain ps).map fV)::bE c (c3 o v sp out f)::bC f 1 (bD out.bI)::L)[k]? :=by
  intro k;rw[List.getElem?_eraseIdx_of_ge bA,show 17+ps.length+k+1=18+ps.length+k by omega];exact ml k
 have aH:((plain ps).map fV).length<=64:=by rw[eb,jT];exact aQ
 refine⟨wl,rfl,use (aIC (q:=17+ps.length+1) (q2:=17+ps.length+0) (b:=A.t) (T:=S.tree) (s:=l) (wl:=wl) (l:=(plain ps).map fV) (wh:=mS S) (t:=t) aO.wf (ag 1) aR bA (ag 0) (by rw[ay];exact aL) (aa.fr 1 rfl)) ?_⟩;rintro _ aM ⟨i,rfl,p,al⟩;rw[M]at p al;have au:=Vm.eA (Sep.g1 (L:=Vm A v r S ps (bC wl 1 (ea (mS S))::jd l ((plain ps).map fV)::bE c (c3 o v sp out f)::bC f 1 (bD out.bI)::L)) (q:=1) (A':=dT A.t S.tree) rfl al);have av:Sep E (Vm A v r S ps (bC i 1 (bD d)::bC wl 1 (ea (mS S))::jd l ((plain ps).map fV)::bE c (c3 o v sp out f)::bC f 1 (bD out.bI)::L)) aM:=au;have aw:=Vm.pL (L':=bC i 1 (bD d)::bE c (c3 o v sp out f)::bC f 1 (bD out.bI)::bC wl 1 (ea (mS S))::jd l ((plain ps).map fV)::L) (List.Perm.cons _ ((kH [_,_] [_,_] L))) av;have ap:Sep E (Vm A v r S ps (bC i 1 (bD d)::bE c (c3 o v sp out f)::bC f 1 (bD out.bI)::L)) aM:=by
  have:=Vm.fg [_,_,_,_,_] aw;exact Vm.hn [_,_,_] (this.ro 5 [0,1,2] rfl)
 clear h1 y R W aa al au av aw;have aV:d.length<=64:=by
  rw[<- M];unfold lz;dsimp only;split;·simp
  ·split;·simp
   ·exact mD (wR _ _ _) aH
 have aF:d.Nodup:=M▸aB2 _ _ _ _;have ad:∀x∈d,∃s,V.space x=some s:=λx hx=>by rw[am];exact Sm (V:=⟨S,plain ps⟩) (by rw[<- M]at hx;exact hx)
 refine⟨i,rfl,λx w'=>∃(k:Nat) (S':Cs) (cF:PS),x=k/\k<=d.length/\iB ps cF/\Kc.Inv S'/\(⟨S',plain cF⟩:Vs)=V.ej (d.take k)/\Sep E (Vm A v r S' cF (bC i 1 (bD d)::bE c (c3 o v sp out f)::bC f 1 (bD out.bI)::L)) w',λx _=>(d.length-x).toNat,⟨0,S,ps,rfl,ec _,iB.refl _,aO,am.symm,ap⟩,?_⟩;rintro _ _ a4 ⟨k,S',cF,rfl,aZ,N,aj,O,J⟩;have aE:r.n=cF.length:=by rw[N.len];exact aD
 refine cL (λa0=>?_) (λaW=>?_)
 ·obtain⟨x,hx⟩:∃x,d[k]?=some x:=⟨_,dL⟩
  obtain⟨s,aK⟩:=ad x (eu hx);obtain⟨ak,aG⟩:=AD aK;have ao:x∉d.take k:=by
   intro hm;obtain⟨j,U⟩:=List.getElem?_of_mem hm;rw[pz]at U;split at U
   ·next aX=>
    have ah:=(cT.1 hx).1;have ai:=(cT.1 U).1;have:=(List.getElem_inj (h₀:=ai) (h₁:=ah) aF).1 (by rw[dD ai]at U;rw[dD ah]at hx;rw[cQ U,cQ hx]);omega
   ·cases U
  have Y:(plain cF)[x.toNat]?=some (V.group x,some s):=by
   have W:=(r6 (d.take k) V).2.2.2 x.toNat (by rw[show((x.toNat:Nat):Int)=x by omega];exact ao);rw[<- O]at W;exact W.trans aG
  obtain⟨a,an⟩:=Sq Y;refine(Vm.ints (L:=bE c (c3 o v sp out f)::bC f 1 (bD out.bI)::L) p).el J k rfl hx ⟨_,rfl,some ⟨v,0,none⟩,Vm.cell J 1 rfl 5,?_⟩;have Z:x=((x.toNat:Nat):Int):=by omega
  rw[Z];refine use (Sx an ((aI.less N) _ _ _ _ an) aE aj J) ?_;rintro _ aN ⟨rfl,n⟩;refine⟨rfl,⟨k+1,_,_,c1,bA,N.trans (iB.die an),((wS (s.ids 0 65536) S').inv aj (by have:=aj.ids;omega)).1,?_,n⟩,by rw[c1];dsimp only;omega⟩;rw[fw hx,aB6,<- O];show _=Vs.exit ⟨S',plain cF⟩ x;have aJ:Vs.space ⟨S',plain cF⟩ x=some s:=by
   have:=(jS (V:=⟨S',plain cF⟩) Y).1;rwa[<- Z]at this
  have az:Vs.group ⟨S',plain cF⟩ x=V.group x:=by
   have:=(jS (V:=⟨S',plain cF⟩) Y).2;rwa[<- Z]at this
  rw[ux aJ,Sz,az]
 ·have:k=d.length:=by omega
  subst this;rw[fN]at O;rw[<- O];have ab:(out.dV o.a d).bI=out.bI++d:=rfl;rw[ab];have n:=Vm.fg [_,_,_] J;have G:=Src.sub (l:=0) (n':=i.n) (c':=i.c) n (q:=0) rfl zv bA (λu hu=>by obtain⟨z,_,rfl⟩:=e4.1 hu;rfl);rw[we (n.fr 0 rfl) i.c]at G;have ae:((bD d).drop (0*1)).take (i.n*1)=bD d:=by
   rw[n1,sM,fC,hE (by simp[bD,p])]
  rw[ae]at G;refine⟨_,rfl,f,n.cellAt 1 rfl 9,bC.app (n.ro 3 [2,0,1] rfl) zv rfl G (by rw[aA];omega) (λg aN aB af=>⟨_,rfl,?_⟩)⟩;have aP:bD out.bI++bD d=bD (out.bI++d):=by simp[bD]
  rw[aP]at af;have aC:g.n=(out.bI++d).length:=by rw[aB,aA,da,p]
  have aq:Sep E (bE c (c3 o v sp out f)::bC g 1 (bD (out.bI++d))::bC i 1 (bD d)::Vm A v r S' cF L) aN:=af.ro 3 [2,0,1] rfl;refine St.i aq (by show 9<10;decide) (λaT B=>?_);obtain⟨D,C⟩:∃D:cE,D= {out with bI:=out.bI++d} :=⟨_,rfl⟩
  have B:Sep E (bE c (c3 o v sp D g)::bC g 1 (bD (out.bI++d))::bC i 1 (bD d)::Vm A v r S' cF L) aT:=by rw[C];exact B
  have fin:∀ {w:World} {e:Int} {b:Bool},(out.dV o.a d)= {D with err:=e}->b=decide (d≠ []/\o.a∉d)->Sep E (bE c (c3 o v sp {D with err:=e} g)::bC g 1 (bD (out.bI++d))::bC i 1 (bD d)::Vm A v r S' cF L) w->
    Value.bool b=.bool (decide (d≠ []/\o.a∉d))/\∃(I:PS) (H:Sl),iB ps I/\plain I=plain cF/\H.n=(out.bI++d).length/\Sep E (Vm A v r S' I (bE c (c3 o v sp (out.dV o.a d) H)::bC H 1 (bD (out.bI++d))::L)) w:=by
   intro w e b h1 y R;refine⟨by rw[y],cF,g,N,rfl,aC,?_⟩;rw[h1];exact Vm.hn [_,_] (R.ro 3 [0,1] rfl)
  refine eD (λak=>⟨_,rfl,St.i B (by show 7<10;decide) (λaU K=>fin (e:=12) ?_ ?_ K)⟩) (λak=>⟨_,rfl,o.a,B.cell 1,use (FO (l:=d) (L:=bE c (c3 o v sp D g)::bC g 1 (bD (out.bI++d))::bC i 1 (bD d)::Vm A v r S' cF L) (Ints.at_ (q:=2) rfl p) bA o.a B) ?_⟩)
  ·have m:d= []:=uG bA;rw[C];unfold cE.dV;rw[bM m]
  ·have m:d= []:=uG bA;exact(c4 λe=>e.1 m).symm
  ·have m:d≠ []:=λe=>ak (by rw[p,e];rfl);rintro _ aU ⟨rfl,K⟩;refine⟨_,rfl,cw (λF=>⟨_,rfl,St.i K (by show 7<10;decide) (λa1 ar=>fin (e:=13) ?_ ?_ ar)⟩) (λF=>fin (e:=out.err) ?_ ?_ ?_)⟩;·rw[C];unfold cE.dV;rw[bJ m,bM (kI.1 F)]
   ·exact(c4 λe=>e.2 (kI.1 F)).symm
   ·have X:o.a∉d:=λe=>by rw[kI.2 e]at F;cases F
    rw[C];unfold cE.dV;rw[bJ m,bJ X]
   ·have X:o.a∉d:=λe=>by rw[kI.2 e]at F;cases F
    exact(dh ⟨m,X⟩).symm
   ·have:({D with err:=out.err} :cE)=D:=by rw[C]
    rw[this];exact K
def uA(w:World)(b:Nat):Nat->Nat
 |0=>0
 |k+1=>uA w b k+(match w.cell? ⟨b,k*2+1,none⟩with|some (.pointer (some _))=>1|_=>0)
def FY{b:Nat}(e:r.p=some ⟨b,0,none⟩)(f:r.n=ps.length)(h:Sep E (Vm A v r S ps L) w):∀k,k<=ps.length->uA w b k=jG ((plain ps).take k)
 |0,_=>rfl
 |k+1,l=>by
  obtain⟨p,hp⟩:∃p,ps[k]?=some p:=⟨_,dL⟩
  have i:=FY e f h k bA;have c:w.cell? ⟨b,k*2+1,none⟩=some (.pointer (p.2.map λq=>⟨q.1,0,none⟩)):=by
   have:=Vm.el (F:=λa=>w.cell? (a.add 1)=some (.pointer (p.2.map λq=>⟨q.1,0,none⟩))) f h rfl hp (λj _ c=>by rw[cj];exact c 1 _ rfl);obtain⟨a,d,_,hf⟩:=this;rw[e]at d;cases d;rw[cj,cj]at hf;rw[<- hf];congr 2;omega
  unfold uA jG;rw[fw (ig hp),List.countP_append,c,i];obtain⟨g,o⟩:=p;cases o with
  |none=>rfl
  |some q=>rfl
def pk(c:cg)(gX:Value)(K:bh7)(R:bh6)(w:World):Prop:=
 Dr (λa=>NN c λa25=>∃g:cg,a.cell? (a25.add 5)=some (.pointer g)/\NN g λa27=>∃e:Sl,a.cell? (a27.add 1)=some (Sv e)/\NN c λa29=>∃h:Int,a.cell? ((a29.add 0).add 1)=some (Iv h)/\cx e.p e.n h 2 λm=>∃i:Int,a.cell? (m.add 0)=some (Iv i)/\eX P gX #[(Iv i)] a λo d=>∃j:Int,∃k:Int,∃b:Int,o=.returned (.tuple #[(Iv j),(Iv k),(Iv b)])/\bif(b==0)then(K (.tuple #[(Iv j),(.bool true)]) d)else(bif(b !=12)then(NN c λn=>St ((n.add 7).add 0) (Iv b) (λq=>K (.tuple #[(Iv (-1)),(.bool false)]) q) d)else(Calls P yQ #[(.pointer c),(Iv k)] d λp f=>∃l:Bool,p=.returned (.bool l)/\bif l then(R f)else(K (.tuple #[(Iv (-1)),(.bool false)]) f)))) w
def aLe(c:cg)(gX:Value)(K:bh7)(w:World):O0 c gX K w=∃(a:bh6) (M2:World->Nat),pk c gX K a w/\∀d:Nat->Value,∀b:World,a b->pk c gX K (λw'=>a w'/\M2 w'<M2 b) b:=rfl
def SA(E:Env)(A:At)(v:Nat)(r:Sl)(c sp:Nat)(o:c7)(L:ch)(fv:Value)(f:Cs->Int->Cs×Int×Int×Int):Prop:=
 ∀(S:Cs) (ps:PS) (out:cE) (a:Sl) (g:Int) (w:World),Kc.Inv S->S.bz.next<16777216->Sep E (Vm A v r S ps (bE c (c3 o v sp out a)::bC a 1 (bD out.bI)::L)) w->
  eX P fv #[Iv g] w (bW λx w'=>x=.tuple #[Iv (f S g).2.1,Iv (f S g).2.2.1,Iv (f S g).2.2.2]/\Sep E (Vm A v r (f S g).1 ps (bE c (c3 o v sp out a)::bC a 1 (bD out.bI)::L)) w')
def wV(x:Option Int):Value:=match x with
 |some id=>.tuple #[Iv id,.bool true]
 |none=>.tuple #[Iv (-1),.bool false]
def hP(E:Env)(A:At)(v:Nat)(r:Sl)(c sp:Nat)(o:c7)(L:ch)(ps:PS)(q:Vs×cE×Option Int)(x:Value)(w:World):Prop:=
 x=wV q.2.2/\∃(cF:PS) (a:Sl),iB ps cF/\plain cF=q.1.procs/\a.n=q.2.1.bI.length/\Sep E (Vm A v r q.1.core cF (bE c (c3 o v sp q.2.1 a)::bC a 1 (bD q.2.1.bI)::L)) w
def SB{c sp:Nat}{o:c7}{out:cE}{B:Sl}{fv:Value}{f:Cs->Int->Cs×Int×Int×Int}{n:Nat}{R:bh6}{aj:Nat×Kw.Sp}{F:PS}(y:iB F ps)(hf:SA E A v r c sp o L fv f)(ah:∀S g,cv 1 S (f S g).1)(ai:dF ps)(W:r.n=ps.length)(T:ps.length<=64)(al:Kc.Inv S)(Y:S.bz.next<16777216)(M:B.n=out.bI.length)(U:out.bI.length<=100000)(an:0<=o.a){g:Int}(hp:ps[o.a.toNat]?=some (g,some aj))(h:Sep E (Vm A v r S ps (bE c (c3 o v sp out B)::bC B 1 (bD out.bI)::L)) w)(P:∀(S':Cs) (cF:PS) (out':cE) (j:Sl) (w':World),fy f o.a n ⟨S',plain cF⟩ out'=fy f o.a (n+1) ⟨S,plain ps⟩ out->jG (plain cF)<jG (plain ps)->iB F cF->cv 1 S S'->j.n=out'.bI.length->out'.bI.length<=out.bI.length+64->cF[o.a.toNat]?=ps[o.a.toNat]?->
   Sep E (Vm A v r S' cF (bE c (c3 o v sp out' j)::bC j 1 (bD out'.bI)::L)) w'->R w'):
  pk (some ⟨c,0,none⟩) fv (hP E A v r c sp o L F (fy f o.a (n+1) ⟨S,plain ps⟩ out)) R w:=by
 obtain⟨Q,a⟩:∃Q,fy f o.a (n+1) ⟨S,plain ps⟩ out=Q:=⟨_,rfl⟩
 rw[a]at P ⊢;rw[uy]at a;have ag:Vs.group ⟨S,plain ps⟩ o.a=g:=by
  have:=(jS (V:=⟨S,plain ps⟩) (ig hp)).2;rwa[show((o.a.toNat:Nat):Int)=o.a by omega]at this
 dsimp only at a;rw[ag]at a;unfold pk;refine Dr.i h (λak h1=>⟨_,rfl,some ⟨v,0,none⟩,Vm.cell h1 0 rfl 5,_,rfl,r,h1.cellAt 16 rfl 1,_,rfl,o.a,Vm.cell h1 0 rfl 1,Vm.el W h1 (show o.a=((o.a.toNat:Nat):Int) by omega) hp (λb _ p=>⟨g,by rw[cj];exact p 0 _ rfl,o8 (hf S ps out B g ak al Y h1) ?_⟩)⟩);rintro _ w2 ⟨rfl,G⟩;have t:=ah S g;have K:=t.inv al bA;generalize ao:f S g=q at a G t K;refine⟨_,_,_,rfl,eD (λhe=>?_) (λhe=>gV (λX=>⟨_,rfl,?_⟩) (λheq=>?_))⟩
 ·rw[bM he]at a;rw[<- a];exact⟨rfl,ps,B,y,rfl,M,G⟩
 ·rw[bJ he,bM X]at a;rw[<- a];have z:=Vm.fg [_] G;refine St.i z (by show 7<10;decide) (λaa l=>⟨rfl,ps,B,y,rfl,M,?_⟩);exact Vm.hn [_] l
 ·rw[bJ he,cM]at a;refine use (aLN (S:=q.1) ai W T K.1 M U G) ?_;rintro _ aa ⟨rfl,cF,j,C,m,u,z⟩;have k:=r6 (dead ⟨q.1,plain ps⟩ q.2.2.1) ⟨q.1,plain ps⟩;have J:∀x∈dead ⟨q.1,plain ps⟩ q.2.2.1,∃s,Vs.space ⟨q.1,plain ps⟩ x=some s:=λx hx=>Sm hx;have H:(dead ⟨q.1,plain ps⟩ q.2.2.1).length<=64:=by
   have N:(Vs.pr ⟨q.1,plain ps⟩).length<=64:=by rw[AG,eb];show(plain ps).length<=64;rw[jT];exact T
   unfold dead lz;dsimp only;split;·simp
   ·split;·simp
    ·exact mD (wR _ _ _) N
  generalize dead ⟨q.1,plain ps⟩ q.2.2.1=d at a z u m k J H;refine⟨_,rfl,cw (λp=>?_) (λp=>?_)⟩
  ·obtain⟨i,D⟩:=jL p;rw[bJ i,bJ D]at a;have ho:out.dV o.a d= {out with bI:=out.bI++d} :=by unfold cE.dV;rw[bJ i,bJ D]
   rw[ho]at z u;refine P _ cF {out with bI:=out.bI++d} j aa ?_ ?_ (y.trans C) (t.trans k.1) u (by show(out.bI++d).length<=_;rw[da];omega) ?_ z;·rw[<- a,m]
   ·rw[m];cases d with
    |nil=>exact absurd rfl i
    |cons x d=>
     obtain⟨s,Z⟩:=J x fj;exact aFM (V:=⟨q.1,plain ps⟩) (by rw[Z];rfl)
   ·rcases C.at_ o.a.toNat with e|⟨ad,ap,am,ab⟩
    ·exact e
    ·exfalso;have l:=k.2.2.2 o.a.toNat (by rw[show((o.a.toNat:Nat):Int)=o.a by omega];exact D);rw[<- m]at l;have ae:=ig ab;rw[ae]at l;have af:=ig hp;have l:some (ad,none)=(plain ps)[o.a.toNat]? :=l;rw[af]at l;cases l
  ·have p:=jo p;have O:(Vs.ej ⟨q.1,plain ps⟩ d,out.dV o.a d,none)=Q:=by
    by_cases i:d= []
    ·rw[bM i]at a;rw[<- a];unfold cE.dV;rw[bM i]
    ·have I:o.a∈d:=AV λe=>p ⟨i,e⟩;rw[bJ i,bM I]at a;rw[<- a];unfold cE.dV;rw[bJ i,bM I]
   rw[<- O];exact⟨rfl,cF,j,y.trans C,m,u,z⟩
def FZ{c sp:Nat}{o:c7}{out:cE}{M:Sl}{fv:Value}{f:Cs->Int->Cs×Int×Int×Int}{N:Nat×Kw.Sp}(hf:SA E A v r c sp o L fv f)(Y:∀S g,cv 1 S (f S g).1)(Z:dF ps)(x:r.n=ps.length)(u:ps.length<=64)(al:Kc.Inv S)(ap:S.bz.next+66<=16777216)(af:M.n=out.bI.length)(y:out.bI= [])(R:0<=o.a){g:Int}(hp:ps[o.a.toNat]?=some (g,some N))(h:Sep E (Vm A v r S ps (bE c (c3 o v sp out M)::bC M 1 (bD out.bI)::L)) w):
  Calls P yJ #[Pb c,fv] w (bW (hP E A v r c sp o L ps (Vs.eQ ⟨S,plain ps⟩ f o.a out))):=by
 apply azG;rw[aLe];have ao:=(cT.1 hp).1;obtain⟨b,D⟩:∃b,r.p=some ⟨b,0,none⟩:=by
  have:=Vm.el (F:=λ_=>∃b,r.p=some ⟨b,0,none⟩) x h rfl hp (λb u _=>⟨b,u⟩);obtain⟨_,_,_,ae⟩:=this;exact ae
 have an:jG (plain ps)<=ps.length:=by unfold jG;have:=TW (p:=λp:PP=>p.2.isSome) (l:=plain ps);rw[jT]at this;exact this
 have aa:Vs.eQ ⟨S,plain ps⟩ f o.a out=fy f o.a (ps.length+1) ⟨S,plain ps⟩ out:=by unfold Vs.eQ;rw[jT]
 rw[aa];obtain⟨Q,J⟩:∃Q,fy f o.a (ps.length+1) ⟨S,plain ps⟩ out=Q:=⟨_,rfl⟩
 rw[J];have z:∀ {cF:PS},cF[o.a.toNat]?=some (g,some N)->0<jG (plain cF):=λh1=>List.countP_pos_iff.2 ⟨_,eu (ig h1),rfl⟩;refine⟨λw'=>∃(n:Nat) (S':Cs) (cF:PS) (out':cE) (a:Sl),fy f o.a (n+1) ⟨S',plain cF⟩ out'=Q/\jG (plain cF)<=n/\n<=64/\iB ps cF/\Kc.Inv S'/\S'.bz.next+n+1<=16777216/\a.n=out'.bI.length/\out'.bI.length+64*n<=100000/\cF[o.a.toNat]?=some (g,some N)/\
  Sep E (Vm A v r S' cF (bE c (c3 o v sp out' a)::bC a 1 (bD out'.bI)::L)) w',λw'=>uA w' b ps.length,?_,?_⟩
 ·rw[<- J];refine SB (iB.refl _) hf Y Z x u al bA af (by rw[y];simp) R hp h (λS' cF out' a w' h1 T G i H s I t=>?_);have K:=i.inv al bA;have W:=z (cF:=cF) (I.trans hp);obtain⟨m,hm⟩:∃m,ps.length=m+1:=⟨ps.length-1,bA⟩
  refine⟨m,S',cF,out',a,by rw[<- hm,h1,J],bA,bA,G,K.1,bA,H,?_,I.trans hp,t⟩;rw[y]at s;simp only[rb]at s;omega
 ·rintro _ ak ⟨n,ar,e,aj,aq,C,am,ah,d,O,ai,V,ag,j,h1⟩;have B:r.n=e.length:=by rw[d.len];exact x
  have k:=FY D B h1 e.length (dN _);rw[<- C];refine SB d hf Y (Z.less d) B (by rw[d.len];exact u) O bA V bA R j h1 (λS' cF out' a w' T G i H s I t U=>?_);have K:=H.inv O bA;have W:=z (cF:=cF) (t.trans j);obtain⟨m,hm⟩:∃m,n=m+1:=⟨n-1,bA⟩
  have X:r.n=cF.length:=by rw[i.len];exact x
  have q:=FY D X U cF.length (dN _);refine⟨⟨m,S',cF,out',a,by rw[<- hm,T,C],bA,bA,i,K.1,bA,s,bA,t.trans j,U⟩,?_⟩;have ab:(plain cF).take cF.length=plain cF:=hE (by rw[jT];exact dN _);have ad:(plain e).take e.length=plain e:=hE (by rw[jT];exact dN _);rw[ab]at q;rw[ad]at k;rw[i.len]at q;rw[d.len]at k;show uA w' b ps.length<uA ak b ps.length;rw[k,q];exact G
end Go.Mp
namespace Go.Kc
open Go Go.Kt
variable{S:Cs}
def SC(h:Inv S)(b:S.bz.next<16777216){g:Int}(c:S.live g=true)(text:List UInt8)(he:(S.cN g text).2.2.2=0):0<=(S.cN g text).2.1/\(S.cN g text).2.1<16777216:=by
 rcases rH h b c text with⟨S0,a,k,e,_⟩|⟨S0,t,k,e⟩
 ·rw[e];exact⟨h.ct.next,b⟩
 ·rw[e]at he;cases he
def aI4(h:Inv S)(b:S.bz.next<16777216){g:Int}(he:(S.fresh g).2.2.2=0):0<=(S.fresh g).2.1/\(S.fresh g).2.1<16777216:=by
 unfold Cs.fresh at he ⊢;split at he;·cases he
 ·next a=>rw[bJ a];exact SC h b (by simpa using a) _ he
def aKO(h:Inv S)(c:S.bz.next<16777216){id g:Int}(he:(S.copy id g).2.2.2=0):0<=(S.copy id g).2.1/\(S.copy id g).2.1<16777216:=by
 unfold Cs.copy at he ⊢;dsimp only at he ⊢;split at he;·cases he
 ·next a=>
  rw[bJ a];have a:S.live g=true:=by
   cases b:S.live g with
   |true=>rfl
   |false=>exact absurd (.inr (.inl b)) a
  exact SC h c a _ he
def aJn(h:Inv S)(e:S.bz.next<16777216){k:Int×Int}{g:Int}(he:(S.cD k g).2.2.2=0):0<=(S.cD k g).2.1/\(S.cD k g).2.1<16777216:=by
 unfold Cs.cD at he ⊢;dsimp only at he ⊢;split at he;·cases he
 next b=>
 rw[bJ b];by_cases hm:S.bz.of k<0
 ·rw[dh hm]at he ⊢;simp only[fP]at he ⊢;have f:S.live g=true:=by
   cases c:S.live g with
   |true=>rfl
   |false=>exact absurd (.inr c) b
  have d:=oe S.bz (kf:=k.1) (ki:=k.2) (o:=g) ⟨h.ct.next,e⟩ (.inr hm);split at he;·next a=>rw[bM a];dsimp only;rw[d.1];exact⟨h.ct.next,e⟩
  ·next a=>exact absurd he a
 ·rw[c4 hm]at he ⊢;simp only[kK,gq]at he ⊢;obtain⟨p,hp,_⟩:=VJ h.toInv0 (k:=k) bA;have:=h.ct.ids _ _ hp;split at he;·next a=>rw[bM a];dsimp only;omega
  ·next a=>exact absurd he a
end Go.Kc
namespace Go.Kw
open Go Go.Kc Go.Kt
def F0{f:Cs->Int->Cs×Int×Int×Int}{pid:Int}(hf:∀S g,cv 1 S (f S g).1)(a:∀S g,Kc.Inv S->S.bz.next<16777216->(f S g).2.2.2=0->0<=(f S g).2.1/\(f S g).2.1<16777216):∀(n:Nat) (V:Vs) (o:cE) (id:Int),Kc.Inv V.core->V.core.bz.next+n<=16777216->(fy f pid n V o).2.2=some id->0<=id/\id<16777216
 |0,V,o,id,_,_,h=>by cases h
 |n+1,V,o,id,e,j,h=>by
  rw[uy]at h;dsimp only at h;have h1:=hf V.core (V.group pid);have c:=a V.core (V.group pid) e bA;have b:=h1.inv e bA;generalize f V.core (V.group pid)=r at h h1 c b;split at h;·next he=>cases h;exact c he
  split at h;·cases h
  generalize dead {V with core:=r.1} r.2.2.1=d at h;have hm:r.1.bz.next<=V.core.bz.next+1:=b.2.2;have b1:=((r6 d {V with core:=r.1}).1).inv b.1 (by show r.1.bz.next+0<=_;omega);have i:(Vs.ej {V with core:=r.1} d).core.bz.next<=r.1.bz.next+0:=b1.2.2;split at h;·cases h
  split at h;·cases h
  exact F0 hf a n _ _ id b1.1 bA h
end Go.Kw
namespace Go.Mp
open Go Go.Vc Go.Sp Go.Proofs Go.Kc Go.Kw Go.Kt
variable{E:Env}{L:ch}{w W:World}{A:At}{S:Cs}{v:Nat}{r:Sl}{ps:PS}
def lL{c sp:Nat}{o:c7}{out:cE}{a:Sl}(F:ch)(h:Sep E (Vm A v r S ps (bE c (c3 o v sp out a)::bC a 1 (bD out.bI)::(F++L))) w):Sep E (F++Vm A v r S ps (bE c (c3 o v sp out a)::bC a 1 (bD out.bI)::L)) w:=
 Vm.fg F (Vm.pL (L':=F++(bE c (c3 o v sp out a)::bC a 1 (bD out.bI)::L)) (kH [_,_] F L) h)
def lh{c sp:Nat}{o:c7}{out:cE}{a:Sl}(F:ch)(h:Sep E (F++Vm A v r S ps (bE c (c3 o v sp out a)::bC a 1 (bD out.bI)::L)) w):Sep E (Vm A v r S ps (bE c (c3 o v sp out a)::bC a 1 (bD out.bI)::(F++L))) w:=
 Vm.pL (L:=F++(bE c (c3 o v sp out a)::bC a 1 (bD out.bI)::L)) (kH F [_,_] L) (Vm.hn F h)
def qs{i a:Nat}{g:Int}{s:Kw.Sp}:plain (ps.set i (g,some (a,s)))=(plain ps).set i (g,some s):=by unfold plain;rw[hq];rfl
def kG(E:Env)(A:At)(v:Nat)(r:Sl)(c sp:Nat)(o:c7)(L:ch)(n:Nat)(S:Cs)(q:Vs×cE×Option Int)(x:Value)(w:World):Prop:=
 x=wV q.2.2/\cv 66 S q.1.core/\∃(cF:PS) (a:Sl),dF cF/\cF.length=n/\plain cF=q.1.procs/\a.n=q.2.1.bI.length/\(q.2.2.isSome=true->∃g s,cF[o.a.toNat]?=some (g,some (sp,s)))/\
  Sep E (Vm A v r q.1.core cF (bE c (c3 o v sp q.2.1 a)::bC a 1 (bD q.2.1.bI)::L)) w
def hP.cut{c sp:Nat}{o:c7}{F:ch}{q:Vs×cE×Option Int}{x:Value}(h:hP E A v r c sp o (F++L) ps q x w):hP E A v r c sp o L ps q x w:=by
 obtain⟨h1,cF,a,b,d,e,f⟩:=h;exact⟨h1,cF,a,b,d,e,(lL F f).right⟩
def kG.cut{c sp n:Nat}{o:c7}{F:ch}{q:Vs×cE×Option Int}{x:Value}(h:kG E A v r c sp o (F++L) n S q x w):kG E A v r c sp o L n S q x w:=by
 obtain⟨h1,b,cF,a,j,d,e,f,g,i⟩:=h;exact⟨h1,b,cF,a,j,d,e,f,g,(lL F i).right⟩
def iB.own{cF:PS}(h:iB ps cF){i:Nat}{g:Int}{q:Nat×Kw.Sp}(hp:ps[i]?=some (g,some q))(he:(plain cF)[i]?=(plain ps)[i]?):cF[i]?=some (g,some q):=by
 rcases h.at_ i with e|⟨c,d,b,a⟩
 ·exact e.trans hp
 ·rw[ig a,ig hp]at he;cases he
def F1{f:Cs->Int->Cs×Int×Int×Int}(i:∀S g,cv 1 S (f S g).1){pid:Int}(k:0<=pid){out:cE}{cF:PS}{q:Vs×cE×Option Int}(a:Vs.eQ ⟨S,plain ps⟩ f pid out=q)(b:iB ps cF)(c:plain cF=q.1.procs){g:Int}{d:Nat×Kw.Sp}(hp:ps[pid.toNat]?=some (g,some d))(j:q.2.2.isSome=true):cF[pid.toNat]?=some (g,some d):=by
 have h:=(wT (pid:=pid) i ((plain ps).length+1) ⟨S,plain ps⟩ out).2.2;have a:fy f pid ((plain ps).length+1) ⟨S,plain ps⟩ out=q:=a;rw[a]at h;rcases h j with e|e;·exact b.own hp (by rw[c];exact e)
 ·omega
def F2{f:Cs->Int->Cs×Int×Int×Int}(a:∀S g,cv 1 S (f S g).1)(b:ps.length<=64)(pid:Int)(out:cE):cv 66 S (Vs.eQ ⟨S,plain ps⟩ f pid out).1.core:=by
 have h:=(wT (pid:=pid) a ((plain ps).length+1) ⟨S,plain ps⟩ out).1;exact h.up (by rw[jT];omega)
def hP.kG{c sp:Nat}{o:c7}{f:Cs->Int->Cs×Int×Int×Int}{out:cE}{x:Value}(e:∀S g,cv 1 S (f S g).1)(b:dF ps)(m:ps.length<=64)(j:0<=o.a){g:Int}{s:Kw.Sp}(hp:ps[o.a.toNat]?=some (g,some (sp,s)))(h:hP E A v r c sp o L ps (Vs.eQ ⟨S,plain ps⟩ f o.a out) x w):kG E A v r c sp o L ps.length S (Vs.eQ ⟨S,plain ps⟩ f o.a out) x w:=by
 obtain⟨h1,cF,i,a,d,k,l⟩:=h;exact⟨h1,F2 e m _ _,cF,i,b.less a,a.len,d,k,λb=>⟨g,s,F1 e j rfl a d hp b⟩,l⟩
def dF.set(h:dF ps){i a:Nat}{g:Int}{s:Kw.Sp}(d:gh s):dF (ps.set i (g,some (a,s))):=by
 intro j c a' s' b;rw[jg]at b;split at b
 ·split at b;·cases b;exact d
  ·cases b
 ·exact h j c a' s' b
def SD{c sp k:Nat}{o:c7}{out:cE}{a:Sl}{bH id:Int}{wr:Bool}{g:Int}{s:Kw.Sp}(d:k=1\/k=2)(i:0<=id/\id<16777216)(e:gh s)(j:Kc.Inv S)(hp:ps[o.a.toNat]?=some (g,some (sp,s)))(h:Sep E (Vm A v r S ps (bE c (c3 o v sp out a)::L)) w):Calls P CO #[Pb c,Iv bH,Iv id,Iv (k:Int),.bool wr] w
  (bW λx w'=>x=.tuple #[]/\Sep E (Vm A v r (S.bX id 1).1 (ps.set o.a.toNat (g,some (sp,s.enter bH id k wr))) (bE c (c3 o v sp out a)::L)) w'):=by
 apply aw3;unfold OE qQ qZ;refine⟨_,rfl,some ⟨v,0,none⟩,Vm.cell h 0 rfl 5,_,rfl,some ⟨A.c,0,none⟩,h.cellAt 16 rfl 0,use (AA (id:=id) (n:=1) j h) ?_⟩;rintro _ f ⟨rfl,h1⟩;have h1:Sep E (Vm A v r (S.bX id 1).1 ps (bE c (c3 o v sp out a)::L)) f:=h1;refine⟨_,rfl,_,rfl,some ⟨sp,0,none⟩,Vm.cell h1 0 rfl 6,use (aKI (bH:=bH) (id:=id) (k:=k) (wr:=wr) d bA e (Vm.op hp h1)) ?_⟩;rintro _ w2 ⟨⟨x,rfl⟩,b⟩;exact⟨_,rfl,rfl,Vm.sh hp b⟩
def SE{V:Vs}{pid p id:Int}{k:Nat}{wr:Bool}{s:Kw.Sp}(h:V.space pid=some s):V.enter pid p id k wr=⟨(V.core.bX id 1).1,V.procs.set pid.toNat (V.group pid,some (s.enter p id k wr))⟩:=by
 unfold Vs.enter;have h1:Vs.space {V with core:=(V.core.bX id 1).1} pid=some s:=h;dsimp only;rw[h1];rfl
def SF{c sp:Nat}{o:c7}{out:cE}{m:Sl}{id:Int}(D:dF ps)(I:r.n=ps.length)(q:ps.length<=64)(N:Kc.Inv S)(z:S.bz.next+66<=16777216)(H:m.n=out.bI.length)(u:out.bI= [])(n:0<=o.a){g:Int}{s:Kw.Sp}(hp:ps[o.a.toNat]?=some (g,some (sp,s)))(h:Sep E (Vm A v r S ps (bE c (c3 o v sp out m)::bC m 1 (bD out.bI)::L)) w):
  Calls P CM #[Pb c,Iv id] w (bW (kG E A v r c sp o L ps.length S (Vs.cb ⟨S,plain ps⟩ o.a id out))):=by
 have C:∀(S:Cs) (g:Int),cv 1 S ((λ(S:Cs) g=>let r:=S.cb id g;(r.1,id,r.2)) S g).1:=λS g=>(cv.cb id g).up bA;apply aw2;unfold OA qC qb qp;refine Al.i h (λe O h1=>Al.i h1 (λi w2 p=>?_));have G:=lh [bE i [Iv id],bE e [Pb c]] p;refine⟨some ⟨c,0,none⟩,p.cellAt 1 rfl 0,use (FZ (fv:=.func (.func Dh) #[] #[Pb e,Pb i]) (f:=λS g=>let r:=S.cb id g;(r.1,id,r.2)) (λS' cF out' j k w' F M h'=>⟨_,_,rfl,by kernel_rfl,?_⟩) C D I q N z H u n hp G) ?_⟩
 ·show Calls P Dh #[Iv k,Pb e,Pb i] w' _;apply atQ;unfold OR qD qZ qb qj;refine Dr.i h' (λJ a=>⟨some ⟨c,0,none⟩,Vm.cell a 3 rfl 0,_,rfl,some ⟨v,0,none⟩,Vm.cell a 0 rfl 5,_,rfl,some ⟨A.c,0,none⟩,a.cellAt 16 rfl 0,id,Vm.cell a 2 rfl 0,use (RZ (id:=id) (g:=k) F a) ?_⟩);rintro _ K ⟨rfl,d⟩;have d:Sep E (Vm A v r (S'.cb id k).1 cF (bE c (c3 o v sp out' j)::bC j 1 (bD out'.bI)::([bE i [Iv id],bE e [Pb c]]++L))) K:=d;exact⟨_,_,rfl,id,Vm.cell d 2 rfl 0,rfl,d⟩
 rintro x J l;have l:=(hP.cut l).kG C D q n hp;obtain⟨rfl,b⟩:=l;have t:Vs.cb ⟨S,plain ps⟩ o.a id out=Vs.eQ ⟨S,plain ps⟩ (λS g=>let r:=S.cb id g;(r.1,id,r.2)) o.a out:=rfl;rw[<- t]at b ⊢;cases B:(Vs.cb ⟨S,plain ps⟩ o.a id out).2.2 with
 |none=>exact⟨_,_,rfl,by rw[B];rfl,b⟩
 |some y=>exact⟨_,_,rfl,by rw[B];rfl,b⟩
def lj(o:Option En):List Value:=match o with
 |some e=>e.vs
 |none=>wb
def F3(o:Option En):∃(k id:Int) (wr tc:Bool),lj o= [Iv k,Iv id,.bool wr,.bool tc]/\Qa o=.tuple #[.agg #[Iv k,Iv id,.bool wr,.bool tc],.bool o.isSome]:=by
 cases o with
 |some e=>exact⟨_,_,_,_,rfl,rfl⟩
 |none=>exact⟨_,_,_,_,rfl,rfl⟩
def kG.eQ{c sp n:Nat}{o:c7}{q:Vs×cE×Option Int}{x:Value}(h:kG E A v r c sp o L n S q x w):∃(id:Int) (b:Bool),x=.tuple #[Iv id,.bool b]:=by
 obtain⟨rfl,_⟩:=h;cases q.2.2 with
 |none=>exact⟨_,_,rfl⟩
 |some y=>exact⟨_,_,rfl⟩
def SG{c sp:Nat}{o:c7}{out:cE}{i:Sl}{bH:Int}{x:Rg}(hx:x.fits)(aA:0<=bH/\bH<65536)(Y:dF ps)(aa:r.n=ps.length)(ai:ps.length<=64)(an:Kc.Inv S)(ae:S.bz.next+66<=16777216)(ay:i.n=out.bI.length)(ad:out.bI= [])(ag:0<=o.a){g:Int}{s:Kw.Sp}(hp:ps[o.a.toNat]?=some (g,some (sp,s)))(h:Sep E (Vm A v r S ps (bE c (c3 o v sp out i)::bC i 1 (bD out.bI)::L)) w):
  Calls P CD #[Pb c,Iv bH,.agg x.vs.toArray] w (bW (kG E A v r c sp o L ps.length S (Vs.there ⟨S,plain ps⟩ o.a bH s x out))):=by
 have N:=Y _ _ _ _ hp;obtain⟨B,K⟩:∃B,s.entry bH=B:=⟨_,rfl⟩
 obtain⟨aP,aM,aO,aN,ab,af⟩:=F3 B;apply aw7;unfold Oj qC qD qE qG qL qU qZ qb qp qy zG zY zo zu zy;refine Al.i h (λm aQ h1=>Al.i h1 (λn w2 aI=>Al.i aI (λl aL ah=>?_)));have ah:Sep E (bE l x.vs::bE n [Iv bH]::bE m [Pb c]::Vm A v r S ps (bE c (c3 o v sp out i)::bC i 1 (bD out.bI)::L)) aL:=ah;have aH:=lh [bE l x.vs,bE n [Iv bH],bE m [Pb c]] ah;refine⟨λap ok w'=>∃q:Nat,ap=⟨q,0,none⟩/\ok=B.isSome/\Sep E (bE q (lj B)::bE l x.vs::bE n [Iv bH]::bE m [Pb c]::Vm A v r S ps (bE c (c3 o v sp out i)::bC i 1 (bD out.bI)::L)) w',Dr.i aH (λaD p=>⟨some ⟨c,0,none⟩,Vm.cell p 4 rfl 0,_,rfl,some ⟨sp,0,none⟩,Vm.cell p 0 rfl 6,bH,Vm.cell p 3 rfl 0,?_,?_⟩),?_⟩
 ·refine use (wc bH N (Vm.op hp p)) ?_;rintro _ O ⟨rfl,a⟩;have d:=lL [bE l x.vs,bE n [Iv bH],bE m [Pb c]] (Vm.bk hp a);have d:Sep E (bE l x.vs::bE n [Iv bH]::bE m [Pb c]::Vm A v r S ps (bE c (c3 o v sp out i)::bC i 1 (bD out.bI)::L)) O:=d;rw[K,af];refine⟨_,_,_,_,_,rfl,Al.i d (λq am t=>⟨bH,t.cellAt 2 rfl 0,rfl,some ⟨sp,0,none⟩,?_,rfl,some ⟨c,0,none⟩,t.cellAt 3 rfl 0,rfl,eh _ t rfl (λaE C=>⟨q,rfl,rfl,?_⟩)⟩)⟩
  ·have aJ:=Vm.hn [_,_,_,_] t;exact Vm.cell aJ 4 rfl 6
  ·rw[ab];exact C
 ·have aw:=lL [bE l x.vs,bE n [Iv bH],bE m [Pb c]] p;refine Al.i aw (λq O a=>?_);have a:Sep E (bE q wb::bE l x.vs::bE n [Iv bH]::bE m [Pb c]::Vm A v r S ps (bE c (c3 o v sp out i)::bC i 1 (bD out.bI)::L)) O:=a;have av:=Vm.hn [_,_,_,_] a;refine⟨bH,a.cellAt 2 rfl 0,rfl,some ⟨sp,0,none⟩,Vm.cell av 4 rfl 6,rfl,some ⟨c,0,none⟩,a.cellAt 3 rfl 0,rfl,use (wc bH N (Vm.op hp av)) ?_⟩;rintro _ am ⟨rfl,d⟩;have t:=Vm.fg [_,_,_,_] (Vm.bk hp d);rw[K,af];refine⟨_,_,_,_,_,rfl,eh _ t rfl (λaE C=>⟨q,rfl,rfl,?_⟩)⟩;rw[ab];exact C
 rintro _ _ _ aD ⟨q,rfl,rfl,p⟩;have ar:=lh [bE q (lj B),bE l x.vs,bE n [Iv bH],bE m [Pb c]] p;have ak:∀e,B=some e->Vs.there ⟨S,plain ps⟩ o.a bH s x out=Vs.cb ⟨S,plain ps⟩ o.a e.id out:=λe he=>by unfold Vs.there;rw[K,he]
 have al:B=none->Vs.there ⟨S,plain ps⟩ o.a bH s x out=(let r:=Vs.eQ ⟨S,plain ps⟩ (λS g=>S.cD (hi x bH) g) o.a out;match r.2.2 with|some id=>(r.1.enter o.a bH id 2 x.wr,r.2)|none=>r):=λhe=>by unfold Vs.there;rw[K,he];rfl
 cases B with
 |some e=>
  rw[ak e rfl];have au:Sep E (bE q e.vs::bE l x.vs::bE n [Iv bH]::bE m [Pb c]::Vm A v r S ps (bE c (c3 o v sp out i)::bC i 1 (bD out.bI)::L)) aD:=p;refine bT rfl ⟨some ⟨c,0,none⟩,p.cellAt 3 rfl 0,ld au 0 rfl rfl (x:=(e.id:Int)) rfl (use (SF (id:=(e.id:Int)) Y aa ai an ae ay ad ag hp ar) ?_)⟩;rintro _ O D;have D:=kG.cut D;obtain⟨y,b,rfl⟩:=D.eQ;exact⟨_,_,rfl,D⟩
 |none=>
  rw[al rfl];have W:∀(S:Cs) (g:Int),cv 1 S ((λ(S:Cs) g=>S.cD (hi x bH) g) S g).1:=λS g=>cv.cD _ g;refine bF rfl ⟨some ⟨c,0,none⟩,p.cellAt 3 rfl 0,use (FZ (fv:=.func (.func CN) #[] #[Pb m,Pb l,Pb n]) (f:=λS g=>S.cD (hi x bH) g) (λS' cF out' H aq w' aF az h'=>⟨_,_,rfl,by kernel_rfl,?_⟩) W Y aa ai an ae ay ad ag hp ar) ?_⟩
  ·show Calls P CN #[Iv aq,Pb m,Pb l,Pb n] w' _;apply atW;unfold OB qD qG qZ qb zR zX zo;have z:∀ {ao:Cs} {w:World},Sep E (Vm A v r ao cF (bE c (c3 o v sp out' H)::bC H 1 (bD out'.bI)::([bE q (lj none),bE l x.vs,bE n [Iv bH],bE m [Pb c]]++L))) w->∀j,w.cell? ⟨l,j,none⟩=x.vs[j]? :=λaK j=>Vm.cell aK 3 rfl j;refine Dr.i h' (λO a=>⟨some ⟨c,0,none⟩,Vm.cell a 5 rfl 0,_,rfl,some ⟨v,0,none⟩,Vm.cell a 0 rfl 5,_,rfl,some ⟨A.c,0,none⟩,a.cellAt 16 rfl 0,_,z a 0,_,z a 1,_,z a 2,_,z a 3,_,z a 4,_,z a 5,bH,Vm.cell a 4 rfl 0,use (aLM hx aA a) ?_⟩);rintro _ am ⟨rfl,d⟩;refine⟨_,_,rfl,_,d.cellAt 16 rfl 0,rfl,_,Vm.cell d 0 rfl 5,rfl,_,Vm.cell d 5 rfl 0,rfl,use (aLF (k:=hi x bH) (g:=aq) aF az d) ?_⟩;rintro _ aE ⟨rfl,t⟩;exact⟨_,_,_,rfl,rfl,t⟩
  rintro y O D;have D:=D.cut (F:=[]);obtain⟨Z,cF,H,G,u,T,d⟩:=D;have U:=F1 W ag (out:=out) rfl G u hp;have X:=F2 (S:=S) W ai o.a out;have aB:=(wT (pid:=o.a) W ((plain ps).length+1) ⟨S,plain ps⟩ out).1;have J:=aB.inv an (by rw[jT];show S.bz.next+((ps.length+1:Nat):Int)<=_;omega);have R:=F0 (pid:=o.a) W (λS g an aa he=>aJn an aa he) ((plain ps).length+1) ⟨S,plain ps⟩ out;have aG:fy (λS g=>S.cD (hi x bH) g) o.a ((plain ps).length+1) ⟨S,plain ps⟩ out=Vs.eQ ⟨S,plain ps⟩ (λS g=>S.cD (hi x bH) g) o.a out:=rfl;rw[aG]at J R;dsimp only;generalize Vs.eQ ⟨S,plain ps⟩ (λS g=>S.cD (hi x bH) g) o.a out=Q at Z u T d U J R X ⊢;cases I:Q.2.2 with
  |none=>
   rw[I]at Z;subst Z;exact⟨_,_,rfl,bF rfl ⟨by dsimp only;rw[I];rfl,X,cF,H,Y.less G,G.len,u,T,(λe=>by dsimp only at e;rw[I]at e;cases e),(lL [_,_,_,_] d).right⟩⟩
  |some id=>
   rw[I]at Z;subst Z;have aj:=R id an (by rw[jT];show S.bz.next+((ps.length+1:Nat):Int)<=_;omega) I;have M:=U (by rw[I];rfl);refine⟨_,_,rfl,bT rfl ⟨some ⟨c,0,none⟩,Vm.cell d 5 rfl 0,bH,Vm.cell d 4 rfl 0,x.wr,Vm.cell d 3 rfl 5,use (SD (k:=2) (bH:=bH) (id:=id) (wr:=x.wr) (.inr rfl) aj N J.1 M d) ?_⟩⟩;rintro _ am ⟨rfl,t⟩;have aC:Vs.space Q.1 o.a=some s:=by
    have C:=ig M;rw[u]at C;have:=(jS (V:=Q.1) C).1;rwa[show((o.a.toNat:Nat):Int)=o.a by omega]at this
   have ax:Vs.group Q.1 o.a=g:=by
    have C:=ig M;rw[u]at C;have:=(jS (V:=Q.1) C).2;rwa[show((o.a.toNat:Nat):Int)=o.a by omega]at this
   refine⟨rfl,?_⟩;dsimp only;rw[SE aC,ax];refine⟨by dsimp only;rw[I];rfl,X.trans (cv.bX id 1),_,H,(Y.less G).set (N.enter (.inr rfl)),?_,?_,T,λ_=>⟨g,_,iM (cT.1 M).1⟩,(lL [_,_,_,_] t).right⟩;·rw[dA];exact G.len
   ·rw[qs,u]
def SH{c sp:Nat}{o:c7}{Q:Vs×cE×Option Int}{V':Vs}{cF:PS}{a:Sl}{n:Nat}{id:Int}{s':Kw.Sp}{g:Int}{S:Cs}(h:Q.2.2=some id)(i:cv 66 S V'.core)(j:dF cF)(h1:cF.length=n)(b:plain cF=V'.procs)(d:a.n=Q.2.1.bI.length)(e:cF[o.a.toNat]?=some (g,some (sp,s')))(f:Sep E (Vm A v r V'.core cF (bE c (c3 o v sp Q.2.1 a)::bC a 1 (bD Q.2.1.bI)::L)) w):kG E A v r c sp o L n S (V',Q.2) (.tuple #[Iv id,.bool true]) w:=
 ⟨by dsimp only;rw[h];rfl,i,cF,a,j,h1,b,d,λ_=>⟨g,s',e⟩,f⟩
def aLU{c sp:Nat}{o:c7}{out:cE}{t:Sl}{bH:Int}(ad:dF ps)(ak:r.n=ps.length)(az:ps.length<=64)(au:Kc.Inv S)(ar:S.bz.next+66<=16777216)(aH:t.n=out.bI.length)(aq:out.bI= [])(aw:0<=o.a){g:Int}{s:Kw.Sp}(hp:ps[o.a.toNat]?=some (g,some (sp,s)))(h:Sep E (Vm A v r S ps (bE c (c3 o v sp out t)::bC t 1 (bD out.bI)::L)) w):
  Calls P Jg #[Pb c,Iv bH] w (bW (kG E A v r c sp o L ps.length S (Vs.own ⟨S,plain ps⟩ o.a bH s out))):=by
 have ab:=ad _ _ _ _ hp;obtain⟨a,ag⟩:∃a,s.entry bH=a:=⟨_,rfl⟩
 obtain⟨aU,d,aS,aR,x,aI⟩:=F3 a;obtain⟨pg,Z⟩:∃pg,(S.bz.get d).1=pg:=⟨_,rfl⟩
 obtain⟨K,q⟩:∃K:bh7,K=kG E A v r c sp o L ps.length S (Vs.own ⟨S,plain ps⟩ o.a bH s out):=⟨_,rfl⟩
 rw[<- q];apply azF;unfold On qE qG qL qQ qU qV qX qZ qb qg qh qm qp zH zo zu zy;refine Al.i h (λu aP h1=>?_);have h1:Sep E (bE u [Pb c]::Vm A v r S ps (bE c (c3 o v sp out t)::bC t 1 (bD out.bI)::L)) aP:=h1;have aE:=lh [bE u [Pb c]] h1;refine⟨λaN J w'=>∃m q2:Nat,aN=⟨m,0,none⟩/\J=⟨q2,0,none⟩/\Sep E (Vm A v r S ps (bE c (c3 o v sp out t)::bC t 1 (bD out.bI)::([bE q2 [.bool a.isSome],bE m (lj a),bE u [Pb c]]++L))) w',
  ⟨some ⟨c,0,none⟩,h1.cell 0,_,rfl,some ⟨sp,0,none⟩,Vm.cell aE 0 rfl 6,use (wc bH ab (Vm.op hp aE)) ?_⟩,?_⟩
 ·rintro _ w2 ⟨rfl,ax⟩;have l:=lL [bE u [Pb c]] (Vm.bk hp ax);rw[ag,aI];refine⟨_,_,_,_,_,rfl,Al.i l (λm aC R=>Al.i R (λq2 ao z=>eh _ z.swap rfl (λH i=>St.i i.swap (by show 0<1;decide) (λaV J=>⟨m,q2,rfl,rfl,?_⟩))))⟩;refine lh [_,_,_] ?_;rw[x];exact J
 rintro _ _ _ w2 ⟨m,q2,rfl,rfl,ax⟩;have M:∀ {S':Cs} {cF:PS} {o':cE} {j:Sl} {F:ch} {w:World},Sep E (Vm A v r S' cF (bE c (c3 o v sp o' j)::bC j 1 (bD o'.bI)::(bE q2 [.bool a.isSome]::bE m (lj a)::F))) w->w.cell? ⟨m,1,none⟩=some (Iv d):=λai=>by rw[Vm.cell ai 3 rfl 1,x];rfl
 refine⟨λaL w'=>∃B:Nat,aL=⟨B,0,none⟩/\Sep E (Vm A v r S ps (bE c (c3 o v sp out t)::bC t 1 (bD out.bI)::([bE q2 [.bool a.isSome],bE m (lj a),bE u [Pb c],bE B pg.vs]++L))) w',
  Dr.i ax (λaM l=>⟨some ⟨c,0,none⟩,Vm.cell l 4 rfl 0,_,rfl,some ⟨v,0,none⟩,Vm.cell l 0 rfl 5,_,rfl,some ⟨A.c,0,none⟩,l.cellAt 16 rfl 0,d,M l,?_,?_⟩),?_⟩
 ·refine use (uw d l) ?_;rintro _ aC ⟨rfl,R⟩;rw[Z];have R:Sep E (Vm A v r S ps (bE c (c3 o v sp out t)::bC t 1 (bD out.bI)::([bE q2 [.bool a.isSome],bE m (lj a),bE u [Pb c]]++L))) aC:=R;refine⟨_,_,_,_,_,_,_,_,_,_,rfl,Al.i R (λB ao z=>?_)⟩;have ap:=Vm.eA z;refine⟨d,(Vm.cell ap 4 rfl 1).trans (by rw[x];rfl),rfl,_,ap.cellAt 16 rfl 0,rfl,_,Vm.cell ap 1 rfl 5,rfl,_,Vm.cell ap 5 rfl 0,rfl,eh _ z rfl (λH i=>⟨B,rfl,?_⟩)⟩;have i:Sep E (bE B pg.vs::Vm A v r S ps ([bE c (c3 o v sp out t),bC t 1 (bD out.bI),bE q2 [.bool a.isSome],bE m (lj a),bE u [Pb c]]++L)) H:=i;exact Vm.pL (il (l₁:=[_,_,_,_,_])).symm (Vm.eA i)
 ·refine Al.i l (λB aC R=>?_);have ae:=Vm.eA R;refine⟨d,(Vm.cell ae 4 rfl 1).trans (by rw[x];rfl),rfl,_,ae.cellAt 16 rfl 0,rfl,_,Vm.cell ae 1 rfl 5,rfl,_,Vm.cell ae 5 rfl 0,rfl,use (uw d ae) ?_⟩;rintro _ ao ⟨rfl,z⟩;rw[Z];refine⟨_,_,_,_,_,_,_,_,_,_,rfl,eh _ (Vm.out z) rfl (λH i=>⟨B,rfl,?_⟩)⟩;have i:Sep E (bE B pg.vs::Vm A v r S ps ([bE c (c3 o v sp out t),bC t 1 (bD out.bI),bE q2 [.bool a.isSome],bE m (lj a),bE u [Pb c]]++L)) H:=i;exact Vm.pL (il (l₁:=[_,_,_,_,_])).symm (Vm.eA i)
 rintro _ _ aM ⟨B,rfl,l⟩;refine⟨λb w'=>b=(a.isSome&&decide (pg.refs<=1))/\w'=aM,⟨a.isSome,Vm.cell l 2 rfl 0,cw (λhe=>⟨pg.refs,Vm.cell l 5 rfl 5,by rw[he];rfl,rfl⟩) (λhe=>⟨by rw[he];rfl,rfl⟩)⟩,?_⟩;rintro _ _ _ ⟨rfl,rfl⟩;refine cw (λN=>?_) (λN=>?_)
 ·cases a with
  |none=>cases N
  |some e=>
  have N:decide (pg.refs<=1)=true:=by simpa using N
  have U:d=e.id:=by simp only[lj,En.vs,List.cons.injEq,Value.int.injEq]at x;exact x.2.1.2.symm
  have T:Vs.own ⟨S,plain ps⟩ o.a bH s out=Vs.cb ⟨S,plain ps⟩ o.a e.id out:=by
   unfold Vs.own;rw[ag];dsimp only;rw[<- U,Z,bM (jL N)]
  rw[T]at q;refine⟨some ⟨c,0,none⟩,Vm.cell l 4 rfl 0,d,M l,use (SF (id:=d) ad ak az au ar aH aq aw hp l) ?_⟩;rintro _ ao af;have af:=kG.cut af;obtain⟨y,b,rfl⟩:=af.eQ;rw[U]at af;exact⟨_,_,rfl,by rw[q];exact af⟩
 ·obtain⟨f,hf⟩:∃f:Cs->Int->Cs×Int×Int×Int,f= λS g=>if a.isSome then S.copy d g else S.fresh g:=⟨_,rfl⟩
  have al:∀(S:Cs) (g:Int),cv 1 S (f S g).1:=λS g=>by rw[hf];dsimp only;split;exact cv.copy _ _;exact cv.fresh _
  have aA:∀(S:Cs) (g:Int),Kc.Inv S->S.bz.next<16777216->(f S g).2.2.2=0->0<=(f S g).2.1/\(f S g).2.1<16777216:=by
   intro S g au ak he;rw[hf]at he ⊢;dsimp only at he ⊢;split at he;·next ai=>rw[bM ai];exact aKO au ak he
   ·next ai=>rw[bJ ai];exact aI4 au ak he
  have T:Vs.own ⟨S,plain ps⟩ o.a bH s out=(let r:=Vs.eQ ⟨S,plain ps⟩ f o.a out;match r.2.2 with
    |some id=>(let V1:=r.1.enter o.a bH id 1 true;((if a.isSome then {V1 with core:=(V1.core.bX d (-1)).1} else V1),r.2))
    |none=>r):=by
   unfold Vs.own;rw[ag];cases a with
   |some e=>
    have U:d=e.id:=by simp only[lj,En.vs,List.cons.injEq,Value.int.injEq]at x;exact x.2.1.2.symm
    have N:decide (pg.refs<=1)=false:=by simpa using N
    dsimp only;rw[<- U,Z,bJ (jo N),hf];rfl
   |none=>rw[hf];rfl
  rw[T]at q;refine⟨some ⟨c,0,none⟩,Vm.cell l 4 rfl 0,use (FZ (fv:=.func (.func CQ) #[] #[Pb q2,Pb u,Pb m]) (f:=f) (λS' cF out' j av w' aD aT h'=>⟨_,_,rfl,by kernel_rfl,?_⟩) al ad ak az au ar aH aq aw hp l) ?_⟩
  ·show Calls P CQ #[Iv av,Pb q2,Pb u,Pb m] w' _;apply aw4;unfold OH qL qZ qb qm zX;rw[hf];dsimp only;refine⟨a.isSome,Vm.cell h' 2 rfl 0,cw (λhe=>Dr.i h' (λao z=>⟨some ⟨c,0,none⟩,Vm.cell z 4 rfl 0,_,rfl,some ⟨v,0,none⟩,Vm.cell z 0 rfl 5,_,rfl,some ⟨A.c,0,none⟩,z.cellAt 16 rfl 0,d,M z,use (aLA (id:=d) (g:=av) aD z) ?_⟩)) (λhe=>⟨some ⟨c,0,none⟩,Vm.cell h' 4 rfl 0,_,rfl,some ⟨v,0,none⟩,Vm.cell h' 0 rfl 5,_,rfl,some ⟨A.c,0,none⟩,h'.cellAt 16 rfl 0,use (aKm (g:=av) aD h') ?_⟩)⟩
   ·rintro _ H ⟨rfl,i⟩;rw[bM he];exact⟨_,_,_,rfl,rfl,i⟩
   ·rintro _ H ⟨rfl,i⟩;rw[bJ (by rw[he];decide)];exact⟨_,_,_,rfl,rfl,i⟩
  rintro y ao ⟨an,cF,j,I,D,W,i⟩;have X:=F1 al aw (out:=out) rfl I D hp;have aa:=F2 (S:=S) al az o.a out;have aJ:=(wT (pid:=o.a) al ((plain ps).length+1) ⟨S,plain ps⟩ out).1;have G:=aJ.inv au (by rw[jT];show S.bz.next+((ps.length+1:Nat):Int)<=_;omega);have aj:=F0 (pid:=o.a) al aA ((plain ps).length+1) ⟨S,plain ps⟩ out;have aO:fy f o.a ((plain ps).length+1) ⟨S,plain ps⟩ out=Vs.eQ ⟨S,plain ps⟩ f o.a out:=rfl;rw[aO]at G aj;dsimp only at q;generalize Vs.eQ ⟨S,plain ps⟩ f o.a out=Q at an D W i X G aj aa q;cases O:Q.2.2 with
  |none=>
   rw[O]at an q;subst an;refine⟨_,_,rfl,λw'=>Sep E (Vm A v r Q.1.core cF (bE c (c3 o v sp Q.2.1 j)::bC j 1 (bD Q.2.1.bI)::([bE q2 [.bool a.isSome],bE m (lj a),bE u [Pb c],bE B pg.vs]++L))) w',bF rfl i,?_⟩;rintro _ H i;refine⟨λb w'=>b=false/\w'=H,bF rfl ⟨rfl,rfl⟩,?_⟩;rintro _ _ _ ⟨rfl,rfl⟩;refine bF rfl ?_;rw[q];exact⟨by dsimp only;rw[O];rfl,aa,cF,j,ad.less I,I.len,D,W,(λe=>by dsimp only at e;rw[O]at e;cases e),(lL [_,_,_,_] i).right⟩
  |some id=>
   rw[O]at an q;subst an;have aB:=aj id au (by rw[jT];show S.bz.next+((ps.length+1:Nat):Int)<=_;omega) O;have Y:=X (by rw[O];rfl);have aK:Vs.space Q.1 o.a=some s:=by
    have C:=ig Y;rw[D]at C;have:=(jS (V:=Q.1) C).1;rwa[show((o.a.toNat:Nat):Int)=o.a by omega]at this
   have aG:Vs.group Q.1 o.a=g:=by
    have C:=ig Y;rw[D]at C;have:=(jS (V:=Q.1) C).2;rwa[show((o.a.toNat:Nat):Int)=o.a by omega]at this
   have aF:=((cv.bX (S:=Q.1.core) id 1).inv G.1 (by have:=G.1.ids;omega)).1;have ah:=SE (V:=Q.1) (pid:=o.a) (p:=bH) (id:=id) (k:=1) (wr:=true) aK;rw[aG]at ah;dsimp only at q;rw[ah]at q;refine⟨_,_,rfl,λw'=>Sep E (Vm A v r (Q.1.core.bX id 1).1 (cF.set o.a.toNat (g,some (sp,s.enter bH id 1 true))) (bE c (c3 o v sp Q.2.1 j)::bC j 1 (bD Q.2.1.bI)::([bE q2 [.bool a.isSome],bE m (lj a),bE u [Pb c],bE B pg.vs]++L))) w',bT rfl ⟨some ⟨c,0,none⟩,Vm.cell i 4 rfl 0,use (SD (k:=1) (bH:=bH) (id:=id) (wr:=true) (.inl rfl) aB ab G.1 Y i) ?_⟩,?_⟩
   ·rintro _ H ⟨rfl,J⟩;exact⟨rfl,J⟩
   rintro _ H J;refine⟨λb w'=>b=a.isSome/\w'=H,bT rfl ⟨a.isSome,Vm.cell J 2 rfl 0,rfl,rfl⟩,?_⟩;rintro _ _ _ ⟨rfl,rfl⟩;have hlen:(cF.set o.a.toNat (g,some (sp,s.enter bH id 1 true))).length=ps.length:=by rw[dA];exact I.len
   have am:(cF.set o.a.toNat (g,some (sp,s.enter bH id 1 true)))[o.a.toNat]?=some (g,some (sp,s.enter bH id 1 true)):=iM (cT.1 Y).1;refine cw (λhe=>Dr.i J (λaW C=>⟨some ⟨c,0,none⟩,Vm.cell C 4 rfl 0,_,rfl,some ⟨v,0,none⟩,Vm.cell C 0 rfl 5,_,rfl,some ⟨A.c,0,none⟩,C.cellAt 16 rfl 0,d,M C,use (AA (id:=d) (n:= -1) aF C) ?_⟩)) (λhe=>?_)
   ·rintro _ aQ ⟨rfl,ay⟩;have ay:Sep E (Vm A v r ((Q.1.core.bX id 1).1.bX d (-1)).1 (cF.set o.a.toNat (g,some (sp,s.enter bH id 1 true))) (bE c (c3 o v sp Q.2.1 j)::bC j 1 (bD Q.2.1.bI)::([bE q2 [.bool a.isSome],bE m (lj a),bE u [Pb c],bE B pg.vs]++L))) aQ:=ay;rw[bM he]at q;rw[q];exact⟨_,rfl,SH O ((aa.trans (cv.bX id 1)).trans (cv.bX d (-1))) ((ad.less I).set (ab.enter (.inl rfl))) hlen (by rw[qs,D]) W am (lL [_,_,_,_] ay).right⟩
   ·rw[bJ (by rw[he];decide)]at q;rw[q];exact SH O (aa.trans (cv.bX id 1)) ((ad.less I).set (ab.enter (.inl rfl))) hlen (by rw[qs,D]) W am (lL [_,_,_,_] J).right
def jH(o:Option Rg):Rg:=o.getD ⟨0,0,0,0,0,false⟩
def aJo(o:Option Rg):uf o=.tuple #[.agg (jH o).vs.toArray,.bool o.isSome]:=by cases o<;>rfl
def aLV(x:Int):x.fdiv (2^(min (4:Int).toNat 64))=x/16:=TQ _ bO
def SI{c sp:Nat}{o:c7}{out:cE}{d:Sl}{g:Int}{s:Kw.Sp}(u:gh s)(hp:ps[o.a.toNat]?=some (g,some (sp,s)))(h:Sep E (Vm A v r S ps (bE c (c3 o v sp out d)::L)) w):
  Calls P CC #[Pb c] w (bW λx w'=>x=.tuple #[Iv (o.b/16),.agg (jH (s.dg (o.b/16))).vs.toArray,.bool ((s.dg (o.b/16)).isSome&&decide (o.b≥0))]/\Sep E (Vm A v r S ps (bE c (c3 o v sp out d)::L)) w'):=by
 obtain⟨y,k⟩:∃y,s.dg (o.b/16)=y:=⟨_,rfl⟩
 rw[k];apply aw9;unfold Oi qL qU qZ zH zR zg zm;refine Al.i h (λf C h1=>?_);have e:=Vm.eA h1;refine⟨_,rfl,o.b,Vm.cell e 1 rfl 2,bO,_,rfl,some ⟨sp,0,none⟩,Vm.cell e 1 rfl 6,?_⟩;dsimp only;rw[aLV];refine use (P9 (o.b/16) u (Vm.op hp e)) ?_;rintro _ w2 ⟨rfl,n⟩;rw[k,aJo];have p:=Vm.out (Vm.bk hp n);refine⟨_,_,_,_,_,_,_,rfl,Al.i p (λp2 D q=>eh _ q rfl (λF t=>Dr.i t (λz b=>?_)))⟩;have b:Sep E (bE p2 (jH y).vs::bE f (Rg.vs ⟨0,0,0,0,0,false⟩)::Vm A v r S ps (bE c (c3 o v sp out d)::L)) z:=b;refine gw b (i:=0) rfl ?_;cases B:y.isSome with
 |true=>
  have l:=Vm.hn [_,_] b;refine bT rfl ⟨_,rfl,o.b,Vm.cell l 2 rfl 2,eh _ b.swap rfl (λj a=>?_)⟩;have a:Sep E (bE f (jH y).vs::bE p2 (jH y).vs::Vm A v r S ps (bE c (c3 o v sp out d)::L)) j:=a;have m:=Vm.hn [_,_] a;exact⟨o.b,Vm.cell m 2 rfl 2,rfl,gw a (i:=0) rfl ⟨rfl,a.tail.tail⟩⟩
 |false=>
  refine bF rfl (eh _ b.swap rfl (λj a=>?_));have a:Sep E (bE f (jH y).vs::bE p2 (jH y).vs::Vm A v r S ps (bE c (c3 o v sp out d)::L)) j:=a;exact gw a (i:=0) rfl ⟨rfl,a.tail.tail⟩
def done(E:Env)(A:At)(v:Nat)(r:Sl)(c sp:Nat)(o:c7)(L:ch)(n:Nat)(S:Cs)(q:Vs×cE)(x:Value)(w:World):Prop:=
 x=.tuple #[]/\cv 66 S q.1.core/\∃(cF:PS) (a:Sl),dF cF/\cF.length=n/\plain cF=q.1.procs/\a.n=q.2.bI.length/\
  Sep E (Vm A v r q.1.core cF (bE c (c3 o v sp q.2 a)::bC a 1 (bD q.2.bI)::L)) w
def SJ{V:Vs}{pid p:Int}{s:Kw.Sp}(h:V.space pid=some s):V.cS pid p=⟨V.core,V.procs.set pid.toNat (V.group pid,some (s.cS p))⟩:=by unfold Vs.cS;rw[h];rfl
def aLO{c sp:Nat}{o:c7}{a:Sl}(ab:dF ps)(aB:r.n=ps.length)(aA:ps.length<=64)(aG:Kc.Inv S)(ar:S.bz.next+66<=16777216)(an:a.n=0)(ax:0<=o.a){g:Int}{s:Kw.Sp}(hp:ps[o.a.toNat]?=some (g,some (sp,s)))(h:Sep E (Vm A v r S ps (bE c (c3 o v sp cE.zero a)::bC a 1 (bD [])::L)) w):
  Calls P yx #[Pb c] w (bW (done E A v r c sp o L ps.length S (Vs.load ⟨S,plain ps⟩ o.a s o.b))):=by
 have I:=ab _ _ _ _ hp;obtain⟨K,R⟩:∃K,K=done E A v r c sp o L ps.length S (Vs.load ⟨S,plain ps⟩ o.a s o.b):=⟨_,rfl⟩
 rw[<- R];have same:∀ {V':Vs} {out':cE} {w':World},Vs.load ⟨S,plain ps⟩ o.a s o.b=(⟨S,plain ps⟩,out')->out'.bI= []->Sep E (Vm A v r S ps (bE c (c3 o v sp out' a)::bC a 1 (bD [])::L)) w'->K (.tuple #[]) w':=by
  intro V' out' w' aw ag h';rw[R,aw];exact⟨rfl,.nil _ _,ps,a,ab,rfl,rfl,by dsimp only;rw[ag];exact an,by dsimp only;rw[ag];exact h'⟩
 apply ayw;unfold N6 qF qL qU qZ qg qo qp zR zg zk zu zy;dsimp only;refine use (SI I hp h) ?_;rintro _ aO ⟨rfl,h1⟩;obtain⟨y,U⟩:∃y,s.dg (o.b/16)=y:=⟨_,rfl⟩
 rw[U];refine⟨_,_,_,_,_,_,_,_,rfl,Al.i h1 (λp w2 ay=>eh _ ay rfl (λad D=>?_))⟩;have D:Sep E (bE p (jH y).vs::Vm A v r S ps (bE c (c3 o v sp cE.zero a)::bC a 1 (bD [])::L)) ad:=D;refine cw (λaq=>⟨_,rfl,?_⟩) (λY=>?_)
 ·have F:=(Vm.fg [_] (D.tail:Sep E (Vm A v r S ps ([bE c (c3 o v sp cE.zero a)]++(bC a 1 (bD [])::L))) ad))
  refine St.i F (by show 7<10;decide) (λae m=>?_);have k:=Vm.hn [bE c (c3 o v sp (cE.bad 14) a)] m;refine same (V':=⟨S,[]⟩) ?_ rfl k;unfold Vs.load;dsimp only;rw[U];cases y with
  |none=>rfl
  |some x=>
   have:¬ o.b≥0:=by simpa using aq
   dsimp only;rw[eG]
 obtain⟨x,rfl⟩:∃x,y=some x:=by
  cases y with
  |none=>cases Y
  |some x=>exact⟨x,rfl⟩
 have aK:0<=o.b:=by simpa using Y
 have M:=EJ I U;have av:=Rg.fc M.2.2.1;have D:Sep E (bE p x.vs::Vm A v r S ps (bE c (c3 o v sp cE.zero a)::bC a 1 (bD [])::L)) ad:=D;obtain⟨j,X⟩:∃j,s.entry (o.b/16)=j:=⟨_,rfl⟩
 have d:Vs.load ⟨S,plain ps⟩ o.a s o.b=(if j.isNone/\x.kind=1 then(⟨S,plain ps⟩,.zero)else
   let r:=Vs.there ⟨S,plain ps⟩ o.a (o.b/16) s x .zero
   match r.2.2 with
   |none=>(r.1,r.2.1)
   |some id=>
    let g:=r.1.core.get id (o.b%16)
    ({r.1 with core:=g.1}.cS o.a (o.b/16), {r.2.1 with n:=g.2.1})):=by
  unfold Vs.load;dsimp only;rw[U];dsimp only;rw[cM,X];rfl
 have ai:=Vm.eA D;refine⟨λw'=>¬ (j.isNone/\x.kind=1)/\Sep E (bE p x.vs::Vm A v r S ps (bE c (c3 o v sp cE.zero a)::bC a 1 (bD [])::L)) w',⟨_,rfl,some ⟨sp,0,none⟩,Vm.cell ai 1 rfl 6,use (wc (o.b/16) I (Vm.op hp ai)) ?_⟩,?_⟩
 ·rintro _ ae ⟨rfl,F⟩;have m:=Vm.out (Vm.bk hp F);obtain⟨aN,aH,aJ,aI,aL,au⟩:=F3 j;rw[X,au];refine⟨_,_,_,_,_,rfl,Al.i m (λq aC k=>eh _ k rfl (λaD f=>cw (λao=>ld f 1 rfl rfl (x:=x.kind) rfl (eD (λH=>?_) (λH=>⟨λe=>H e.2,f.tail⟩))) (λhe=>⟨λe=>?_,f.tail⟩)))⟩
  ·have ap:j.isNone=true:=by cases j with
    |none=>rfl
    |some e=>cases ao
   exact same (V':=⟨S,[]⟩) (by rw[d,bM ⟨ap,H⟩]) rfl f.tail.tail
  ·cases j with
   |none=>cases he
   |some z=>cases e.1
 rintro _ ae ⟨Z,F⟩;rw[bJ Z]at d;have ak:Sep E (Vm A v r S ps (bE c (c3 o v sp cE.zero a)::bC a 1 (bD cE.zero.bI)::L)) ae:=F.tail;refine gw F (i:=0) rfl (use (SG (bH:=o.b/16) av ⟨M.1,M.2.1⟩ ab aB aA aG ar an rfl ax hp ak) ?_);rintro z aC ⟨N,u,cF,b,B,hlen,t,G,C,m⟩;dsimp only at d;generalize Vs.there ⟨S,plain ps⟩ o.a (o.b/16) s x .zero=Q at N u t G C m d;cases aa:Q.2.2 with
 |none=>
  rw[aa]at N d;subst N;refine⟨_,_,rfl,bT rfl ?_⟩;rw[R,d];exact⟨rfl,u,cF,b,B,hlen,t,G,m⟩
 |some id=>
  rw[aa]at N d;subst N;obtain⟨ah,s',l⟩:=C (by rw[aa];rfl);have al:=u.inv aG bA;obtain⟨af,am⟩:∃af:Nat,o.b=af:=⟨o.b.toNat,bA⟩
  have hand:bV .i64 o.b 15=o.b%16:=by rw[am,vR];omega
  have J:Vs.space ⟨(Q.1.core.get id (o.b%16)).1,Q.1.procs⟩ o.a=some s'/\Vs.group ⟨(Q.1.core.get id (o.b%16)).1,Q.1.procs⟩ o.a=ah:=by
   have O:=ig l;rw[t]at O;have:=jS (V:=⟨(Q.1.core.get id (o.b%16)).1,Q.1.procs⟩) O;rwa[show((o.a.toNat:Nat):Int)=o.a by omega]at this
  dsimp only at d;rw[SJ J.1,J.2]at d;refine⟨_,_,rfl,bF rfl (Dr.i m (λaD k=>⟨_,rfl,some ⟨v,0,none⟩,Vm.cell k 0 rfl 5,_,rfl,some ⟨A.c,0,none⟩,k.cellAt 16 rfl 0,_,rfl,o.b,Vm.cell k 0 rfl 2,?_⟩))⟩;rw[hand];refine use (pd (id:=id) (at_:=o.b%16) al.1 k) ?_;rintro _ aE ⟨rfl,f⟩;have f:Sep E (Vm A v r (Q.1.core.get id (o.b%16)).1 cF (bE c (c3 o v sp Q.2.1 b)::bC b 1 (bD Q.2.1.bI)::L)) aE:=f;refine⟨_,_,rfl,_,rfl,some ⟨sp,0,none⟩,Vm.cell f 0 rfl 6,use (Qd (o.b/16) (B _ _ _ _ l) (Vm.op l f)) ?_⟩;rintro _ aF ⟨⟨aM,rfl⟩,O⟩;have az:=Vm.sh l O;have aj:=Vm.fg [_] (az:Sep E (Vm A v r (Q.1.core.get id (o.b%16)).1 _ ([bE c (c3 o v sp Q.2.1 b)]++(bC b 1 (bD Q.2.1.bI)::L))) aF);have T:i64.wrap (Q.1.core.get id (o.b%16)).2.1=(Q.1.core.get id (o.b%16)).2.1:=by
   have:0<=(Q.1.core.get id (o.b%16)).2.1/\(Q.1.core.get id (o.b%16)).2.1<256:=by
    unfold Cs.get;dsimp only;split;·exact⟨by show(0:Int)<=0;decide,by show(0:Int)<256;decide⟩
    ·have:=(By.gt Q.1.core.fr.bK.length Q.1.core.fr.cG (Q.1.core.here id).1 (o.b%16)).1.toNat_lt;dsimp only;omega
   exact cH bA bA
  refine⟨_,rfl,_,rfl,St.i aj (by show 8<10;decide) (λaP W=>?_)⟩;rw[R,d];refine⟨rfl,u.trans (cv.get id (o.b%16)),cF.set o.a.toNat (ah,some (sp,s'.cS (o.b/16))),b,B.set ((B _ _ _ _ l).cS _),by rw[dA];exact hlen,by rw[qs,t],G,?_⟩;refine Vm.hn [bE c (c3 o v sp {Q.2.1 with n:=(Q.1.core.get id (o.b%16)).2.1} b)] ?_;rw[T]at W;exact W
end Go.Mp
