/- Vm: A process that dg, or is bE, has nothing any more: it answers nothing, and no entry of it is left: the law answers true and lets its arguments be; for every input. -/
import Derived.Test.YtafigbgagbolgaaGreatDoorD16
import Derived.Test.YtafigbgagbolgaaGreatDoorProg
import Derived.Test.YtafigbgagbolgaaGreatDoorChecked
import Derived.ProofKit
import Derived.OpenVars
import Derived.LaidMore
import Derived.Lay
import Derived.OpenShut
import Derived.Stop.LaidErr
import Derived.Lib.LaidTab
import Derived.SevenTiedAt
import Derived.Test.YtafigbgagbolgaaGreatDoorRows
import Derived.Test.YtafigbgagbolgaaGreatDoorTie
import Derived.Test.YtafigbgagbolgaaGreatDoorCards
set_option linter.all false
set_option maxRecDepth 100000
open Go.IntKind(i64 u64)
open Go.Proofs.Tryz
namespace Go.Mp
open Go Go.Vc
abbrev oM:bj6:=5
noncomputable abbrev nu:Func:=f5
def GM:P.funcs[oM]?=some nu:=func5
end Go.Mp
namespace Go.Sp
open Go Go.Vc Go.RowKit Go.ChangeShapes
section
variable{P:cS}{W:bI}{t:bZ}{cs:bA bH}
def xg(P:cS)(t:bZ):bX (bA bZ):=
 match P.underlying t with
 |some (.struct fs)=>match Nat.beq (P.cellsOf t) fs.size&&(fs.toList.zipIdx.all λx=>Nat.beq x.1.offset x.2&&Nat.beq (P.cellsOf x.1.type) 1)with
  |true=>some (fs.toList.map (·.type))
  |false=>none
 |_=>none
def Rd.flat{ts:bA bZ}(h:Rd P W t cs)(a:xg P t=some ts):cs.length=ts.length/\∀(i:Nat) (u:bZ),ts[i]?=some u->∃v,cs[i]?=some v/\Rd P W u [v]:=by
 unfold xg at a;split at a
 ·next fs j=>
  split at a
  ·next b=>
   simp only[fT]at a;subst a;simp only[dF,fM]at b;obtain⟨h1,h2⟩:=h.struct j;have hl:cs.length=fs.size:=h1.trans (kz b.1);refine⟨by simpa using hl,λi u hu=>?_⟩;have c:i<fs.size:=by
    rcases hE i fs.size with h' | h';·exact h'
    ·simp[h']at hu
   have hx:=b.2 (fs[i],i) (by rw[bf0];simp[c]);have hr:=h2 i fs[i] (by simp[c]);have d:=kz hx.1;have e:=kz hx.2;simp only at d e;rw[d,e]at hr;have f:fs[i].type=u:=by simpa[c]using hu
   rw[f]at hr;have g:(cs.drop i).take 1= [cs[i]]:=by
    rw[kZ bu];rfl
   rw[g]at hr;exact⟨cs[i],du,hr⟩
  ·simp at a
 ·simp at a
end
section
variable{H:Type}{enc:bZ×bH->H}{P:cS}
end
end Go.Sp
namespace Go.Mp
open Go Go.Vc Go.Proofs
variable{K:bj0}{w:bI}
variable(K w)
def TT(bQ cg:Int)(bU l:Sl)(ai aj ak al am:Int):=
 Al (.cells #[Iv ai,Iv aj,Iv ak,Iv al,Iv am] 37) (λv w2=>qF p6 #[] w2 λx ap=>dO x (K aP2 ap) (qF vw #[Iv bQ,Iv cg,Sv bU,Sv l] ap λaZ av=>cond aZ (K (.bool x) av) (qR p5 #[Iv bQ,Iv cg,Sv bU] av λm aY=>qf ⟨none,0,0⟩ 0 aY λT a i17 s=>e7 i17 l.n (qW l i17 5 λX=>zL s X λax ay az aA aB=>zx la #[Pv m,.agg #[Iv ax,Iv ay,Iv az,Iv aA,Iv aB]] s λaC aD aE ao=>zW ao λr aq=>qU [Iv aC,Iv aD,Sv aE] r aq λj=>∃o:Sl->bi9,(qh (λz=>qW l i17 5 λa40=>qL j a40 0 λaG=>cond (aG==11) (qL j r 0 λaH=>z (aH==0) j) (z false j)) λaF u=>cond aF (qW l i17 5 λY=>qL u Y 1 λaI=>qC #[Iv aI] u λan ar=>∃F:Sl,∃A:bI,Sem.run P (Builtin.append_ #[22,22] 22 #[Sv a,.slice (some an) 1 1]) ar=.ok (Sv F) A/\o F A) (o a u))/\(∀aX:Nat->bH,∀i:Sl,∀t:bI,o i t->qK t r 2 λaJ=>∃G:Sl,∃B:bI,Sem.run P (Builtin.append_ #[22,22] 22 #[Sv i,Sv aJ]) t=.ok (Sv G) B/\(T G (i64.wrap (i17+1)) B))) (qJ oB #[Pv m] s λf au=>qO 0 au λU i59 b=>e7 i59 a.n (qg (λW=>qW a i59 1 λa63=>qD b a63 λaK=>ej aK 0 (K aP2 b) (qW a i59 1 λZ=>qD b Z λaL=>cond (decide (aL≥((f.n:Nat):Int))) (K aP2 b) (qW a i59 1 λaa=>qD b aa λaM=>qW f aM 3 λab=>qy b ab 2 λaN=>cond aN (K aP2 b) (qW a i59 1 λad=>qD b ad λaO=>qR p7 #[Pv m,Iv aO] b λaP C=>cond (!aP.isNone) (K aP2 C) (W C))))) λaw=>qO 0 aw λV p D=>ej p i59 (Dr (λk=>qW a p 1 λae=>qD k ae λaQ=>qW a i59 1 λaf=>qD k af λaR=>cond (aQ==aR) (K aP2 k) ((V (i64.wrap (p+1)) k))) D) ((U (i64.wrap (i59+1)) D))) (qI 0 0 b λy c i91 e=>e7 i91 f.n (qW f i91 3 λag=>qy e ag 2 λaS=>cond aS ((y (i64.wrap (c+1)) (i64.wrap (i91+1)) e)) ((y c (i64.wrap (i91+1)) e))) (cond (((a.n:Nat):Int)==0) (cond x (K (.bool (c==((f.n:Nat):Int))) e) (K aP2 e)) (qW a 0 1 λah=>qD e ah λaT=>St (v.add 1) (Iv aT) (λE=>zL E v λaU aV aW J L=>zx la #[Pv m,.agg #[Iv aU,Iv aV,Iv aW,Iv J,Iv L]] E λM N O H=>zW H λq I=>qU [Iv M,Iv N,Sv O] q I λh=>qh (λn=>qL h v 0 λQ=>cond (decide (Q≥4)) (qL h v 0 λR=>n (decide (R<=11)) h) (n false h)) λg d=>cond x (cond ((i64.wrap (c+((a.n:Nat):Int)))==((f.n:Nat):Int)) (dO g (K aP3 d) (qL d q 0 λS=>K (.bool (S==2)) d)) (K aP2 d)) (K aP2 d)) e))))))) w
variable{K w}
def anK(bQ cg bU l a b c d e)(h:TT K w bQ cg bU l a b c d e):=bM {(z8 [38,39,41,53,57,75,76,78,83,90,91,110,114,116,125,128,129,131,138,140,141,146,147,158,162,168,169,171,172,180] [] [(9,[(13,.slice),(14,jZ)]),(17,[(17,jZ)]),(22,[(18,jZ)]),(28,[(19,jZ),(20,jZ)])] [(13,[(58,.bool)]),(14,[(13,.slice)]),(21,[]),(37,[(22,.bool)])]:dU)with head:=λr=>(bif r==24 then 9 else 0)} #[Iv bQ,Iv cg,Sv bU,Sv l,.agg #[Iv a,Iv b,Iv c,Iv d,Iv e]] K w func5 h
end Go.Mp
namespace Go.Mp
open Go Go.Vc Go.Sp Go.Proofs Go.Kc Go.Kw Go.Kt
variable{E:Env}{L:cr}{w W:bI}{A:At}{S:Cs}{v:Nat}{r:Sl}{ps:PS}
def xd{fr sl:Int}{sz ol:Sl}{l:bS}{os:bA db}{o:cf Obj}(X:Ints E (cO o::L) sz l)(D:sz.n<=sz.c)(K:jb E L ol os)(hb:os.length<=1000)(h:Sep E (cO o::L) w):
  Calls P tj #[Iv fr,Iv sl,Sv sz,Sv ol] w (cC λx w'=>∃s:Sl,x=Sv s/\Sep E (dd s (cz (Vs.new fr sl l) os).2::cO o::L) w'):=by
 have hn:=K.1;have G:(⟨Kc.new fr sl l,plain []⟩:Vs)=Vs.new fr sl l:=rfl;have e:(Kc.new fr sl l).bt.next=0:=rfl;apply z6;unfold vW qR qU qW qf zL zx;refine use (AO X D h) ?_;rintro _ af ⟨A,v,rfl,ho,h1⟩;refine⟨_,rfl,λs x w'=>∃(k:Nat) (gs us r:Sl) (S:Cs) (ps:PS),x=k/\k<=os.length/\dH ps/\r.n=ps.length/\ps.length<=64/\(⟨S,plain ps⟩:Vs)=(cz (Vs.new fr sl l) (os.take k)).1/\Kc.Inv S/\S.bt.next<=66*k/\Sep E (Vm {A with gs:=gs,us:=us} v r S ps (dd s (cz (Vs.new fr sl l) (os.take k)).2::L)) w',λ_ x _=>(os.length-x).toNat,?_,?_⟩;·refine⟨0,A.gs,A.us,⟨none,0,0⟩,Kc.new fr sl l,[],rfl,dX _,(λi g a s F=>by cases F),rfl,bN,G,Inv.new fr sl l,by rw[e];decide,Vm.eK (Sep.ex.2 ⟨[],Sep.cL.2 ⟨⟨rfl,rfl,(λp hp=>by cases hp)⟩,Sep.cA.2 (bw.none_ (m:=3) h1)⟩⟩)⟩
 rintro _ s _ w2 ⟨k,gs,us,r,S,ps,rfl,hk,Y,hr,I,U,aa,ae,h2⟩;refine cU (λad=>?_) (λab=>?_)
 ·obtain⟨op,j⟩:∃op,os[k]?=some op:=⟨_,du⟩
  obtain⟨a,hp,c⟩:=K.2 w2 (Vm.out h2 |>.tail |> λq=>by rw[ug]at q;exact q.right) k op j;have M:(((k:Nat):Int).toNat*5)=k*5:=by rw[dt]
  refine⟨a,hp,⟨bu,bu⟩,?_⟩;rw[M];refine⟨_,c 0 _ rfl,_,c 1 _ rfl,_,c 2 _ rfl,_,c 3 _ rfl,_,c 4 _ rfl,Al.i h2 (λp ag t=>ey _ t rfl (λZ b=>?_))⟩;have b:Sep E (bD p (dh op)::Vm {A with gs:=gs,us:=us} v r S ps (dd s (cz (Vs.new fr sl l) (os.take k)).2::L)) Z:=b;refine⟨_,b.cell 0,_,b.cell 1,_,b.cell 2,_,b.cell 3,_,b.cell 4,use (AN op Y hr I aa bu b.tail) ?_⟩;rintro _ ah ⟨R,f,n,r',W,cN,rfl,T,Q,z,O,N,u⟩;have H:Vs.act ⟨S,plain ps⟩ op=((cz (Vs.new fr sl l) (os.take k)).1).act op:=by rw[U]
  have d:=pC op (os.take k) (Vs.new fr sl l);have V:os.take (k+1)=os.take k++[op]:=take_succ j;rw[<- V,<- H]at d;have F:=R.inv aa bu;have y:=Vm.e4 (A:={A with gs:=f,us:=n}) [bw W 1 (bC (Vs.act ⟨S,plain ps⟩ op).2.bE),dd s (cz (Vs.new fr sl l) (os.take k)).2] u;refine⟨_,_,W,rfl,Al.i y (λp2 ai B=>dd.push (a:=(Vs.act ⟨S,plain ps⟩ op).2) N (by rw[oe,gT];omega) B (λs' aj C=>⟨⟨k+1,f,n,r',_,cN,c4,bu,T,Q,z,?_,F.1,bu,?_⟩,?_⟩))⟩;·rw[d,O]
  ·rw[d];exact Vm.eK C
  ·rw[c4];dsimp only;omega
 ·have:k=os.length:=by omega
  subst this;rw[fB]at h2;refine⟨s,rfl,?_⟩;have t:=Vm.out h2;have b:Sep E (dd s (cz (Vs.new fr sl l) os).2::(ch {A with gs:=gs,us:=us} S++(bD v [Pb A.c,Sv r]::bw r 2 (bO gy ps)::(ps.map gR++L)))) w2:=t;have u:=b.fr 16 rfl;have y:Sep E (cO A.o::dd s (cz (Vs.new fr sl l) os).2::(((ch {A with gs:=gs,us:=us} S).take 15++[bD v [Pb A.c,Sv r],bw r 2 (bO gy ps)]++ps.map gR)++L)) w2:=by
   refine u.perm ?_;rw[dp,dp];exact HB _
  have B:=(y.ro 2 [1,0] rfl:Sep E (dd s (cz (Vs.new fr sl l) os).2::cO A.o::(_++L)) w2)
  have C:=B.perm (L':=((ch {A with gs:=gs,us:=us} S).take 15++[bD v [Pb A.c,Sv r],bw r 2 (bO gy ps)]++ps.map gR)++(dd s (cz (Vs.new fr sl l) os).2::cO A.o::L)) (mr [_,_] _ L);have J:=C.right;rw[ho]at J;exact J
end Go.Mp
namespace Go.Proofs.YtafigbgagbolgaaGreatDoor
open Go Go.Vc Go.Sp Go.Mp Go.RowKit Go.ChangeShapes
def GN{α:Type}{a:cf α}(h:a.size=5):∃b c d e f,a= #[b,c,d,e,f]:=by
 obtain⟨l⟩:=a
 match l,h with
 |[b,c,d,e,f],_=>exact⟨b,c,d,e,f,rfl⟩
end Go.Proofs.YtafigbgagbolgaaGreatDoor
namespace Go.Mp
open Go Go.Vc Go.Sp Go.Proofs Go.Kc Go.Kw Go.Kt
variable{E:Env}{L:cr}{w W:bI}{A:At}{v:Nat}{V:Vs}
def xf{o:cf Obj}(h:Sep E (cO o::L) w):Calls P p6 #[] w (cZ E (.bool true) (cO o::L)):=by
 apply AJ;unfold wS qJ qL qR qU qW qg qy zL zW zw zx;refine Al.i h (λp V h1=>?_);have h1:Sep E (cO o::bD p (bO dh ee)::L) V:=h1.swap;refine use (xd (fr:=4) (sl:=4) (sz:=⟨none,0,0⟩) (l:=[]) (ol:=⟨some ⟨p,0,none⟩,5,5⟩) (os:=ee) (L:=bD p (bO dh ee)::L) (o:=o) ⟨rfl,λw _ i x hx=>by cases hx⟩ (ec _) (jb.h0 (q:=0) (c:=5) (os:=ee) rfl) bN h1) ?_;rintro _ w2 ⟨s,rfl,h2⟩;have hlen:s.n=5:=(dd.len 0 h2 rfl).trans (oe ee _);obtain⟨J,C,T,_⟩:=ns (k:=2) rfl;obtain⟨a3,D,_,R⟩:=ns (k:=3) rfl;obtain⟨a4,t,U,S⟩:=ns (k:=4) rfl;generalize (cz (Vs.new 4 4 []) ee).2=r at h2 C D t;have h2:Sep E (cO o::dd s r::bD p (bO dh ee)::L) w2:=h2.swap;refine⟨s,rfl,pD (fr:=4) (sl:=4) (sz:=⟨none,0,0⟩) (l:=[]) ⟨rfl,λw _ i x hx=>by cases hx⟩ (ec _) h2 (λA v Y ho K=>⟨_,rfl,λw'=>cQ E A v (Vs.new 4 4 []) (dd s r::bD p (bO dh ee)::L) w',bF rfl (bF (by rw[hlen];rfl) K),?_⟩)⟩;intro _ W G;refine⟨⟨p,0,none⟩,rfl,⟨bN,bN⟩,?_⟩;have hb:∀j x,(bO dh ee)[j]?=some x->W.cell? (Addr.add ⟨p,0,none⟩ j)=some x:=λj x hx=>G.cell (k:=1) rfl hx;refine⟨_,hb 0 _ rfl,_,hb 1 _ rfl,_,hb 2 _ rfl,_,hb 3 _ rfl,_,hb 4 _ rfl,?_⟩;have z:(Vs.new 4 4 []).act ⟨3,0,0,0,0⟩=({Vs.new 4 4 []with procs:=[(0,some Kw.Sp.new)]},⟨0,0,[]⟩):=by
  rw[AZ (AY 4 4 [])];rfl
 refine cQ.hV (o:=⟨3,0,0,0,0⟩) G (Vok.new 4 4 []) (by rw[oK];decide) (λX q Z m u B n5=>?_);rw[z]at u B n5 m;dsimp only at u B n5 m;refine u.procs B (λpl I n e=>⟨pl,rfl,?_⟩);have g:=e.right;have d:∀(i:Int) (k:Nat) (a:cG) {F:Addr->Prop},i=k->r[k]?=some a->(∀a0:Addr,I.cell? (a0.add 0)=some (Iv a.err)->I.cell? (a0.add 1)=some (Iv a.n)->F a0)->cF s.p s.n i 3 F:=λi k a F O M f=>dd.el 3 g rfl O M f;refine d 2 2 J rfl C (λx hx _=>⟨_,hx,bT (by rw[T];rfl) (d 3 3 a3 rfl D (λx _ hx=>⟨_,hx,bT (by rw[R];rfl) (d 4 4 a4 rfl t (λx _ hx=>⟨_,hx,bT (by rw[S];rfl) (d 4 4 a4 rfl t (λx hx _=>⟨_,hx,bT (by rw[U];rfl) ?_⟩))⟩))⟩))⟩);refine⟨_,e.cell (k:=1) (j:=0) rfl rfl,bT rfl (bT (by rw[n];rfl) ?_)⟩;refine jL Pr.kv 0 g rfl n (show(0:Int)=((0:Nat):Int)from rfl) (show _=some (⟨0,0,true⟩:Pr)from rfl) (λb _ N=>⟨_,by rw[cj];exact N 2 _ rfl,bT rfl ?_⟩);refine e.space (pid:=0) (λx hx=>⟨x,rfl,bT (by rw[hx];rfl) (e.space (pid:=1) (λy Q=>⟨y,rfl,bT (by rw[Q];rfl) (e.core ⟨_,rfl,rfl,?_⟩)⟩))⟩);have H:=e.drop;rw[ho]at H;exact H.ro 6 [0] rfl
def cQ.pr{s:Sl}{l:bA Pr}(q:Nat)(h:cQ E A v V L w)(d:L[q]?=some (fy s l))(hn:s.n=l.length){k:Nat}{x:Pr}(hx:l[k]?=some x){F:Addr->Prop}(f:∀a,w.cell? (a.add 0)=some (Iv x.g)->w.cell? (a.add 1)=some (Iv x.size)->w.cell? (a.add 2)=some (.bool x.live)->F a):cF s.p s.n (k:Int) 3 F:=
 jL Pr.kv q h.right d hn rfl hx (λb _ c=>f _ (by rw[cj];exact c 0 _ rfl) (by rw[cj];exact c 1 _ rfl) (by rw[cj];exact c 2 _ rfl))
def xh{r:Sl}{S:Cs}{ps:PS}(k:Nat)(B:Asn):(Vm A v r S ps L).set (18+ps.length+k) B=Vm A v r S ps (L.set k B):=by
 unfold Vm;rw[q8,q8,iD _ _ (by rw[oI];omega),oI,iD _ _ (by simp;omega),dY,show 18+ps.length+k-18-ps.length=k by omega]
def cQ.nil(h:cQ E A v V L w)(m:Nat):cQ E A v V (bw ⟨none,0,0⟩ m []::L) w:=by
 obtain⟨gs,us,r,ps,a,b,c⟩:=h;exact⟨gs,us,r,ps,a,b,Vm.eK (bw.none_ (m:=m) c)⟩
def cQ.app{s:Sl}{l:bS}{x:Int}{t:bZ}{q:Nat}(h:cQ E A v V L w)(n:L[q]?=some (bw s 1 (bC l)))(hn:s.n=l.length)(hb:l.length<100000000){G:Sl->bi9}(k:∀s' a,s'.n=(l++[x]).length->cQ E A v V (L.set q (bw s' 1 (bC (l++[x])))) a->G s' a):
  Al (.cells #[Iv x] t) (λp w2=>∃e:Sl,∃a,Sem.run P (Builtin.append_ #[jK,jK] jK #[Sv s,.slice (some p) 1 1]) w2=.ok (Sv e) a/\G e a) w:=by
 obtain⟨gs,us,r,ps,f,g,i⟩:=h;refine Al.i i (λb w2 h2=>?_);have c:(Vm {A with gs:=gs,us:=us} v r V.core ps L)[18+ps.length+q]?=some (bw s 1 (bC l)):=by rw[j8];exact n
 have j:=(h2.fr (18+ps.length+q+1) (by simpa using c)).swap;refine r4 hn hb j (λs' a o m=>k s' a o ⟨gs,us,r,ps,f,g,?_⟩);have d:=Sep.put (A':=bw s' 1 (bC (l++[x]))) c m;rw[xh]at d;exact d
end Go.Mp
namespace Go.Proofs.YtafigbgagbolgaaGreatDoor
open Go Go.Vc Go.Sp Go.Mp Go.RowKit Go.ChangeShapes
def GO{W:bI}{cs:bA bH}(h:Rd P W p4 cs):∃o:Kw.db,cs=dh o:=by
 obtain⟨hl,l⟩:=h.flat (ts:=[pd,gu,gu,gu,gu]) cE;have key:∀(i:Nat) (u:bZ),([pd,gu,gu,gu,gu]:bA bZ)[i]?=some u->P.underlying u=some (.int .i64)->∃n,cs[i]?=some (Iv n):=λi u j hu=>by
  obtain⟨v,h1,h2⟩:=l i u j;obtain⟨n,rfl,_⟩:=h2.jy (k:=.i64) hu;exact⟨n,h1⟩
 obtain⟨k,hk⟩:=key 0 pd rfl cE;obtain⟨a,e⟩:=key 1 gu rfl cE;obtain⟨b,hb⟩:=key 2 gu rfl cE;obtain⟨c,f⟩:=key 3 gu rfl cE;obtain⟨d,g⟩:=key 4 gu rfl cE;refine⟨⟨k,a,b,c,d⟩,?_⟩
 ·match cs,hl,hk,e,hb,f,g with
  |[m,p,q,r,s],_,hk,e,hb,f,g=>
   simp only[k1,G3,fT]at hk e hb f g;subst hk e hb f g;rfl
def GP{W:bI}{base:Nat}{v:bH}(a:Rd P W p4 v.cells.toList/\Value.okWide P W .any base p4 v):∃o:Kw.db,v=.agg (dh o).toArray:=by
 obtain⟨o,ho⟩:=GO a.1;refine⟨o,?_⟩;cases v with
 |agg cs=>
  have:cs.toList=dh o:=ho;show Value.agg cs=Value.agg (dh o).toArray;rw[<- this]
 |_=>exact absurd (eO List.length ho) (by show ¬ (1:Nat)=5;decide)
end Go.Proofs.YtafigbgagbolgaaGreatDoor
namespace Go.Kw
open Go Go.Kc Go.Kt
variable{V:Vs}
structure mm(V:Vs)(gl:bS):Prop where
 nodup:gl.Nodup
 qs:∀x∈gl,0<=x/\x<V.procs.length
 dead:∀(i:Nat) p,V.procs[i]?=some p->alive p=decide ((i:Int)∉gl)
def TU{x:Int}{s:Sp}(h:V.space x=some s):∃p,V.procs[x.toNat]?=some p/\alive p=true/\0<=x/\x<V.procs.length:=by
 obtain⟨a,hp⟩:=il h;have:=(c2.1 hp).1;exact⟨_,hp,rfl,a,bu⟩
def mm.not{gl:bS}(g:mm V gl){x:Int}{s:Sp}(h:V.space x=some s):x∉gl:=by
 obtain⟨p,hp,a,b,_⟩:=TU h;have:=g.dead _ _ hp;rw[a,show((x.toNat:Nat):Int)=x by omega]at this;exact kA this.symm
def ll(o:db)(r:Vs×cG):bS:=if o.kind=11/\r.2.err=0 then[o.a]else[]
def mm.act{gl:bS}(g:mm V gl){o:db}{r:Vs×cG}(a:fO V o r):mm r.1 ((gl++ll o r)++r.2.bE):=by
 have hex:∀x∈ll o r,∃s,V.space x=some s:=λx hx=>by
  unfold ll at hx;split at hx
  ·next f=>
   rw[h9]at hx;subst hx;exact jf.1 (a.exit f).1
  ·cases hx
 have b:∀x∈ll o r++r.2.bE,∃s,V.space x=some s:=λx hx=>(gb.1 hx).elim (hex x) (a.kill.live x);have c:(ll o r++r.2.bE).Nodup:=by
  unfold ll;split;·next f=>rw[(a.exit f).2];simp
  ·exact a.kill.nodup
 have u:kY V.procs r.1.procs (r.2.bE++ll o r):=a.xc;rw[dp];generalize hK:ll o r++r.2.bE=K at b c;have k:∀x,x∈r.2.bE++ll o r↔x∈K:=λx=>by rw[<- hK,gb,gb,or_comm]
 have hlen:V.procs.length<=r.1.procs.length:=by
  cases u with
  |same hl _=>omega
  |more x _ _ h=>rw[h,df];omega
 refine⟨uJ.2 ⟨g.nodup,c,λx hx y A e=>?_⟩,λx hx=>?_,λi p hp=>?_⟩
 ·subst e;obtain⟨s,m⟩:=b x A;exact g.not m hx
 ·rcases gb.1 hx with hx|hx;·have:=g.qs x hx;omega
  ·obtain⟨s,m⟩:=b x hx;obtain⟨_,_,_,d,h1⟩:=TU m;omega
 ·cases u with
  |same hl h=>
   have:=h i;rw[hp]at this;cases l:V.procs[i]? with
   |none=>rw[l]at this;cases this
   |some q=>
    rw[l]at this;have t:alive p=(alive q&&decide ((i:Int)∉r.2.bE++ll o r)):=cV this;rw[t,g.dead i q l];by_cases w:(i:Int)∈gl<;>by_cases z:(i:Int)∈K<;>simp[w,z,k,gb]
  |more x hx hk h=>
   have n:K= []:=by
    rw[xq]at hk;rw[<- hK,hk.1,hk.2];rfl
   rw[n,g3];rw[h]at hp;rcases hE i V.procs.length with j|j;·rw[eQ j]at hp;exact g.dead i p hp
   ·rw[fL j]at hp;have v:i-V.procs.length=0:=by
     rcases k3 (i-V.procs.length)with d|d;·exact d
     ·rw[gI (by simp;omega)]at hp;cases hp
    rw[v]at hp;cases hp;rw[hx,dK];intro hm;have:=g.qs _ hm;omega
def va(k:Nat):∀(l:bS),l.countP (λx=>decide (x<((k+1:Nat):Int)))=l.countP (λx=>decide (x<(k:Int)))+l.count (k:Int)
 |[]=>rfl
 |x::l=>by
  rw[xA,xA,sG,va k l];by_cases h1:x<(k:Int)
  ·rw[bK (by simp;omega),bK (by simpa using h1),bJ (by simp;omega)];omega
  ·by_cases h2:x=(k:Int)
   ·rw[bK (by simp;omega),bJ (by simpa using h1),bK (by simp[h2])];omega
   ·rw[bJ (by simp;omega),bJ (by simpa using h1),bJ (by simpa using h2)];omega
def TV{x:Int}:∀ {l:bS},l.Nodup->x∈l->l.count x=1
 |y::l,hn,hm=>by
  obtain⟨h1,h2⟩:=rq.1 hn;rw[sG];by_cases e:y=x
  ·subst e;rw[List.count_eq_zero.2 h1,bK (by simp)]
  ·rw[bJ (by simpa using e),TV h2 ((eH.1 hm).resolve_left (l3 e))]
def mm.upto{gl:bS}(g:mm V gl):∀k:Nat,k<=V.procs.length->(V.procs.take k).countP alive+gl.countP (λx=>decide (x<(k:Int)))=k
 |0,_=>by
  have:gl.countP (λx=>decide (x<((0:Nat):Int)))=0:=Uk.2 λx hx=>by have:=g.qs x hx;simp;omega
  rw[this];rfl
 |k+1,hk=>by
  obtain⟨p,hp⟩:∃p,V.procs[k]?=some p:=⟨_,du⟩
  have a:=g.upto k bu;have e:V.procs.take (k+1)=V.procs.take k++[p]:=by rw[l0,hp];rfl
  rw[e,Hh,va,List.countP_singleton,g.dead k p hp];by_cases hm:(k:Int)∈gl
  ·rw[TV g.nodup hm];simp only[hm,not_true_eq_false,decide_false,lZ,gU];omega
  ·rw[List.count_eq_zero.2 hm];simp only[hm,not_false_eq_true,decide_true,g4];omega
def mm.all{gl:bS}(g:mm V gl):V.procs.countP alive+gl.length=V.procs.length:=by
 have:=g.upto V.procs.length (ec _);rw[fB]at this;have e:gl.countP (λx=>decide (x<((V.procs.length:Nat):Int)))=gl.length:=List.countP_eq_length.2 λx hx=>by have:=g.qs x hx;simp;omega
 omega
def mm.len{gl:bS}(g:mm V gl):gl.length<=V.procs.length:=by have:=g.all;omega
def mm.space{gl:bS}(g:mm V gl){x:Int}(h:x∈gl):V.space x=none:=by
 cases a:V.space x with
 |none=>rfl
 |some s=>exact absurd h (g.not a)
end Go.Kw
namespace Go.Mp
open Go Go.Vc Go.Sp Go.Proofs Go.Kc Go.Kw Go.Kt
variable{E:Env}{L:cr}{w W:bI}{A:At}{v:Nat}{V:Vs}
def cQ.GQ{s t:Sl}{l d:bS}(q q2:Nat)(h:cQ E A v V L w)(x:L[q]?=some (bw s 1 (bC l)))(i:L[q2]?=some (bw t 1 (bC d)))(hn:s.n=l.length)(j:t.n=d.length)(hb:l.length+d.length<1000000){G:Sl->bi9}(k:∀s' b,s'.n=(l++d).length->cQ E A v V (L.set q (bw s' 1 (bC (l++d)))) b->G s' b):
  ∃m:Sl,∃b,Sem.run P (Builtin.append_ #[jK,jK] jK #[Sv s,Sv t]) w=.ok (Sv m) b/\G m b:=by
 obtain⟨gs,us,r,ps,n,o,e⟩:=h;have i1:(Vm {A with gs:=gs,us:=us} v r V.core ps L)[18+ps.length+q]?=some (bw s 1 (bC l)):=by rw[j8];exact x
 have i2:(Vm {A with gs:=gs,us:=us} v r V.core ps L)[18+ps.length+q2]?=some (bw t 1 (bC d)):=by rw[j8];exact i
 have a:=Src.sub (l:=0) (n':=t.n) (c':=t.c) e i2 tP bu (λu hu=>by obtain⟨z,_,rfl⟩:=fD.1 hu;rfl);rw[r8 (e.fr _ i2) t.c]at a;have c:((bC d).drop (0*1)).take (t.n*1)=bC d:=by
  rw[nA,rv,fY,iq (by simp[bC,j])]
 rw[c]at a;refine bw.app (e.fr _ i1) tP rfl a bu (λs' b hk f=>k s' b (by rw[hk,hn,j,df]) ⟨gs,us,r,ps,n,o,?_⟩);have p:bC l++bC d=bC (l++d):=by simp[bC]
 rw[p]at f;have g:=Sep.put i1 f;rw[xh]at g;exact g
def TW{i:Nat}{p:PP}(h:V.procs[i]?=some p):∃x,V.pr[i]?=some x/\x.live=alive p:=by
 refine⟨fk p,by rw[so,ez,h];rfl,?_⟩;obtain⟨g,o⟩:=p;cases o<;>rfl
def aIP{bQ cg:Int}{sz l:Sl}{zs:bS}{os:bA db}{o:db}(ao:ss W sz zs)(ah:jc W l os)(h:Sep E (cO W.heap::L) w):
  Calls P oM #[Iv bQ,Iv cg,Sv sz,Sv l,.agg (dh o).toArray] w (cZ E (.bool true) (cO W.heap::L)):=by
 apply anK;unfold TT qC qD qF qI qJ qK qL qO qR qU qW qf qg qh qy zL zW zx;refine Al.i h (λm w0 ag=>?_);have ag:Sep E (cO W.heap::bD m (dh o)::L) w0:=ag.swap;refine use (xf ag) ?_;rintro _ aM ⟨rfl,h1⟩;refine⟨_,rfl,bF rfl (use (A0 bQ cg sz l aM) ?_)⟩;rintro _ _ ⟨rfl,rfl⟩;refine⟨_,rfl,cy (λ_=>⟨rfl,h1.swap.tail⟩) (λaz=>?_)⟩;obtain⟨_,_,_,hl⟩:=A2 az;have aP:=ah.1;refine pD (sz:=sz) (l:=zs) (ao.ints (q:=0) rfl) ao.2.1 h1 (λA v aT ho aG=>⟨_,rfl,?_⟩);refine⟨λgs i w'=>∃(k:Nat) (V:Vs) (gl:bS),i=k/\k<=os.length/\dS V/\V.core.bt.next<=66*k/\mm V gl/\gs.n=gl.length/\cQ E A v V (bw gs 1 (bC gl)::bD m (dh o)::L) w',λ_ i _=>(os.length-i).toNat,
  ⟨0,_,[],rfl,dX _,dS.new bQ cg zs,by rw[oK];decide,⟨Hz,(λx hx=>by cases hx),λi p hp=>by cases hp⟩,rfl,aG.nil 1⟩,?_⟩
 rintro _ gone _ aU ⟨k,V,gl,rfl,hk,U,n5,G,D,H⟩;have eI:=U.eI;have aO:=G.len;refine cU (λaw=>?_) (λar=>?_)
 ·obtain⟨x,hx⟩:∃x,os[k]?=some x:=⟨_,du⟩
  refine H.op ah ho hx (λa d=>⟨_,d 0 _ rfl H,_,d 1 _ rfl H,_,d 2 _ rfl H,_,d 3 _ rfl H,_,d 4 _ rfl H,?_⟩);have act:=sw U bu x;have am:=Kw.fc U bu x;refine H.hV (o:=x) U.toVok bu (λJ p aN R M _ _=>?_);obtain⟨Z,O⟩:∃Z,V.act x=Z:=⟨_,rfl⟩
  rw[O]at M R act am;have an:=G.act act;have aq:=an.len;have aF:=act.ri.eI;rw[df,df]at aq;have si:∀ {L':cr} {w':bI} {F:Addr->Prop},cQ E A v Z.1 L' w'->(∀a,(∀(j:Nat) y,(dh x)[j]?=some y->w'.cell? (a.add j)=some y)->F a)->cF l.p l.n (k:Int) 5 F:=λ{L' w' F} C f=>C.op ah ho hx (λa d=>f a (λj y ad=>d j y ad C));refine⟨λgs w'=>gs.n=(gl++ll x Z).length/\cQ E A v Z.1 (bD p (gk Z.2 J)::bw J 1 (bC Z.2.bE)::bw gs 1 (bC (gl++ll x Z))::bD m (dh o)::L) w',?_,?_⟩
  ·refine⟨λb w'=>b=decide (x.kind=11/\Z.2.err=0)/\cQ E A v Z.1 (bD p (gk Z.2 J)::bw J 1 (bC Z.2.bE)::bw gone 1 (bC gl)::bD m (dh o)::L) w',?_,?_⟩
   ·refine si M (λa g=>⟨_,g 0 _ rfl,eC (λK=>⟨_,M.cell (k:=0) (j:=0) rfl rfl,?_,M⟩) (λK=>⟨by rw[dq];exact λe=>K e.1,M⟩)⟩);rw[Bool.eq_iff_iff,oV,gD];exact⟨λe=>⟨K,e⟩,λe=>e.2⟩
   rintro _ b aC ⟨rfl,s⟩;refine cy (λg=>?_) (λg=>?_)
   ·have g:=kA g;have he:ll x Z= [x.a]:=by unfold ll;rw[bK g]
    rw[he];exact si s (λa g=>⟨_,g 1 _ rfl,s.app (q:=2) rfl D bu (λs' ae ab u=>⟨ab,u⟩)⟩)
   ·have g:=kj g;have he:ll x Z= []:=by unfold ll;rw[bJ g]
    rw[he,g3];exact⟨D,s⟩
  rintro _ gs aC ⟨au,s⟩;refine⟨J,s.cell (k:=0) (j:=2) rfl rfl,s.GQ 2 1 rfl rfl au R (by rw[df];omega) (λs' ae ab u=>?_)⟩;rw[c4];refine⟨⟨k+1,Z.1,_,rfl,bu,act.ri,bu,an,ab,u.tail.tail⟩,?_⟩;show(((os.length:Nat):Int)-((k+1:Nat):Int)).toNat<(((os.length:Nat):Int)-(k:Int)).toNat;omega
 refine H.procs U.toVok (λpl aN S M=>⟨pl,rfl,?_⟩);have aa:V.pr.length=V.procs.length:=dY _;have fin:∀ {V':Vs} {F:cr} {w':bI} {op:db},cQ E A v V' (F++(bD m (dh op)::L)) w'->Sep E (cO W.heap::L) w':=λ{V' F w' op} C=>by
  have s:=C.drop;rw[ho]at s;have u:Sep E ([cO W.heap]++((F++[bD m (dh op)])++L)) w':=by
   have e:F++(bD m (dh op)::L)=(F++[bD m (dh op)])++L:=by simp
   rw[e]at s;exact s
  exact(u.perm (mr _ _ _)).right
 refine⟨λi w'=>∃j:Nat,i=j/\j<=gl.length/\cQ E A v V (fy pl V.pr::bw gone 1 (bC gl)::bD m (dh o)::L) w',λi _=>(gl.length-i).toNat,⟨0,rfl,dX _,M⟩,?_⟩;rintro _ _ aC ⟨j,rfl,aS,s⟩;refine cU (λaw=>?_) (λar=>?_)
 ·obtain⟨x,hx⟩:∃x,gl[j]?=some x:=⟨_,du⟩
  have I:=eG hx;have aQ:=G.qs x I;have ai:gl.getD j 0=x:=by rw[dC,hx];rfl
  obtain⟨p,hp⟩:∃p,V.procs[x.toNat]?=some p:=⟨_,du⟩
  have Q:=G.dead _ _ hp;rw[show((x.toNat:Nat):Int)=x by omega,dq (λC=>C I)]at Q;obtain⟨y,ad,T⟩:=TW hp;have el:∀ {F:Addr->Prop} {w':bI},cQ E A v V (fy pl V.pr::bw gone 1 (bC gl)::bD m (dh o)::L) w'->(∀a,w'.cell? a=some (Iv x)->F a)->cF gone.p gone.n (j:Int) 1 F:=λ{F w'} C f=>nn 1 C.right rfl D bu bu (λa d=>f a (by have:=d 1 C.right rfl;rw[dt,ai]at this;exact this));refine⟨λw'=>cQ E A v V (fy pl V.pr::bw gone 1 (bC gl)::bD m (dh o)::L) w',?_,?_⟩
  ·refine el s (λa d=>⟨_,d,cU (λC=>bu) (λ_=>el s (λa d=>⟨_,d,hq (λC=>bu) (λ_=>el s (λa d=>⟨_,d,?_⟩))⟩))⟩);rw[show x=((x.toNat:Nat):Int) by omega];refine s.pr 0 rfl S ad (λa _ _ g=>⟨_,g,bF (by rw[T,Q]) ?_⟩);refine el s (λa d=>⟨_,d,s.space (pid:=x) (λq aI=>⟨q,rfl,bF (by rw[aI,G.space I];rfl) s⟩)⟩)
  rintro _ ae u;refine⟨λi w'=>∃n:Nat,i=n/\n<=j/\cQ E A v V (fy pl V.pr::bw gone 1 (bC gl)::bD m (dh o)::L) w',λi _=>((j:Int)-i).toNat,⟨0,rfl,dX _,u⟩,?_⟩;rintro _ _ aD ⟨n,rfl,hn,B⟩;refine cU (λak=>?_) (λaj=>?_)
  ·obtain⟨z,aA⟩:∃z,gl[n]?=some z:=⟨_,du⟩
   have av:gl.getD n 0=z:=by rw[dC,aA];rfl
   have ax:z≠x:=by
    intro e;subst e;obtain⟨aK,K⟩:=c2.1 aA;obtain⟨aL,af⟩:=c2.1 hx;have:=mV.1 (nx.1 G.nodup) n j aK aL bu;exact this (K.trans af.symm)
   refine B.dr (λaB t=>?_);refine nn 1 t.right rfl D bu bu (λa d=>⟨_,d 1 t.right rfl,el t (λb hb=>⟨_,hb,?_⟩)⟩);rw[dt,av];refine eC (λe=>absurd e ax) (λ_=>?_);rw[c4];refine⟨⟨n+1,rfl,bu,t⟩,?_⟩;show((j:Int)-((n+1:Nat):Int)).toNat<((j:Int)-(n:Int)).toNat;omega
  ·rw[c4];refine⟨⟨j+1,rfl,bu,B⟩,?_⟩;show(((gl.length:Nat):Int)-((j+1:Nat):Int)).toNat<(((gl.length:Nat):Int)-(j:Int)).toNat;omega
 refine⟨λc i w'=>∃n:Nat,i=n/\n<=V.procs.length/\c=((V.procs.take n).countP alive:Nat)/\cQ E A v V (fy pl V.pr::bw gone 1 (bC gl)::bD m (dh o)::L) w',λ_ i _=>(V.procs.length-i).toNat,⟨0,rfl,dX _,rfl,s⟩,?_⟩;rintro _ _ _ ae ⟨n,rfl,hn,rfl,u⟩;have ap:(V.procs.take n).countP alive<=64:=lv Ba (by rw[gT];omega);refine cU (λak=>?_) (λaj=>?_)
 ·obtain⟨p,hp⟩:∃p,V.procs[n]?=some p:=⟨_,du⟩
  obtain⟨y,ad,T⟩:=TW hp;have e:(V.procs.take (n+1)).countP alive=(V.procs.take n).countP alive+if alive p then 1 else 0:=by
   rw[l0,hp,Hh];show _+List.countP alive [p]=_;rw[List.countP_singleton]
  refine u.pr 0 rfl S ad (λa _ _ g=>⟨_,g,?_⟩);have st:∀c:Nat,(V.procs.take (n+1)).countP alive=c->(∃al:Nat,i64.wrap ((n:Int)+1)=al/\al<=V.procs.length/\(c:Int)=((V.procs.take al).countP alive:Nat)/\cQ E A v V (fy pl V.pr::bw gone 1 (bC gl)::bD m (dh o)::L) ae)/\(((V.procs.length:Nat):Int)-i64.wrap ((n:Int)+1)).toNat<(((V.procs.length:Nat):Int)-(n:Int)).toNat:=λc g=>by
   rw[c4];exact⟨⟨n+1,rfl,bu,by rw[g],u⟩,bu⟩
  refine cy (λaJ=>?_) (λhf=>?_)
  ·rw[c4 (k:=(V.procs.take n).countP alive) bu];exact st _ (by rw[e,<- T,aJ];rfl)
  ·exact st _ (by rw[e,<- T,hf];rfl)
 ·have ay:n=V.procs.length:=by omega
  subst ay;rw[fB]at ap ⊢;have aH:=G.all;refine eC (λe0=>bT rfl ⟨?_,fin (F:=[_,_]) u⟩) (λe0=>?_)
  ·congr 1;rw[oV,S,aa];omega
  ·obtain⟨x,hx⟩:∃x,gl[0]?=some x:=⟨_,du⟩
   have I:=eG hx;have ai:gl.getD 0 0=x:=by rw[dC,hx];rfl
   refine nn 1 u.right rfl D bu bu (λa d=>⟨_,d 1 u.right rfl,?_⟩);rw[show((0:Int)).toNat=0 from rfl,ai];obtain⟨gs,us,r,ps,K,af,aE⟩:=u;have i1:(Vm {A with gs:=gs,us:=us} v r V.core ps (fy pl V.pr::bw gone 1 (bC gl)::bD m (dh o)::L))[18+ps.length+2]?=some (bD m (dh o)):=by rw[j8];rfl
   refine St.i (aE.fr _ i1) (by show 1<5;decide) (λaD B=>?_);have B:=Sep.put i1 B;rw[xh]at B;have B:cQ E A v V (fy pl V.pr::bw gone 1 (bC gl)::bD m (dh {o with a:=x})::L) aD:=⟨gs,us,r,ps,K,af,B⟩
   have N:∀ {V':Vs} {F:cr} {w':bI},cQ E A v V' (F++(bD m (dh {o with a:=x})::L)) w'->∀(j:Nat) c,(dh {o with a:=x})[j]?=some c->w'.cell? (Addr.add ⟨m,0,none⟩ j)=some c:=λ{V' F w'} C j c g=>C.cell (k:=F.length) (by rw[fL (ec _),iE];rfl) g;refine⟨_,N (F:=[_,_]) B 0 _ rfl,_,N (F:=[_,_]) B 1 _ rfl,_,N (F:=[_,_]) B 2 _ rfl,_,N (F:=[_,_]) B 3 _ rfl,_,N (F:=[_,_]) B 4 _ rfl,?_⟩;refine B.hV (o:={o with a:=x}) U.toVok bu (λJ p aB R t _ _=>?_);obtain⟨Z,O⟩:∃Z,V.act {o with a:=x} =Z:=⟨_,rfl⟩
   rw[O]at t R;refine⟨λb w'=>b=decide (4<=o.kind/\o.kind<=11)/\cQ E A v Z.1 (bD p (gk Z.2 J)::bw J 1 (bC Z.2.bE)::fy pl V.pr::bw gone 1 (bC gl)::bD m (dh {o with a:=x})::L) w',?_,?_⟩
   ·refine⟨_,N (F:=[_,_,_,_]) t 0 _ rfl,hq (λX=>⟨_,N (F:=[_,_,_,_]) t 0 _ rfl,?_,t⟩) (λX=>⟨by rw[dq];exact λe=>by have:=e.1;dsimp only at X;omega,t⟩)⟩;have X:4<=o.kind:=X;show decide (o.kind<=11)=_;rw[sF];exact⟨λe=>⟨X,e⟩,λe=>e.2⟩
   rintro _ b aR ⟨rfl,Y⟩;refine bT rfl (bT ?_ ?_);·rw[oV,D,cX bu bu,S,aa];omega
   ·refine cy (λe=>⟨rfl,fin (F:=[_,_,_,_]) Y⟩) (λe=>⟨_,Y.cell (k:=0) (j:=0) rfl rfl,?_,fin (F:=[_,_,_,_]) Y⟩);have g:4<=o.kind/\o.kind<=11:=by simpa using e
    have:Z.2.err=2:=by
     rw[<- O,w1 (o:={o with a:=x}) g];dsimp only;rw[G.space I];rfl
    rw[this];rfl
end Go.Mp
namespace Go.Proofs.YtafigbgagbolgaaGreatDoor
open Go Go.Vc Go.Sp Go.Mp Go.RowKit Go.ChangeShapes
def aAB(os:Os)(started:os.Started)(H:Type)(enc:bZ×bH->H):
  ReturnsInHanded {} nk os oM .any (λw args=>(Rows.vmGoneSpec.pre enc P nu [] false w args/\laidMetH P jP w)/\sizedMet enc P nu (OpenSpec.ofChange Rows.vmGoneSpec) false w args) (Rows.vmGoneSpec.post enc P nu false true false false):=by
 refine AQ (C:=nk) (tb:=ym) (X:=λw=>laidMetH P jP w) (λ_ _ m h=>h.of_heap m) own started cE GM
  (ChangeSpec.witness_shaped (enc:=enc) (C:=nk) (os:=os) (X:=λw _=>laidMetH P jP w) false (World.laidAll P os jP) #[.int .i64 0,.int .i64 0,aP8,aP8,.agg #[.int .i64 0,.int .i64 0,.int .i64 0,.int .i64 0,.int .i64 0]] 8 (World.laidAll_os _ _ _) (World.shaped_of_ZipB cE cE) cE cE cE (AT os _))
  laidOut cE cE rfl cE ?_ ?_
 ·intro e gs j k
  match e,gs,j,k with
  |[d0,d1,d2,d3,d4],[],_,_=>rfl
 ·intro W base args b a _ hx;have hw:=AU hx;obtain⟨p,q,r,t,u,rfl⟩:=GN b;have a0:=a 0 _ _ rfl rfl;have c:=a 1 _ _ rfl rfl;have d:=a 2 _ _ rfl rfl;have a3:=a 3 _ _ rfl rfl;have a4:=a 4 _ _ rfl rfl;obtain⟨f,rfl,hf⟩:=oJ a0;obtain⟨s,rfl,n⟩:=oJ c;obtain⟨sz,zs,rfl,i⟩:=A1 (w6 cE d);obtain⟨l,xs,rfl,g⟩:=AS a3;obtain⟨o,rfl⟩:=GP a4;refine use (aIP i g hw) ?_;rintro v w' ⟨rfl,h⟩;exact⟨_,rfl,rfl,AV h⟩
def TX:Tryz.pinned.checked.prog.funcNamed Rows.vmGoneRow.func=some oM:=by kernel_rfl
def aHy:ui P nu Rows.vmGoneSpec Rows.vmGoneRow=true:=by kernel_rfl
def aHz:uj P oM Rows.vmGoneRow=true:=by kernel_rfl
def aHA:uk P oM Rows.vmGoneRow=true:=by kernel_rfl
def aHB:um P oM Rows.vmGoneRow=true:=by kernel_rfl
def aHC:uo P oM Rows.vmGoneRow=true:=by kernel_rfl
def aHD:uq P nu Rows.vmGoneSpec Rows.vmGoneRow=true:=by kernel_rfl
def aHE:ur P nu Rows.vmGoneSpec Rows.vmGoneRow=true:=by kernel_rfl
def aHF:uu P Rows.vmGoneRow=true:=by kernel_rfl
def aHG:uv P nu Rows.vmGoneSpec Rows.vmGoneRow=true:=by kernel_rfl
def aCL:Rows.VmGoneSaid:=
 OpenClaim.holds_of_wide oM nu rfl rfl rfl rfl rfl rfl rfl ⟨rfl,rfl,rfl,rfl,rfl⟩ rfl rfl rfl rfl rfl TX GM
  (AR aHy aHz aHA aHB aHC aHD aHE aHF aHG)
  (kA cE) (by unfold Func.isWrapper;rw[bJ (by decide+kernel)];exact⟨rfl,rfl⟩)
  (λos started H enc _=>aAB os started H enc)
def aHH:Rows.vmGoneRow.wfByText (OpenSpec.ofChange Rows.vmGoneSpec)=true:=by kernel_rfl
def aDr:Tryz.pinned.checked.prog.mainIs=some (true, "6dae9ca1e3fae822e43264ec614d78dc4c2fe72aea56ab24750a95019e43a27c".toList):=by kernel_rfl
def aCM:false=Tryz.pinned.checked.prog.looks []:=by kernel_rfl
def aDq:false=Rows.vmGoneRow.goesBy Tryz.pinned.checked.prog:=by kernel_rfl
def aCN:(nu.params.toList.all λu=> !P.wantsStandIn u)=true:=by kernel_rfl
def vmGone_card:Rows.VmGoneCardSaid:=
 Claim7.holds_tied_plain_at .later [] [.data] true (true, "6dae9ca1e3fae822e43264ec614d78dc4c2fe72aea56ab24750a95019e43a27c") false
  aCL (λ_ h=>by cases h) aHH (λ_ h=>by cases h) vmGone_row_tie rfl ⟨rfl,rfl⟩ aDr rfl
  (λf fn hf a=>by
   obtain rfl:f=oM:=cV (TX.symm.trans hf) |>.symm;obtain rfl:fn=nu:=(cV (GM.symm.trans a)).symm;refine⟨aCM,λj t b=>?_⟩;have hm:t∈nu.params.toList:=by simpa using lp b
   exact(show P.wantsStandIn t=false by simpa using fM.1 aCN t hm))
  aDq
end Go.Proofs.YtafigbgagbolgaaGreatDoor
