/- Vm: Each bL has as many refs as entries lead to it; each entry leads to a bL that there is: the law answers true and lets its arguments be; for every input. -/
import Derived.Test.YtafigbgagbolgaaGreatDoorD16
import Derived.Test.YtafigbgagbolgaaGreatDoorProg
import Derived.Test.YtafigbgagbolgaaGreatDoorChecked
import Derived.LaidMore
import Derived.Lay
import Derived.OpenShut
import Derived.Stop.LaidErr
import Derived.Lib.LaidTab
import Derived.SevenTiedAt
import Derived.Test.YtafigbgagbolgaaGreatDoorRows
import Derived.Test.YtafigbgagbolgaaGreatDoorTie
import Derived.Test.YtafigbgagbolgaaGreatDoorCards
set_option linter.all false
set_option maxRecDepth 100000
open Go.IntKind(i64 u64)
open Go.Proofs.Tryz
namespace Go.Kc
open Go Go.Kt Go.Sp
def TS.all(T:TS):bS:=((List.range T.next.toNat).filter λi:Nat=>(T.pg i).isSome).map Int.ofNat
end Go.Kc
namespace Go.Mp
open Go Go.Vc
abbrev oN:bj6:=11
abbrev rj:bj6:=26
noncomputable abbrev nv:Func:=f11
def GR:P.funcs[oN]?=some nv:=func11
def zl(a0:Bool)(d:Int)(w:bI)(g:(Bool->Int->bi9)->Bool->Int->bi9):Prop:=∃(c:Bool->Int->bi9) (M:Bool->Int->bI->Nat),c a0 d w/\∀_:Nat->bH,∀b0 b1,∀w,c b0 b1 w->g (λa b v=>c a b v/\M a b v<M b0 b1 w) b0 b1 w
end Go.Mp
namespace Go.Mp
open Go Go.Vc Go.Proofs
variable{K:bj0}{w:bI}
variable(K w)
def xi(c:cm):=
 NN c λa=>qZ w a 10 λd=>qJ vA #[Pv d] w λe b=>K (Sv e) b
variable{K w}
def GS(c)(h:xi K w c):=bM {} #[Pv c] K w func26 h
end Go.Mp
namespace Go.Mp
open Go Go.Vc Go.Proofs
variable{K:bj0}{w:bI}
variable(K w)
def TY(bQ cg:Int)(bU l:Sl):=
 qF p6 #[] w λA O=>dO A (K aP2 O) (qF vw #[Iv bQ,Iv cg,Sv bU,Sv l] O λaB T=>cond aB (K (.bool A) T) (qR p5 #[Iv bQ,Iv cg,Sv bU] T λp aA=>qR vx #[Pv p] aA λn t=>cond n.isNone (K aP2 t) (qO 0 t λB i17 j=>e7 i17 l.n (qW l i17 5 λE=>zL j E λZ aa ab ad ae=>zx la #[Pv p,.agg #[Iv Z,Iv aa,Iv ab,Iv ad,Iv ae]] j λaC aD aE Q=>(B (i64.wrap (i17+1)) Q)) (qJ rj #[Pv n] j λd R=>∃g:Sl,∃u:bI,Sem.run P (Instr.makeSlice 22 (Iv ((d.n:Nat):Int)) (Iv ((d.n:Nat):Int))) R=.ok (Sv g) u/\qJ oB #[Pv p] u λo S=>qO 0 S λq i41 v=>e7 i41 o.n (qR p7 #[Pv p,Iv i41] v λy c=>cond y.isNone (qW o i41 3 λF=>qy c F 2 λaf=>cond af (K aP2 c) (qW o i41 3 λG=>qL c G 1 λag=>cond (ag !=0) (K aP2 c) ((q (i64.wrap (i41+1)) c)))) (qJ ys #[Pv y] c λz U=>qO 0 U λC i x=>e7 i z.n (zl false 0 x λr h b k=>e7 b d.n (Dr (λf=>qW d b 1 λa64=>qD f a64 λah=>qW z i 1 λH=>qD f H λai=>cond (ah==ai) (qW g b 1 λI=>qD f I λaj=>qW g b 1 λJ=>St J (Iv (i64.wrap (aj+1))) (λV=>(r true (i64.wrap (b+1)) V)) f) ((r h (i64.wrap (b+1)) f))) k) (dO h (K aP2 k) ((C (i64.wrap (i+1)) k)))) ((q (i64.wrap (i41+1)) x)))) (qO 0 v λD e m=>e7 e d.n (qW d e 1 λL=>qD m L λak=>qX vz #[Pv n,Iv ak] m λal am an ao ap aq ar au av aw W=>qV W λs X=>qU [Iv al,Iv am,Iv an,Iv ao,Iv ap,Iv aq,Iv ar,.bool au,.bool av] s X λY=>Dr (λa=>cond (aw !=0) (K aP2 a) (qL a s 5 λax=>qW g e 1 λM=>qD a M λay=>cond (ax !=ay) (K aP2 a) (qW g e 1 λN=>qD a N λaz=>cond (az==0) (K aP2 a) ((D (i64.wrap (e+1)) a))))) Y) (K (.bool A) m))))))
variable{K w}
def anL(bQ cg bU l)(h:TY K w bQ cg bU l):=bM {(z8 [41,44,45,47,57,63,64,66,71,83,89,90,92,95,96,98,107,112,118,119,121,132,140,147] [] [(11,[(12,jZ)]),(18,[(16,jZ)]),(26,[(19,jZ)]),(30,[(20,.bool),(21,jZ)]),(38,[(22,jZ)])]:dU)with head:=λr=>(bif r==32 then 9 else bif r==41 then 18 else 0)} #[Iv bQ,Iv cg,Sv bU,Sv l] K w func11 h
end Go.Mp
namespace Go.Mp
open Go Go.Vc Go.Sp Go.Proofs Go.Kc
variable{E:Env}{L:cr}{w:bI}{A:At}{S:Cs}
def A8{T:TS}:T.all.Pairwise (· < ·):=by
 unfold TS.all;rw[kk];exact(G7.filter _).imp (λ{a b} h=>by show(a:Int)<(b:Int);omega)
def xj{T:TS}(b:hJ T){x:Int}:x∈T.all↔(T.pg x).isSome=true:=by
 unfold TS.all;rw[fD];constructor
 ·rintro⟨i,a,rfl⟩;rw[gp]at a;exact a.2
 ·intro h;obtain⟨p,hp⟩:=jf.1 h;have h1:=b.ids _ _ hp;refine⟨x.toNat,gp.2 ⟨gq.2 bu,?_⟩,by show((x.toNat:Nat):Int)=x;omega⟩;rw[show((x.toNat:Nat):Int)=x by omega];exact h
def GU(a:Kc.Inv S):Tp.eI S.bt 16777216:=λk hk=>by
 obtain⟨p,hp⟩:=jf.1 hk;have:=a.cI.ids _ _ hp;have:=a.ids;omega
def GV(b:Kc.Inv S)(h:Sep E (ch A S++L) w):Calls P rj #[Pb A.c] w
  (cC λv w'=>∃s:Sl,v=Sv s/\s.n=S.bt.all.length/\Sep E (ch A S++bw s 1 (bC S.bt.all)::L) w'):=by
 apply GS;unfold xi qJ qZ;refine⟨_,rfl,ld h 0 rfl rfl rfl (use (Tp.Ft (GU b) bN (h.fr 11 rfl)) ?_)⟩;rintro _ c ⟨s,l,rfl,a,hl,h1⟩;have e:l=S.bt.all:=Gp.wL (r:=(· < · :Int->Int->Prop)) (λx=>HF x) (λx y z=>Int.lt_trans) hl.c1 A8 (λk=>by rw[hl.mem,xj b.cI]);subst e;have h1:=h1.hC (q:=11) rfl;exact⟨s,rfl,s,rfl,a,Sep.eK (Q:=ch A S) h1⟩
end Go.Mp
namespace Go.Mp
open Go Go.Vc Go.Sp Go.Proofs Go.Kc Go.Kw Go.Kt
variable{E:Env}{L:cr}{w W:bI}{A:At}{S:Cs}{v:Nat}{r:Sl}{ps:PS}{V:Vs}
def xd{fr sl:Int}{sz ol:Sl}{l:bS}{os:bA db}{o:cf Obj}(X:Ints E (cO o::L) sz l)(D:sz.n<=sz.c)(K:jb E L ol os)(hb:os.length<=1000)(h:Sep E (cO o::L) w):
  Calls P tj #[Iv fr,Iv sl,Sv sz,Sv ol] w (cC λx w'=>∃s:Sl,x=Sv s/\Sep E (dd s (cz (Vs.new fr sl l) os).2::cO o::L) w'):=by
 have hn:=K.1;have G:(⟨Kc.new fr sl l,plain []⟩:Vs)=Vs.new fr sl l:=rfl;have e:(Kc.new fr sl l).bt.next=0:=rfl;apply z6;unfold vW qR qU qW qf zL zx;refine use (AO X D h) ?_;rintro _ af ⟨A,v,rfl,ho,h1⟩;refine⟨_,rfl,λs x w'=>∃(k:Nat) (gs us r:Sl) (S:Cs) (ps:PS),x=k/\k<=os.length/\dH ps/\r.n=ps.length/\ps.length<=64/\(⟨S,plain ps⟩:Vs)=(cz (Vs.new fr sl l) (os.take k)).1/\Kc.Inv S/\S.bt.next<=66*k/\Sep E (Vm {A with gs:=gs,us:=us} v r S ps (dd s (cz (Vs.new fr sl l) (os.take k)).2::L)) w',λ_ x _=>(os.length-x).toNat,?_,?_⟩;·refine⟨0,A.gs,A.us,⟨none,0,0⟩,Kc.new fr sl l,[],rfl,dX _,(λi g a s F=>by cases F),rfl,bN,G,Inv.new fr sl l,by rw[e];decide,Vm.eK (Sep.ex.2 ⟨[],Sep.cL.2 ⟨⟨rfl,rfl,(λp hp=>by cases hp)⟩,Sep.cA.2 (bw.none_ (m:=3) h1)⟩⟩)⟩
 rintro _ s _ w2 ⟨k,gs,us,r,S,ps,rfl,hk,Y,hr,I,U,aa,ae,h2⟩;refine cU (λad=>?_) (λab=>?_)
 ·obtain⟨op,j⟩:∃op,os[k]?=some op:=⟨_,du⟩
  obtain⟨a,hp,c⟩:=K.2 w2 (Vm.out h2 |>.tail |> λq=>by rw[ug]at q;exact q.right) k op j;have M:(((k:Nat):Int).toNat*5)=k*5:=by rw[dt]
  refine⟨a,hp,⟨bu,bu⟩,?_⟩;rw[M];refine⟨_,c 0 _ rfl,_,c 1 _ rfl,_,c 2 _ rfl,_,c 3 _ rfl,_,c 4 _ rfl,Al.i h2 (λp ag t=>ey _ t rfl (λZ b=>?_))⟩;have b:Sep E (bD p (dh op)::Vm {A with gs:=gs,us:=us} v r S ps (dd s (cz (Vs.new fr sl l) (os.take k)).2::L)) Z:=b;refine⟨_,b.cell 0,_,b.cell 1,_,b.cell 2,_,b.cell 3,_,b.cell 4,use (AN op Y hr I aa bu b.tail) ?_⟩;rintro _ ah ⟨R,f,n,r',W,cN,rfl,T,Q,z,O,N,u⟩;have H:Vs.act ⟨S,plain ps⟩ op=((cz (Vs.new fr sl l) (os.take k)).1).act op:=by rw[U]
  have d:=pC op (os.take k) (Vs.new fr sl l);have V:os.take (k+1)=os.take k++[op]:=take_succ j;rw[<- V,<- H]at d;have F:=R.inv aa bu;have y:=Vm.e4 (A:={A with gs:=f,us:=n}) [bw W 1 (bC (Vs.act ⟨S,plain ps⟩ op).2.bE),dd s (cz (Vs.new fr sl l) (os.take k)).2] u;refine⟨_,_,W,rfl,Al.i y (λp2 ai B=>dd.push (a:=(Vs.act ⟨S,plain ps⟩ op).2) N (by rw[oe,gT];omega) B (λs' aj C=>⟨⟨k+1,f,n,r',_,cN,c4,bu,T,Q,z,?_,F.1,bu,?_⟩,?_⟩))⟩;·rw[d,O]
  ·rw[d];exact Vm.eK C
  ·rw[c4];dsimp only;omega
 ·have:k=os.length:=by omega
  subst this;rw[fB]at h2;refine⟨s,rfl,?_⟩;have t:=Vm.out h2;have b:Sep E (dd s (cz (Vs.new fr sl l) os).2::(ch {A with gs:=gs,us:=us} S++(bD v [Pb A.c,Sv r]::bw r 2 (bO gy ps)::(ps.map gR++L)))) w2:=t;have u:=b.fr 16 rfl;have y:Sep E (cO A.o::dd s (cz (Vs.new fr sl l) os).2::(((ch {A with gs:=gs,us:=us} S).take 15++[bD v [Pb A.c,Sv r],bw r 2 (bO gy ps)]++ps.map gR)++L)) w2:=by
   refine u.perm ?_;rw[dp,dp];exact HB _
  have B:=(y.ro 2 [1,0] rfl:Sep E (dd s (cz (Vs.new fr sl l) os).2::cO A.o::(_++L)) w2)
  have C:=B.perm (L':=((ch {A with gs:=gs,us:=us} S).take 15++[bD v [Pb A.c,Sv r],bw r 2 (bO gy ps)]++ps.map gR)++(dd s (cz (Vs.new fr sl l) os).2::cO A.o::L)) (mr [_,_] _ L);have J:=C.right;rw[ho]at J;exact J
def og(V:Vs){os:bA db}{k:Nat}{o:db}(hk:os[k]?=some o):(cz V (os.take (k+1))).1=((cz V (os.take k)).1.act o).1:=by
 rw[take_succ hk,pC]
def GL{l:Sl}{os:bA db}{d:bi9}(n:jc W l os)(hl:os.length<=40)(ho:A.o=W.heap)(m:Vok V)(hn:V.core.bt.next<=1000)(h:cQ E A v V L w)(k:∀w',Vok (cz V os).1->(cz V os).1.core.bt.next<=10000->cQ E A v (cz V os).1 L w'->d w'):
  ∃(u:Int->bi9) (M:Int->bI->Nat),u 0 w/\∀J:Nat->bH,∀i:Int,∀b:bI,u i b->bif(decide (i<((l.n:Nat):Int)))then(cF l.p l.n i 5 λa=>∃p:Int,b.cell? (a.add 0)=some (Iv p)/\∃q:Int,b.cell? (a.add 1)=some (Iv q)/\∃r:Int,b.cell? (a.add 2)=some (Iv r)/\∃s:Int,b.cell? (a.add 3)=some (Iv s)/\∃t:Int,b.cell? (a.add 4)=some (Iv t)/\
   Calls P la #[(Pb v),(.agg #[(Iv p),(Iv q),(Iv r),(Iv s),(Iv t)])] b λe w2=>∃B:Int,∃C:Int,∃D:Sl,e=.returned (.agg #[(Iv B),(Iv C),(Sv D)])/\(u (i64.wrap (i+1)) w2/\M (i64.wrap (i+1)) w2<M i b))else d b:=by
 have H:=n.1;refine⟨λi w'=>∃j:Nat,i=j/\j<=os.length/\Vok (cz V (os.take j)).1/\(cz V (os.take j)).1.core.bt.next<=1000+66*j/\cQ E A v (cz V (os.take j)).1 L w',λi _=>(os.length-i).toNat,⟨0,rfl,dX _,m,by show V.core.bt.next<=_;omega,h⟩,?_⟩;rintro _ _ b ⟨j,rfl,K,g,z,h1⟩;refine cU (λI=>?_) (λF=>?_)
 ·obtain⟨o,c⟩:∃o,os[j]?=some o:=⟨_,du⟩
  refine h1.op n ho c (λa f=>⟨_,f 0 _ rfl h1,_,f 1 _ rfl h1,_,f 2 _ rfl h1,_,f 3 _ rfl h1,_,f 4 _ rfl h1,h1.AP g bu o (λx w2 G h2 y N=>⟨_,_,x,rfl,?_⟩)⟩);rw[c4];refine⟨⟨j+1,rfl,bu,by rw[og V c];exact y,by rw[og V c];omega,by rw[og V c];exact h2.tail⟩,?_⟩;show(((os.length:Nat):Int)-((j+1:Nat):Int)).toNat<(((os.length:Nat):Int)-(j:Int)).toNat;omega
 ·have:j=os.length:=by omega
  subst this;rw[fB]at h1 g z;exact k b g bu h1
end Go.Mp
namespace Go.Proofs.YtafigbgagbolgaaGreatDoor
open Go Go.Vc Go.Sp Go.Mp Go.RowKit Go.ChangeShapes
def aL2{α:Type}{a:cf α}(h:a.size=4):∃b c d e,a= #[b,c,d,e]:=by
 obtain⟨l⟩:=a
 match l,h with
 |[b,c,d,e],_=>exact⟨b,c,d,e,rfl⟩
end Go.Proofs.YtafigbgagbolgaaGreatDoor
namespace Go.Mp
open Go Go.Vc Go.Sp Go.Proofs Go.Kc Go.Kw Go.Kt
variable{E:Env}{L:cr}{w W:bI}{A:At}{v:Nat}{V:Vs}
def xf{o:cf Obj}(h:Sep E (cO o::L) w):Calls P p6 #[] w (cZ E (.bool true) (cO o::L)):=by
 apply AJ;unfold wS qJ qL qR qU qW qg qy zL zW zw zx;refine Al.i h (λp V h1=>?_);have h1:Sep E (cO o::bD p (bO dh ee)::L) V:=h1.swap;refine use (xd (fr:=4) (sl:=4) (sz:=⟨none,0,0⟩) (l:=[]) (ol:=⟨some ⟨p,0,none⟩,5,5⟩) (os:=ee) (L:=bD p (bO dh ee)::L) (o:=o) ⟨rfl,λw _ i x hx=>by cases hx⟩ (ec _) (jb.h0 (q:=0) (c:=5) (os:=ee) rfl) bN h1) ?_;rintro _ w2 ⟨s,rfl,h2⟩;have hlen:s.n=5:=(dd.len 0 h2 rfl).trans (oe ee _);obtain⟨J,C,T,_⟩:=ns (k:=2) rfl;obtain⟨a3,D,_,R⟩:=ns (k:=3) rfl;obtain⟨a4,t,U,S⟩:=ns (k:=4) rfl;generalize (cz (Vs.new 4 4 []) ee).2=r at h2 C D t;have h2:Sep E (cO o::dd s r::bD p (bO dh ee)::L) w2:=h2.swap;refine⟨s,rfl,pD (fr:=4) (sl:=4) (sz:=⟨none,0,0⟩) (l:=[]) ⟨rfl,λw _ i x hx=>by cases hx⟩ (ec _) h2 (λA v Y ho K=>⟨_,rfl,λw'=>cQ E A v (Vs.new 4 4 []) (dd s r::bD p (bO dh ee)::L) w',bF rfl (bF (by rw[hlen];rfl) K),?_⟩)⟩;intro _ W G;refine⟨⟨p,0,none⟩,rfl,⟨bN,bN⟩,?_⟩;have hb:∀j x,(bO dh ee)[j]?=some x->W.cell? (Addr.add ⟨p,0,none⟩ j)=some x:=λj x hx=>G.cell (k:=1) rfl hx;refine⟨_,hb 0 _ rfl,_,hb 1 _ rfl,_,hb 2 _ rfl,_,hb 3 _ rfl,_,hb 4 _ rfl,?_⟩;have z:(Vs.new 4 4 []).act ⟨3,0,0,0,0⟩=({Vs.new 4 4 []with procs:=[(0,some Kw.Sp.new)]},⟨0,0,[]⟩):=by
  rw[AZ (AY 4 4 [])];rfl
 refine cQ.hV (o:=⟨3,0,0,0,0⟩) G (Vok.new 4 4 []) (by rw[oK];decide) (λX q Z m u B n5=>?_);rw[z]at u B n5 m;dsimp only at u B n5 m;refine u.procs B (λpl I n e=>⟨pl,rfl,?_⟩);have g:=e.right;have d:∀(i:Int) (k:Nat) (a:cG) {F:Addr->Prop},i=k->r[k]?=some a->(∀a0:Addr,I.cell? (a0.add 0)=some (Iv a.err)->I.cell? (a0.add 1)=some (Iv a.n)->F a0)->cF s.p s.n i 3 F:=λi k a F O M f=>dd.el 3 g rfl O M f;refine d 2 2 J rfl C (λx hx _=>⟨_,hx,bT (by rw[T];rfl) (d 3 3 a3 rfl D (λx _ hx=>⟨_,hx,bT (by rw[R];rfl) (d 4 4 a4 rfl t (λx _ hx=>⟨_,hx,bT (by rw[S];rfl) (d 4 4 a4 rfl t (λx hx _=>⟨_,hx,bT (by rw[U];rfl) ?_⟩))⟩))⟩))⟩);refine⟨_,e.cell (k:=1) (j:=0) rfl rfl,bT rfl (bT (by rw[n];rfl) ?_)⟩;refine jL Pr.kv 0 g rfl n (show(0:Int)=((0:Nat):Int)from rfl) (show _=some (⟨0,0,true⟩:Pr)from rfl) (λb _ N=>⟨_,by rw[cj];exact N 2 _ rfl,bT rfl ?_⟩);refine e.space (pid:=0) (λx hx=>⟨x,rfl,bT (by rw[hx];rfl) (e.space (pid:=1) (λy Q=>⟨y,rfl,bT (by rw[Q];rfl) (e.core ⟨_,rfl,rfl,?_⟩)⟩))⟩);have H:=e.drop;rw[ho]at H;exact H.ro 6 [0] rfl
def cQ.cc(h:cQ E A v V L w):∃(B:At) (M:cr),B.c=A.c/\B.t=A.t/\Sep E (ch B V.core++M) w/\∀(F:cr) w',Sep E (ch B V.core++(F++M)) w'->cQ E A v V (F++L) w':=by
 obtain⟨gs,us,r,ps,h1,h2,a⟩:=h;refine⟨{A with gs:=gs,us:=us},(bD v [Pb A.c,Sv r]::bw r 2 (bO gy ps)::(ps.map gR++L)),rfl,rfl,a,λF w' b=>⟨gs,us,r,ps,h1,h2,?_⟩⟩;refine b.perm (oR _ ?_);have e:(bD v [Pb A.c,Sv r]::bw r 2 (bO gy ps)::(ps.map gR++L))=(bD v [Pb A.c,Sv r]::bw r 2 (bO gy ps)::ps.map gR)++L:=rfl;rw[e];exact mr _ _ _
def cQ.bt(h:cQ E A v V L w)(m:Vok V){K:Ending->bi9}(k:∀(s:Sl) w',s.n=V.core.bt.all.length->cQ E A v V (bw s 1 (bC V.core.bt.all)::L) w'->K (.returned (Sv s)) w'):Calls P rj #[Pb A.c] w K:=by
 obtain⟨B,M,a,_,h1,h2⟩:=h.cc;rw[<- a];refine use (GV m.inv h1) ?_;rintro _ w' ⟨s,rfl,c,b⟩;exact k s w' c (h2 [_] w' b)
def cQ.bL(id:Int)(h:cQ E A v V L w){K:Ending->bi9}(k:∀w',cQ E A v V L w'->K (.returned (.tuple #[.agg (V.core.bt.get id).1.vs.toArray,Iv (V.core.bt.get id).2])) w'):Calls P vz #[Pb A.c,Iv id] w K:=by
 obtain⟨B,M,a,_,h1,h2⟩:=h.cc;rw[<- a];refine use (FO id h1) ?_;rintro _ w' ⟨rfl,b⟩;exact k w' (h2 [] w' b)
def cQ.pr{s:Sl}{l:bA Pr}(q:Nat)(h:cQ E A v V L w)(d:L[q]?=some (fy s l))(hn:s.n=l.length){k:Nat}{x:Pr}(hx:l[k]?=some x){F:Addr->Prop}(f:∀a,w.cell? (a.add 0)=some (Iv x.g)->w.cell? (a.add 1)=some (Iv x.size)->w.cell? (a.add 2)=some (.bool x.live)->F a):cF s.p s.n (k:Int) 3 F:=
 jL Pr.kv q h.right d hn rfl hx (λb _ c=>f _ (by rw[cj];exact c 0 _ rfl) (by rw[cj];exact c 1 _ rfl) (by rw[cj];exact c 2 _ rfl))
end Go.Mp
namespace Go.Kw
open Go Go.Kc Go.Kt Go.Vc
variable{V:Vs}
def xk:∀(os:bA db) {V:Vs},dS V->V.core.bt.next+66*os.length+66<16777216->dS (cz V os).1
 |[],_,m,_=>m
 |o::os,V,m,hn=>by
  have eI:=m.eI;rw[hN]at hn;exact xk os (sw m bu o).ri (by have:=Kw.fc m bu o;omega)
end Go.Kw
namespace Go.Mp
open Go Go.Vc Go.Sp Go.Proofs Go.Kc
variable{E:Env}{L:cr}{w:bI}{A:At}{S:Cs}
def Sep.xl{s:Sl}{l:bS}{i x:Int}{F:bi9}{q:Nat}(h:Sep E L w)(c:L[q]?=some (bw s 1 (bC l)))(hn:s.n=l.length)(d:0<=i)(h1:i<l.length)(k:∀b,Sep E (L.set q (bw s 1 (bC (l.set i.toNat x)))) b->F b):cF s.p s.n i 1 λa=>St a (Iv x) F w:=
 j5 (h.fr q c) hn d h1 (λb h2=>k b (Sep.put c h2))
end Go.Mp
namespace Go.Mp
open Go Go.Vc Go.Sp Go.Proofs Go.Kc Go.Kw Go.Kt
variable{E:Env}{L:cr}{w W:bI}{A:At}{v:Nat}{V:Vs}
def xh{r:Sl}{S:Cs}{ps:PS}(k:Nat)(B:Asn):(Vm A v r S ps L).set (18+ps.length+k) B=Vm A v r S ps (L.set k B):=by
 unfold Vm;rw[q8,q8,iD _ _ (by rw[oI];omega),oI,iD _ _ (by simp;omega),dY,show 18+ps.length+k-18-ps.length=k by omega]
def cQ.elW{s:Sl}{l:bS}{i x:Int}{F:bi9}{q:Nat}(h:cQ E A v V L w)(g:L[q]?=some (bw s 1 (bC l)))(hn:s.n=l.length)(f:0<=i)(h1:i<l.length)(k:∀b,cQ E A v V (L.set q (bw s 1 (bC (l.set i.toNat x)))) b->F b):cF s.p s.n i 1 λa=>Vc.St a (Iv x) F w:=by
 obtain⟨gs,us,r,ps,c,d,e⟩:=h;refine Sep.xl (q:=18+ps.length+q) e (by rw[j8];exact g) hn f h1 (λb h2=>k b ⟨gs,us,r,ps,c,d,?_⟩);rw[xh]at h2;exact h2
def cQ.make(n:Nat)(hb:n<1000000)(h:cQ E A v V L w){G:Sl->bi9}(k:∀s a,s.n=n->cQ E A v V (bw s 1 (bC (List.replicate n 0))::L) a->G s a):
  ∃x:Sl,∃a,Sem.run P (Instr.makeSlice jK (Iv ((n:Nat):Int)) (Iv ((n:Nat):Int))) w=.ok (Sv x) a/\G x a:=by
 obtain⟨gs,us,r,ps,b,c,d⟩:=h;exact r9 hb d (λs a e h1=>k s a e ⟨gs,us,r,ps,b,c,Vm.eK h1⟩)
end Go.Mp
namespace Go.Kw
open Go Go.Kc Go.Kt
def ln(all P:bS):bS:=all.map λa=>((P.count a:Nat):Int)
def mix(all P:bS)(id:Int)(j:Nat):bS:=all.mapIdx λn a=>((P.count a:Nat):Int)+if n<j/\a=id then 1 else 0
variable{all P:bS}{id:Int}
def aHm:(ln all P).length=all.length:=dY _
def TZ(j:Nat):(mix all P id j).length=all.length:=List.length_mapIdx
def sx(j n:Nat):(mix all P id j)[n]?=(all[n]?).map λa=>((P.count a:Nat):Int)+if n<j/\a=id then 1 else 0:=Uj
def aI0:mix all P id 0=ln all P:=by
 apply gJ;intro n;rw[sx,ln,ez];cases all[n]? with
 |none=>rfl
 |some a=>rw[fC,fC,cK,Int.add_zero]
def aKG:mix all P id all.length=ln all (P++[id]):=by
 apply gJ;intro n;rw[sx,ln,ez];cases b:all[n]? with
 |none=>rfl
 |some a=>
  have hn:=(c2.1 b).1;rw[fC,fC,rp];congr 1;by_cases e:a=id
  ·subst e;rw[bK ⟨hn,rfl⟩,xu];simp
  ·rw[bJ (λh=>e h.2),xr (l3 e)];simp
def aKH{j:Nat}(h:all[j]?=some id):mix all P id (j+1)=(mix all P id j).set j (((P.count id:Nat):Int)+1):=by
 apply gJ;intro n;have c:=(c2.1 h).1;rw[sx,hv];by_cases e:j=n
 ·subst e;rw[bK rfl,bK (by rw[TZ];exact c),h,fC,bK ⟨bu,rfl⟩]
 ·rw[bJ e,sx];cases d:all[n]? with
  |none=>rfl
  |some a=>
   rw[fC,fC];congr 2;by_cases b:n<j;·simp only[b,show n<j+1 by omega]
   ·simp only[b,show ¬ n<j+1 by omega]
def aIZ{j:Nat}{a:Int}(h:all[j]?=some a)(d:a≠id):mix all P id (j+1)=mix all P id j:=by
 apply gJ;intro n;rw[sx,sx];cases hb:all[n]? with
 |none=>rfl
 |some b=>
  rw[fC,fC];congr 2;by_cases e:n=j
  ·subst e;rw[hb]at h;cases h;simp[d]
  ·by_cases c:n<j;·simp only[c,show n<j+1 by omega]
   ·simp only[c,show ¬ n<j+1 by omega]
def aIY{j:Nat}{a:Int}(h:all[j]?=some a):(mix all P id j).getD j 0=((P.count a:Nat):Int):=by
 rw[dC,sx,h,fC,cK];simp
def aCX{l:bA PP}{k:Nat}{p:PP}(h:l[k]?=some p):eY (l.take (k+1))=eY (l.take k)++kd p:=by
 have e:l.take (k+1)=l.take k++[p]:=by rw[List.take_succ,h];rfl
 rw[e];unfold eY;rw[xx];simp
def aEQ{l:bA PP}(k:Nat)(x:Int):(eY (l.take k)).count x<=(eY l).count x:=by
 conv=>rhs;rw[<- fP k l]
 unfold eY;rw[xx,rp];omega
end Go.Kw
namespace Go.Mp
open Go Go.Vc Go.Sp Go.Proofs Go.Kc Go.Kw Go.Kt
variable{E:Env}{L:cr}{w W:bI}{A:At}{v:Nat}{V:Vs}
def cQ.ids{pid:Int}(h:cQ E A v V L w)(m:Vok V){c:bi9}{K:Ending->bi9}(hn:V.space pid=none->c w)(y:∀s,V.space pid=some s->∀(q:Sl) w',q.n=(fK s).length->cQ E A v V (bw q 1 (bC (fK s))::L) w'->K (.returned (Sv q)) w'):
  Calls P p7 #[Pb v,Iv pid] w λe f=>∃x:cm,e=.returned (.pointer x)/\bif x.isNone then c f else Calls P ys #[.pointer x] f K:=by
 obtain⟨gs,us,r,ps,h1,h2,l⟩:=h;have p:(⟨V.core,plain ps⟩:Vs)=V:=by cases V;dsimp only at h2;rw[h2]
 refine use (Gf (pid:=pid) h1 l) ?_;rintro _ w' ⟨u,rfl⟩;rcases u with⟨i,a,g,s,rfl,d,rfl⟩|⟨b,rfl⟩
 ·have b:=(iY (V:=⟨V.core,plain ps⟩) (iZ d)).1;rw[p]at b;have k:=Gq m h2 _ _ _ _ d;refine⟨_,rfl,bF rfl (use (Qv k (Vm.op d l)) ?_)⟩;rintro _ f ⟨q,rfl,t,n⟩;rw[uw k]at t n;refine y s b q f t ⟨gs,us,r,ps,h1,h2,Vm.eK ?_⟩;have j:=AK (A:={A with gs:=gs,us:=us}) (v:=v) (r:=r) (S:=V.core) (L:=L) d;have o:=Sep.hC j n;rw[Go.Mp.fJ j]at o;exact o
 ·rw[p]at b;exact⟨_,rfl,bT rfl (hn b)⟩
def aIQ{bQ cg:Int}{sz l:Sl}{zs:bS}{os:bA db}(ax:ss W sz zs)(ar:jc W l os)(h:Sep E (cO W.heap::L) w):
  Calls P oN #[Iv bQ,Iv cg,Sv sz,Sv l] w (cZ E (.bool true) (cO W.heap::L)):=by
 apply anL;unfold TY qD qF qJ qL qO qR qU qV qW qX qy zL zl zx;dsimp only;refine use (xf h) ?_;rintro _ aT ⟨rfl,h1⟩;refine⟨_,rfl,bF rfl (use (A0 bQ cg sz l aT) ?_)⟩;rintro _ _ ⟨rfl,rfl⟩;refine⟨_,rfl,cy (λ_=>⟨rfl,h1⟩) (λaD=>?_)⟩;obtain⟨_,_,_,hl⟩:=A2 aD;have aW:=ar.1;refine pD (sz:=sz) (l:=zs) (ax.ints (q:=0) rfl) ax.2.1 h1 (λA v a0 ho an=>⟨_,rfl,an.core ⟨_,rfl,bF rfl ?_⟩⟩);refine GL ar bu ho (Vok.new bQ cg zs) (by rw[oK];decide) an (λa1 _ n5 ao=>?_);have z:=xk os (dS.new bQ cg zs) (by rw[oK];omega);generalize (cz (Vs.new bQ cg zs) os).1=U at z n5 ao;have eI:=z.eI;have K:∀id∈U.core.bt.all,(U.core.bt.pg id).isSome=true:=λid eD=>(xj z.inv.cI).1 eD;have ag:U.core.bt.all.length<=10000:=r1 10000 U.core.bt.all (nx.2 (A8.imp (λaB he=>bu))) (λy aS=>by
  obtain⟨p,hp⟩:=jf.1 (K y aS);have:=z.inv.cI.ids _ _ hp;omega)
 have Y:∀x,0<(eY U.procs).count x->x∈U.core.bt.all:=λx hx=>by
  obtain⟨q,X,_⟩:=z.refs.some_ hx;exact(xj z.inv.cI).2 (by rw[X];rfl)
 refine ao.bt z.toVok (λD a2 B ap=>⟨D,rfl,?_⟩);generalize aU:U.core.bt.all=all at K ag Y B ap;refine ap.make D.n bu (λI a3 O aO=>aO.procs z.toVok (λpl a4 aa aq=>⟨pl,rfl,?_⟩));have aR:U.pr.length=U.procs.length:=dY _;have aN:List.replicate D.n (0:Int)=ln all (eY (U.procs.take 0)):=by
  rw[B];apply gJ;intro n;rw[ln,ez,oh];split;·next hn=>rw[ea hn];rfl
  ·next hn=>rw[gI bu];rfl
 rw[aN]at aq;refine⟨λi w'=>∃k:Nat,i=k/\k<=U.procs.length/\cQ E A v U (fy pl U.pr::bw I 1 (bC (ln all (eY (U.procs.take k))))::bw D 1 (bC all)::L) w',λi _=>(U.procs.length-i).toNat,⟨0,rfl,dX _,aq⟩,?_⟩;rintro _ _ aJ ⟨k,rfl,hk,J⟩;refine cU (λaB=>?_) (λaV=>?_)
 ·obtain⟨p,hp⟩:∃p,U.procs[k]?=some p:=⟨_,du⟩
  have X:U.pr[k]?=some (fk p):=by rw[so,ez,hp];rfl
  have N:∀w',cQ E A v U (fy pl U.pr::bw I 1 (bC (ln all (eY (U.procs.take (k+1)))))::bw D 1 (bC all)::L) w'->(∃am:Nat,i64.wrap ((k:Int)+1)=am/\am<=U.procs.length/\cQ E A v U (fy pl U.pr::bw I 1 (bC (ln all (eY (U.procs.take am))))::bw D 1 (bC all)::L) w')/\(((U.procs.length:Nat):Int)-i64.wrap ((k:Int)+1)).toNat<(((U.procs.length:Nat):Int)-(k:Int)).toNat:=λw' hw=>by
   rw[c4];exact⟨⟨k+1,rfl,bu,hw⟩,bu⟩
  have H:=aCX hp;obtain⟨g,o⟩:=p;have ad:=(iY hp).1;have au:∀x,(eY (U.procs.take k)).count x<=10000000:=λx=>by
   have:=aEQ (l:=U.procs) k x;have:=A3 (x:=x) z.sp;omega
  generalize eY (U.procs.take k)=F at J H au;refine J.ids z.toVok (λZ=>?_) (λs aE q aG ab C=>⟨q,rfl,?_⟩)
  ·rw[ad]at Z;subst Z;refine J.pr 0 rfl aa X (λa _ _ u=>⟨_,u,bF rfl (J.pr 0 rfl aa X (λa _ u _=>⟨_,u,bF rfl (N aJ ?_)⟩))⟩);rw[H];show cQ E A v U (fy pl U.pr::bw I 1 (bC (ln all (F++[])))::bw D 1 (bC all)::L) aJ;rw[g3];exact J
  ·rw[ad]at aE;subst aE;have H:eY (U.procs.take (k+1))=F++fK s:=H;have V:∀x∈fK s,x∈all:=λx hx=>Y x (lr (Ur.2 hx) (count_le hp));have aA:(fK s).length<=65536:=by unfold fK;rw[dY];exact gh (z.sp _ _ _ hp).cI
   rw[H]at N;generalize fK s=ids at ab C V aA N;refine⟨λi w'=>∃m:Nat,i=m/\m<=ids.length/\cQ E A v U (bw q 1 (bC ids)::fy pl U.pr::bw I 1 (bC (ln all (F++ids.take m)))::bw D 1 (bC all)::L) w',λi _=>(ids.length-i).toNat,⟨0,rfl,dX _,by rw[uP,g3];exact C⟩,?_⟩;rintro _ _ ae ⟨m,rfl,hm,f⟩;refine cU (λak=>?_) (λai=>?_)
   ·obtain⟨id,eD⟩:∃id,ids[m]?=some id:=⟨_,du⟩
    have aj:id∈all:=V id (eG eD);have ah:ids.getD m 0=id:=by rw[dC,eD];rfl
    have aX:F++ids.take (m+1)=(F++ids.take m)++[id]:=by rw[take_succ eD,dp]
    have av:∀x,(F++ids.take m).count x<=20000000:=λx=>by
     rw[rp];have:=au x;have:(ids.take m).count x<=ids.length:=lv Ui (by rw[gT];omega);omega
    generalize aw:F++ids.take m=Q at f av;have al:F++ids.take (m+1)=Q++[id]:=by rw[<- aw,take_succ eD,dp]
    refine⟨λb i w'=>∃n:Nat,i=n/\n<=all.length/\b=decide (id∈all.take n)/\cQ E A v U (bw q 1 (bC ids)::fy pl U.pr::bw I 1 (bC (mix all Q id n))::bw D 1 (bC all)::L) w',λ_ i _=>(all.length-i).toNat,⟨0,rfl,dX _,by simp,by rw[aI0];exact f⟩,?_⟩;rintro _ _ _ aH ⟨n,rfl,hn,rfl,G⟩;refine cU (λaQ=>?_) (λaP=>?_)
    ·obtain⟨a,S⟩:∃a,all[n]?=some a:=⟨_,du⟩
     have az:all.getD n 0=a:=by rw[dC,S];rfl
     refine G.dr (λaf d=>?_);refine nn 3 d.right rfl B bu bu (λc u=>⟨_,u 3 d.right rfl,nn 0 d.right rfl ab bu bu (λaY ay=>⟨_,ay 0 d.right rfl,?_⟩)⟩);rw[dt,dt,az,ah];have M:=TZ (all:=all) (P:=Q) (id:=id) n;refine eC (λe=>?_) (λe=>?_)
     ·subst e;have hx:=aIY (P:=Q) (id:=a) S;refine nn 2 d.right rfl (by rw[M,O];exact B) bu (by rw[M];omega) (λc u=>⟨_,u 2 d.right rfl,?_⟩);rw[dt,hx,cX bu (by have:=av a;omega)];refine d.elW (q:=2) rfl (by rw[M,O];exact B) bu (by rw[M];omega) (λaI t=>?_);rw[dt,<- aKH S]at t;rw[c4];refine⟨⟨n+1,rfl,bu,?_,t⟩,?_⟩;·rw[take_succ S];simp
      ·show(((all.length:Nat):Int)-((n+1:Nat):Int)).toNat<(((all.length:Nat):Int)-(n:Int)).toNat;omega
     ·rw[c4];refine⟨⟨n+1,rfl,bu,?_,by rw[aIZ S e];exact d⟩,?_⟩
      ·rw[take_succ S];simp[l3 e]
      ·show(((all.length:Nat):Int)-((n+1:Nat):Int)).toNat<(((all.length:Nat):Int)-(n:Int)).toNat;omega
    ·have aC:n=all.length:=by omega
     subst aC;rw[aKG,<- al]at G;refine bF (by rw[fB,dK aj];rfl) ?_;rw[c4];refine⟨⟨m+1,rfl,bu,G⟩,?_⟩;show(((ids.length:Nat):Int)-((m+1:Nat):Int)).toNat<(((ids.length:Nat):Int)-(m:Int)).toNat;omega
   ·have:m=ids.length:=by omega
    subst this;rw[fB]at f;exact N ae f.tail
 ·have:k=U.procs.length:=by omega
  subst this;rw[fB]at J;refine⟨λi w'=>∃j:Nat,i=j/\j<=all.length/\cQ E A v U (fy pl U.pr::bw I 1 (bC (ln all (eY U.procs)))::bw D 1 (bC all)::L) w',λi _=>(all.length-i).toNat,⟨0,rfl,dX _,J⟩,?_⟩;rintro _ _ aG ⟨j,rfl,aZ,C⟩;refine cU (λak=>?_) (λai=>?_)
  ·obtain⟨id,eD⟩:∃id,all[j]?=some id:=⟨_,du⟩
   obtain⟨p,hp⟩:=jf.1 (K id (eG eD));have T:=z.refs.pg hp;have ah:all.getD j 0=id:=by rw[dC,eD];rfl
   have aF:(ln all (eY U.procs)).getD j 0=p.refs:=by
    rw[dC,ln,ez,eD,T.1];rfl
   have R:=aHm (all:=all) (P:=eY U.procs);refine nn 2 C.right rfl B bu bu (λc u=>⟨_,u 2 C.right rfl,?_⟩);rw[dt,ah];refine C.bL id (λae f=>?_);rw[z.inv.bL hp];refine⟨_,_,_,_,_,_,_,_,_,_,rfl,f.alloc (λb aH G=>?_)⟩;obtain⟨gs,us,r,ps,aK,aL,aM⟩:=G;refine ey (vs:=p.vs) _ (Vm.out aM) rfl (λaf d=>?_);have d:cQ E A v U (bD b p.vs::fy pl U.pr::bw I 1 (bC (ln all (eY U.procs)))::bw D 1 (bC all)::L) af:=⟨gs,us,r,ps,aK,aL,Vm.eK d⟩
   refine d.dr (λaI t=>bF rfl ⟨_,t.cell (k:=0) (j:=5) rfl rfl,?_⟩);refine nn 2 t.right rfl (by rw[R,O];exact B) bu (by rw[R];omega) (λc u=>⟨_,u 2 t.right rfl,?_⟩);rw[dt,aF];refine g0 (λe=>absurd rfl e) (λ_=>?_);refine nn 2 t.right rfl (by rw[R,O];exact B) bu (by rw[R];omega) (λc u=>⟨_,u 2 t.right rfl,?_⟩);rw[dt,aF];refine eC (λe=>by have:=T.1;have:=T.2;omega) (λ_=>?_);rw[c4];refine⟨⟨j+1,rfl,bu,t.tail⟩,?_⟩;show(((all.length:Nat):Int)-((j+1:Nat):Int)).toNat<(((all.length:Nat):Int)-(j:Int)).toNat;omega
  ·refine⟨rfl,?_⟩;have f:=C.tail.tail.tail.drop;rw[ho]at f;exact f
end Go.Mp
namespace Go.Proofs.YtafigbgagbolgaaGreatDoor
open Go Go.Vc Go.Sp Go.Mp Go.RowKit Go.ChangeShapes
def aAC(os:Os)(started:os.Started)(H:Type)(enc:bZ×bH->H):
  ReturnsInHanded {} nk os oN .any (λw args=>(Rows.vmRefsSpec.pre enc P nv [] false w args/\laidMetH P jP w)/\sizedMet enc P nv (OpenSpec.ofChange Rows.vmRefsSpec) false w args) (Rows.vmRefsSpec.post enc P nv false true false false):=by
 refine AQ (C:=nk) (tb:=ym) (X:=λw=>laidMetH P jP w) (λ_ _ m h=>h.of_heap m) own started cE GR
  (ChangeSpec.witness_shaped (enc:=enc) (C:=nk) (os:=os) (X:=λw _=>laidMetH P jP w) false (World.laidAll P os jP) #[.int .i64 0,.int .i64 0,aP8,aP8] 8 (World.laidAll_os _ _ _) (World.shaped_of_ZipB cE cE) cE cE cE (AT os _))
  laidOut cE cE rfl cE ?_ ?_
 ·intro e gs j k
  match e,gs,j,k with
  |[d0,d1,d2,d3],[],_,_=>rfl
 ·intro W base args b a _ hx;have hw:=AU hx;obtain⟨o,p,q,r,rfl⟩:=aL2 b;have a0:=a 0 _ _ rfl rfl;have c:=a 1 _ _ rfl rfl;have d:=a 2 _ _ rfl rfl;have a3:=a 3 _ _ rfl rfl;obtain⟨f,rfl,hf⟩:=oJ a0;obtain⟨s,rfl,n⟩:=oJ c;obtain⟨sz,zs,rfl,i⟩:=A1 (w6 cE d);obtain⟨l,xs,rfl,g⟩:=AS a3;refine use (aIQ i g hw) ?_;rintro v w' ⟨rfl,h⟩;exact⟨_,rfl,rfl,AV h⟩
def T0:Tryz.pinned.checked.prog.funcNamed Rows.vmRefsRow.func=some oN:=by kernel_rfl
def aHI:ui P nv Rows.vmRefsSpec Rows.vmRefsRow=true:=by kernel_rfl
def aHJ:uj P oN Rows.vmRefsRow=true:=by kernel_rfl
def aHK:uk P oN Rows.vmRefsRow=true:=by kernel_rfl
def aHL:um P oN Rows.vmRefsRow=true:=by kernel_rfl
def aHM:uo P oN Rows.vmRefsRow=true:=by kernel_rfl
def aHN:uq P nv Rows.vmRefsSpec Rows.vmRefsRow=true:=by kernel_rfl
def aHO:ur P nv Rows.vmRefsSpec Rows.vmRefsRow=true:=by kernel_rfl
def aHP:uu P Rows.vmRefsRow=true:=by kernel_rfl
def aHQ:uv P nv Rows.vmRefsSpec Rows.vmRefsRow=true:=by kernel_rfl
def aCO:Rows.VmRefsSaid:=
 OpenClaim.holds_of_wide oN nv rfl rfl rfl rfl rfl rfl rfl ⟨rfl,rfl,rfl,rfl,rfl⟩ rfl rfl rfl rfl rfl T0 GR
  (AR aHI aHJ aHK aHL aHM aHN aHO aHP aHQ)
  (kA cE) (by unfold Func.isWrapper;rw[bJ (by decide+kernel)];exact⟨rfl,rfl⟩)
  (λos started H enc _=>aAC os started H enc)
def aHR:Rows.vmRefsRow.wfByText (OpenSpec.ofChange Rows.vmRefsSpec)=true:=by kernel_rfl
def aDt:Tryz.pinned.checked.prog.mainIs=some (true, "6dae9ca1e3fae822e43264ec614d78dc4c2fe72aea56ab24750a95019e43a27c".toList):=by kernel_rfl
def aCP:false=Tryz.pinned.checked.prog.looks []:=by kernel_rfl
def aDs:false=Rows.vmRefsRow.goesBy Tryz.pinned.checked.prog:=by kernel_rfl
def aCQ:(nv.params.toList.all λu=> !P.wantsStandIn u)=true:=by kernel_rfl
def vmRefs_card:Rows.VmRefsCardSaid:=
 Claim7.holds_tied_plain_at .later [] [.data] true (true, "6dae9ca1e3fae822e43264ec614d78dc4c2fe72aea56ab24750a95019e43a27c") false
  aCO (λ_ h=>by cases h) aHR (λ_ h=>by cases h) vmRefs_row_tie rfl ⟨rfl,rfl⟩ aDt rfl
  (λf fn hf a=>by
   obtain rfl:f=oN:=cV (T0.symm.trans hf) |>.symm;obtain rfl:fn=nv:=(cV (GR.symm.trans a)).symm;refine⟨aCP,λj t b=>?_⟩;have hm:t∈nv.params.toList:=by simpa using lp b
   exact(show P.wantsStandIn t=false by simpa using fM.1 aCQ t hm))
  aDs
end Go.Proofs.YtafigbgagbolgaaGreatDoor
