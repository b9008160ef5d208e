/- Vm: A script's answers are eA of its operations, one by one; what is refused as an argument, or as none, changes nothing: the law answers true and lets its arguments be; for every input. -/
import Derived.Test.YtafigbgagbolgaaGreatDoorD16
import Derived.Test.YtafigbgagbolgaaGreatDoorProg
import Derived.Test.YtafigbgagbolgaaGreatDoorChecked
import Derived.ProofKit
import Derived.OpenVars
import Derived.LaidMore
import Derived.Lay
import Derived.OpenShut
import Derived.Stop.LaidErr
import Derived.Lib.LaidTab
import Derived.SevenTiedAt
import Derived.Test.YtafigbgagbolgaaGreatDoorRows
import Derived.Test.YtafigbgagbolgaaGreatDoorTie
import Derived.Test.YtafigbgagbolgaaGreatDoorCards
set_option linter.all false
set_option maxRecDepth 100000
open Go.IntKind(i64 u64)
open Go.Proofs.Tryz
namespace Go.Kc
open Go Go.Kt Go.Sp
def TS.all(T:TS):bS:=((List.range T.next.toNat).filter λi:Nat=>(T.pg i).isSome).map Int.ofNat
end Go.Kc
namespace Go.Mp
open Go Go.Vc
abbrev oO:bj6:=12
abbrev GW:bj6:=25
abbrev rj:bj6:=26
abbrev A9:bj6:=31
noncomputable abbrev nw:Func:=f12
def GX:P.funcs[oO]?=some nw:=func12
end Go.Mp
namespace Go.Mp
open Go Go.Vc Go.Proofs
variable{K:bj0}{w:bI}
variable(K w)
def xi(c:cm):=
 NN c λa=>qZ w a 10 λd=>qJ vA #[Pv d] w λe b=>K (Sv e) b
def T1(t:cm):=
 NN t λa=>qK w a 0 λb=>K (Iv ((b.n:Nat):Int)) w
variable{K w}
def GS(c)(h:xi K w c):=bM {} #[Pv c] K w func26 h
def awz(t)(h:T1 K w t):=bM (z8 [7]) #[Pv t] K w func31 h
end Go.Mp
namespace Go.Sp
open Go Go.Vc Go.RowKit Go.ChangeShapes
section
variable{P:cS}{W:bI}{t:bZ}{cs:bA bH}
def xg(P:cS)(t:bZ):bX (bA bZ):=
 match P.underlying t with
 |some (.struct fs)=>match Nat.beq (P.cellsOf t) fs.size&&(fs.toList.zipIdx.all λx=>Nat.beq x.1.offset x.2&&Nat.beq (P.cellsOf x.1.type) 1)with
  |true=>some (fs.toList.map (·.type))
  |false=>none
 |_=>none
def Rd.flat{ts:bA bZ}(h:Rd P W t cs)(a:xg P t=some ts):cs.length=ts.length/\∀(i:Nat) (u:bZ),ts[i]?=some u->∃v,cs[i]?=some v/\Rd P W u [v]:=by
 unfold xg at a;split at a
 ·next fs j=>
  split at a
  ·next b=>
   simp only[fT]at a;subst a;simp only[dF,fM]at b;obtain⟨h1,h2⟩:=h.struct j;have hl:cs.length=fs.size:=h1.trans (kz b.1);refine⟨by simpa using hl,λi u hu=>?_⟩;have c:i<fs.size:=by
    rcases hE i fs.size with h' | h';·exact h'
    ·simp[h']at hu
   have hx:=b.2 (fs[i],i) (by rw[bf0];simp[c]);have hr:=h2 i fs[i] (by simp[c]);have d:=kz hx.1;have e:=kz hx.2;simp only at d e;rw[d,e]at hr;have f:fs[i].type=u:=by simpa[c]using hu
   rw[f]at hr;have g:(cs.drop i).take 1= [cs[i]]:=by
    rw[kZ bu];rfl
   rw[g]at hr;exact⟨cs[i],du,hr⟩
  ·simp at a
 ·simp at a
end
section
variable{H:Type}{enc:bZ×bH->H}{P:cS}
end
end Go.Sp
namespace Go.Mp
open Go Go.Vc Go.Proofs
variable{K:bj0}{w:bI}
variable(K w)
def T2(bQ cg:Int)(bU l:Sl)(D E F G H:Int):=
 Al (.cells #[Iv D,Iv E,Iv F,Iv G,Iv H] 37) (λaN w2=>qF p6 #[] w2 λj J=>dO j (K aP2 J) (qF vw #[Iv bQ,Iv cg,Sv bU,Sv l] J λaP R=>cond aP (K (.bool j) R) (qJ tj #[Iv bQ,Iv cg,Sv bU,Sv l] R λt aO=>qR p5 #[Iv bQ,Iv cg,Sv bU] aO λf m=>cond (((t.n:Nat):Int) !=((l.n:Nat):Int)) (K aP2 m) (qO 0 m λB i19 h=>e7 i19 l.n (qW l i19 5 λa20=>zL h a20 λV W X Y Z=>zx la #[Pv f,.agg #[Iv V,Iv W,Iv X,Iv Y,Iv Z]] h λaa ab ad I=>zW I λk L=>qU [Iv aa,Iv ab,Sv ad] k L λM=>Dr (λi=>zI i k λae af ag=>qW t i19 3 λC=>zI i C λah ai aj=>qF GW #[.agg #[Iv ae,Iv af,Sv ag],.agg #[Iv ah,Iv ai,Sv aj]] i λak n=>dO ak (K aP2 n) ((B (i64.wrap (i19+1)) n))) M) (qR vx #[Pv f] h λc o=>cond c.isNone (K aP2 o) (qJ oB #[Pv f] o λal N=>qJ rj #[Pv c] N λam O=>qQ ti #[Pv c,Iv 0] O λan P=>qQ vy #[Pv c,Iv 0] P λao Q=>qR p8 #[Pv c] Q λap S=>qQ A9 #[Pv ap] S λaq p=>zL p aN λar au av aw ax=>zx la #[Pv f,.agg #[Iv ar,Iv au,Iv av,Iv aw,Iv ax]] p λay az aA T=>zW T λb U=>qU [Iv ay,Iv az,Sv aA] b U λa=>qh (λd=>qL a b 0 λaC=>cond (aC==1) (d true a) (qL a b 0 λaD=>cond (aD==2) (d true a) (qL a b 0 λaE=>cond (aE==14) (d true a) (qL a b 0 λaF=>cond (aF==15) (d true a) (qL a b 0 λaG=>cond (aG==4) (d true a) (qL a b 0 λaH=>cond (aH==3) (d true a) (qL a b 0 λaI=>d (aI==21) a))))))) λaB e=>cond aB (cond j (qL e b 1 λaJ=>cond (aJ==0) (qK e b 2 λaK=>cond (((aK.n:Nat):Int)==0) (qJ oB #[Pv f] e λaL q=>cond (((aL.n:Nat):Int)==((al.n:Nat):Int)) (qJ rj #[Pv c] q λaM r=>cond (((aM.n:Nat):Int)==((am.n:Nat):Int)) (qQ ti #[Pv c,Iv 0] r λx s=>cond (x==an) (qQ vy #[Pv c,Iv 0] s λy g=>cond (y==ao) (qR p8 #[Pv c] g λz u=>qQ A9 #[Pv z] u λA v=>K (.bool (A==aq)) v) (K aP2 g)) (K aP2 s)) (K aP2 r)) (K aP2 q)) (K aP2 e)) (K aP2 e)) (K aP2 e)) (K (.bool j) e))))))) w
def T3(g h:Int)(i:Sl)(j k:Int)(l:Sl):=
 Al (.cells #[Iv g,Iv h,Sv i] 33) (λc w2=>Al (.cells #[Iv j,Iv k,Sv l] 33) (λe a=>qg (λv=>qL a c 0 λy=>qL a e 0 λz=>cond (y !=z) (K aP2 a) (qL a c 1 λm=>qL a e 1 λn=>cond (m !=n) (K aP2 a) (qK a c 2 λo=>qK a e 2 λp=>cond (((o.n:Nat):Int) !=((p.n:Nat):Int)) (K aP2 a) (v a)))) λx=>qO 0 x λf i18 d=>qK d c 2 λq=>e7 i18 q.n (Dr (λb=>qK b c 2 λr=>qW r i18 1 λa22=>qD b a22 λs=>qK b e 2 λt=>qW t i18 1 λa25=>qD b a25 λu=>cond (s !=u) (K aP2 b) ((f (i64.wrap (i18+1)) b))) d) (K aP3 d)) w2) w
variable{K w}
def anM(bQ cg bU l a b c d e)(h:T2 K w bQ cg bU l a b c d e):=bM (z8 [43,45,46,49,50,52,70,73,76,89,93,98,103,108,113,118,124,129,130,135,137,142,144,150,156,163] [(14,[jQ 7],[5])] [(11,[(14,jZ)])] [(27,[(119,.bool)])]) #[Iv bQ,Iv cg,Sv bU,Sv l,.agg #[Iv a,Iv b,Iv c,Iv d,Iv e]] K w func12 h
def apu(a b c d e f)(h:T3 K w a b c d e f):=bM {(z8 [10,16,21,24,25,30,31,33,44] [] [(4,[(5,jZ)])] [(3,[])]:dU)with head:=λr=>(bif r==6 then 11 else 0)} #[.agg #[Iv a,Iv b,Sv c],.agg #[Iv d,Iv e,Sv f]] K w func25 h
end Go.Mp
namespace Go.Mp
open Go Go.Vc Go.Sp Go.Proofs Go.Kc
variable{E:Env}{L:cr}{w:bI}{A:At}{S:Cs}
def A8{T:TS}:T.all.Pairwise (· < ·):=by
 unfold TS.all;rw[kk];exact(G7.filter _).imp (λ{a b} h=>by show(a:Int)<(b:Int);omega)
def xj{T:TS}(b:hJ T){x:Int}:x∈T.all↔(T.pg x).isSome=true:=by
 unfold TS.all;rw[fD];constructor
 ·rintro⟨i,a,rfl⟩;rw[gp]at a;exact a.2
 ·intro h;obtain⟨p,hp⟩:=jf.1 h;have h1:=b.ids _ _ hp;refine⟨x.toNat,gp.2 ⟨gq.2 bu,?_⟩,by show((x.toNat:Nat):Int)=x;omega⟩;rw[show((x.toNat:Nat):Int)=x by omega];exact h
def GU(a:Kc.Inv S):Tp.eI S.bt 16777216:=λk hk=>by
 obtain⟨p,hp⟩:=jf.1 hk;have:=a.cI.ids _ _ hp;have:=a.ids;omega
def GV(b:Kc.Inv S)(h:Sep E (ch A S++L) w):Calls P rj #[Pb A.c] w
  (cC λv w'=>∃s:Sl,v=Sv s/\s.n=S.bt.all.length/\Sep E (ch A S++bw s 1 (bC S.bt.all)::L) w'):=by
 apply GS;unfold xi qJ qZ;refine⟨_,rfl,ld h 0 rfl rfl rfl (use (Tp.Ft (GU b) bN (h.fr 11 rfl)) ?_)⟩;rintro _ c ⟨s,l,rfl,a,hl,h1⟩;have e:l=S.bt.all:=Gp.wL (r:=(· < · :Int->Int->Prop)) (λx=>HF x) (λx y z=>Int.lt_trans) hl.c1 A8 (λk=>by rw[hl.mem,xj b.cI]);subst e;have h1:=h1.hC (q:=11) rfl;exact⟨s,rfl,s,rfl,a,Sep.eK (Q:=ch A S) h1⟩
end Go.Mp
namespace Go.Mp
open Go Go.Vc Go.Sp Go.Proofs Go.Kc Go.Kw Go.Kt
variable{E:Env}{L:cr}{w W:bI}{A:At}{v:Nat}{V:Vs}
def og(V:Vs){os:bA db}{k:Nat}{o:db}(hk:os[k]?=some o):(cz V (os.take (k+1))).1=((cz V (os.take k)).1.act o).1:=by
 rw[take_succ hk,pC]
end Go.Mp
namespace Go.Proofs.YtafigbgagbolgaaGreatDoor
open Go Go.Vc Go.Sp Go.Mp Go.RowKit Go.ChangeShapes
def GN{α:Type}{a:cf α}(h:a.size=5):∃b c d e f,a= #[b,c,d,e,f]:=by
 obtain⟨l⟩:=a
 match l,h with
 |[b,c,d,e,f],_=>exact⟨b,c,d,e,f,rfl⟩
end Go.Proofs.YtafigbgagbolgaaGreatDoor
namespace Go.Mp
open Go Go.Vc Go.Sp Go.Proofs Go.Kc Go.Kw Go.Kt
variable{E:Env}{L:cr}{w W:bI}{A:At}{v:Nat}{V:Vs}
def cQ.cc(h:cQ E A v V L w):∃(B:At) (M:cr),B.c=A.c/\B.t=A.t/\Sep E (ch B V.core++M) w/\∀(F:cr) w',Sep E (ch B V.core++(F++M)) w'->cQ E A v V (F++L) w':=by
 obtain⟨gs,us,r,ps,h1,h2,a⟩:=h;refine⟨{A with gs:=gs,us:=us},(bD v [Pb A.c,Sv r]::bw r 2 (bO gy ps)::(ps.map gR++L)),rfl,rfl,a,λF w' b=>⟨gs,us,r,ps,h1,h2,?_⟩⟩;refine b.perm (oR _ ?_);have e:(bD v [Pb A.c,Sv r]::bw r 2 (bO gy ps)::(ps.map gR++L))=(bD v [Pb A.c,Sv r]::bw r 2 (bO gy ps)::ps.map gR)++L:=rfl;rw[e];exact mr _ _ _
def cQ.memory(g:Int)(h:cQ E A v V L w){K:Ending->bi9}(k:∀w',cQ E A v V L w'->K (.returned (Iv (V.core.memory g))) w'):Calls P ti #[Pb A.c,Iv g] w K:=by
 obtain⟨B,M,a,_,h1,h2⟩:=h.cc;rw[<- a];refine use (Fx g h1) ?_;rintro _ w' ⟨rfl,b⟩;exact k w' (h2 [] w' b)
def cQ.swap(g:Int)(h:cQ E A v V L w){K:Ending->bi9}(k:∀w',cQ E A v V L w'->K (.returned (Iv (V.core.swap g))) w'):Calls P vy #[Pb A.c,Iv g] w K:=by
 obtain⟨B,M,a,_,h1,h2⟩:=h.cc;rw[<- a];refine use (RJ g h1) ?_;rintro _ w' ⟨rfl,b⟩;exact k w' (h2 [] w' b)
def cQ.bt(h:cQ E A v V L w)(m:Vok V){K:Ending->bi9}(k:∀(s:Sl) w',s.n=V.core.bt.all.length->cQ E A v V (bw s 1 (bC V.core.bt.all)::L) w'->K (.returned (Sv s)) w'):Calls P rj #[Pb A.c] w K:=by
 obtain⟨B,M,a,_,h1,h2⟩:=h.cc;rw[<- a];refine use (GV m.inv h1) ?_;rintro _ w' ⟨s,rfl,c,b⟩;exact k s w' c (h2 [_] w' b)
end Go.Mp
namespace Go.Kw
open Go Go.Kc Go.Kt Go.Vc
variable{V:Vs}
def xk:∀(os:bA db) {V:Vs},dS V->V.core.bt.next+66*os.length+66<16777216->dS (cz V os).1
 |[],_,m,_=>m
 |o::os,V,m,hn=>by
  have eI:=m.eI;rw[hN]at hn;exact xk os (sw m bu o).ri (by have:=Kw.fc m bu o;omega)
end Go.Kw
namespace Go.Proofs.YtafigbgagbolgaaGreatDoor
open Go Go.Vc Go.Sp Go.Mp Go.RowKit Go.ChangeShapes
def GO{W:bI}{cs:bA bH}(h:Rd P W p4 cs):∃o:Kw.db,cs=dh o:=by
 obtain⟨hl,l⟩:=h.flat (ts:=[pd,gu,gu,gu,gu]) cE;have key:∀(i:Nat) (u:bZ),([pd,gu,gu,gu,gu]:bA bZ)[i]?=some u->P.underlying u=some (.int .i64)->∃n,cs[i]?=some (Iv n):=λi u j hu=>by
  obtain⟨v,h1,h2⟩:=l i u j;obtain⟨n,rfl,_⟩:=h2.jy (k:=.i64) hu;exact⟨n,h1⟩
 obtain⟨k,hk⟩:=key 0 pd rfl cE;obtain⟨a,e⟩:=key 1 gu rfl cE;obtain⟨b,hb⟩:=key 2 gu rfl cE;obtain⟨c,f⟩:=key 3 gu rfl cE;obtain⟨d,g⟩:=key 4 gu rfl cE;refine⟨⟨k,a,b,c,d⟩,?_⟩
 ·match cs,hl,hk,e,hb,f,g with
  |[m,p,q,r,s],_,hk,e,hb,f,g=>
   simp only[k1,G3,fT]at hk e hb f g;subst hk e hb f g;rfl
def GP{W:bI}{base:Nat}{v:bH}(a:Rd P W p4 v.cells.toList/\Value.okWide P W .any base p4 v):∃o:Kw.db,v=.agg (dh o).toArray:=by
 obtain⟨o,ho⟩:=GO a.1;refine⟨o,?_⟩;cases v with
 |agg cs=>
  have:cs.toList=dh o:=ho;show Value.agg cs=Value.agg (dh o).toArray;rw[<- this]
 |_=>exact absurd (eO List.length ho) (by show ¬ (1:Nat)=5;decide)
end Go.Proofs.YtafigbgagbolgaaGreatDoor
namespace Go.Kw
open Go Go.Kc Go.Kt
def aID{V:Vs}(h:V.procs.length<=64)(t:Int):(dead V t).length<=64:=by
 have e:V.pr.length=V.procs.length:=dY _;unfold dead l7;dsimp only;split;·exact dX _
 ·split;·show 1<=64;decide
  ·refine lv (wU _ _ _) ?_;omega
def T4{f:Cs->Int->Cs×Int×Int×Int}{pid:Int}:∀(n:Nat) (V:Vs) (o:cG),V.procs.length<=64->(fH f pid n V o).2.1.bE.length<=o.bE.length+n*64
 |0,V,o,_=>by rw[nA];exact ec _
 |n+1,V,o,h=>by
  rw[nq];dsimp only;generalize f V.core (V.group pid)=r;have a:=aID (V:={V with core:=r.1}) h r.2.2.1;rw[xF];split;·dsimp only;omega
  split;·dsimp only;omega
  generalize dead {V with core:=r.1} r.2.2.1=d at a;split;·dsimp only;rw[df];omega
  split;·dsimp only;rw[df];omega
  have h2:(Vs.dg {V with core:=r.1} d).procs.length<=64:=by rw[(sk d {V with core:=r.1}).2.1.len];exact h
  have:=T4 (f:=f) (pid:=pid) n (Vs.dg {V with core:=r.1} d) {o with bE:=o.bE++d} h2;dsimp only at this;rw[df]at this;omega
def xm{f:Cs->Int->Cs×Int×Int×Int}{pid:Int}{V:Vs}(h:V.procs.length<=64):(V.dW f pid .zero).2.1.bE.length<=10000:=by
 have:=T4 (f:=f) (pid:=pid) (V.procs.length+1) V .zero h;have e:cG.zero.bE.length=0:=rfl;unfold Vs.dW;have:(V.procs.length+1)*64<=65*64:=k2 _ bu;omega
def T5{V:Vs}(h:V.procs.length<=64)(pid p:Int)(s:Sp)(x:Rg):(V.there pid p s x .zero).2.1.bE.length<=10000:=by
 unfold Vs.there Vs.bY;split;·exact xm h
 ·dsimp only;split<;>exact xm h
def aKJ{V:Vs}(h:V.procs.length<=64)(pid p:Int)(s:Sp):(V.own pid p s .zero).2.1.bE.length<=10000:=by
 unfold Vs.own Vs.bY;split
 ·dsimp only;split;·exact xm h
  ·split<;>exact xm h
 ·dsimp only;split<;>exact xm h
def aIV{V:Vs}(h:V.procs.length<=64)(pid:Int)(s:Sp)(b:Int):(V.load pid s b).2.bE.length<=10000:=by
 unfold Vs.load;dsimp only;split;·exact dX _
 split;·exact dX _
 split;·exact dX _
 split<;>exact T5 h _ _ _ _
def aHk{V:Vs}(h:V.procs.length<=64)(pid:Int)(s:Sp)(b c:Int):(V.store pid s b c).2.bE.length<=10000:=by
 unfold Vs.store;dsimp only;split;·exact dX _
 split;·exact dX _
 split;·exact dX _
 split;·exact dX _
 next x _ _ _=>
 have a:(if x.kind=2 then V.there pid (b/16) s x .zero else V.own pid (b/16) s .zero).2.1.bE.length<=10000:=by
  split;·exact T5 h _ _ _ _
  ·exact aKJ h _ _ _
 generalize (if x.kind=2 then V.there pid (b/16) s x .zero else V.own pid (b/16) s .zero)=r at a;split<;>exact a
def aJW{V:Vs}(h:V.procs.length<=64)(o:db):(V.act o).2.bE.length<=10000:=by
 unfold Vs.act;dsimp only;repeat' split
 all_goals first|exact dX _|skip
 unfold Vs.call;dsimp only;split;·split<;>exact dX _
 split;·split<;>exact dX _
 split
 ·split;·split<;>exact dX _
  ·exact dX _
 split;·split<;>exact dX _
 split;·exact aIV h _ _ _
 split;·exact aHk h _ _ _ _
 split;·split<;>exact dX _
 exact dX _
end Go.Kw
namespace Go.Mp
open Go Go.Vc Go.Sp Go.Proofs Go.Kc Go.Kw Go.Kt
def aEV{V:Vs}(m:Vok V)(o:db):(V.act o).2.bE.length<=10000:=aJW m.eI o
variable{E:Env}{L:cr}{w W:bI}{A:At}{v:Nat}{V:Vs}
def aLu{e n:Int}{s1 s2:Sl}{ks:bS}(p q2:Nat)(h1:L[p]?=some (bw s1 1 (bC ks)))(h2:L[q2]?=some (bw s2 1 (bC ks)))(r:s1.n=ks.length)(s:s2.n=ks.length)(hb:ks.length<1000000)(h:Sep E L w):
  Calls P GW #[.agg #[Iv e,Iv n,Sv s1],.agg #[Iv e,Iv n,Sv s2]] w (cZ E (.bool true) L):=by
 apply apu;unfold T3 qD qK qL qO qW qg;refine Al.i h (λl C t=>Al.i t (λp2 w2 d=>?_));have g:∀ {w':bI},Sep E (bD p2 [Iv e,Iv n,Sv s2]::bD l [Iv e,Iv n,Sv s1]::L) w'->∀(j:Nat) x,[Value.int .i64 e,Iv n,Sv s1][j]?=some x->w'.cell? (Addr.add ⟨l,0,none⟩ j)=some x:=λc j x hx=>by rw[cj,c.cellAt 1 rfl,fz];exact hx
 have m:∀ {w':bI},Sep E (bD p2 [Iv e,Iv n,Sv s2]::bD l [Iv e,Iv n,Sv s1]::L) w'->∀(j:Nat) x,[Value.int .i64 e,Iv n,Sv s2][j]?=some x->w'.cell? (Addr.add ⟨p2,0,none⟩ j)=some x:=λc j x hx=>by rw[cj,c.cellAt 0 rfl,fz];exact hx
 refine⟨λw'=>Sep E (bD p2 [Iv e,Iv n,Sv s2]::bD l [Iv e,Iv n,Sv s1]::L) w',⟨_,g d 0 _ rfl,_,m d 0 _ rfl,g0 (λc=>absurd rfl c) (λ_=>⟨_,g d 1 _ rfl,_,m d 1 _ rfl,g0 (λc=>absurd rfl c) (λ_=>⟨s1,g d 2 _ rfl,s2,m d 2 _ rfl,g0 (λc=>absurd (by rw[r,s]) c) (λ_=>d)⟩)⟩)⟩,?_⟩;intro _ D u;refine⟨λi w'=>∃k:Nat,i=k/\k<=ks.length/\Sep E (bD p2 [Iv e,Iv n,Sv s2]::bD l [Iv e,Iv n,Sv s1]::L) w',λi _=>(ks.length-i).toNat,⟨0,rfl,dX _,u⟩,?_⟩;rintro _ _ F ⟨k,rfl,hk,o⟩;refine⟨s1,g o 2 _ rfl,cU (λA=>?_) (λz=>⟨rfl,o.tail.tail⟩)⟩;obtain⟨x,hx⟩:∃x,ks[k]?=some x:=⟨_,du⟩
 refine Dr.i o (λG f=>⟨s1,g f 2 _ rfl,?_⟩);have B:ks.getD k 0=x:=by rw[dC,hx];rfl
 refine nn (p+2) f (by simpa using h1) r bu bu (λa y=>⟨_,y (p+2) f (by simpa using h1),s2,m f 2 _ rfl,?_⟩);refine nn (q2+2) f (by simpa using h2) s bu bu (λb q=>⟨_,q (q2+2) f (by simpa using h2),g0 (λc=>absurd rfl c) (λ_=>?_)⟩);rw[c4];refine⟨⟨k+1,rfl,bu,f⟩,?_⟩;show(((ks.length:Nat):Int)-((k+1:Nat):Int)).toNat<(((ks.length:Nat):Int)-(k:Int)).toNat;omega
end Go.Mp
namespace Go.Mp
open Go Go.Vc Go.Sp Go.Proofs Go.Kc Go.Kw Go.Kt
variable{E:Env}{L:cr}{w W:bI}{A:At}{v:Nat}{V:Vs}
def jc.GY{l:Sl}{os:bA db}(b:jc W l os):jb E (cO W.heap::L) l os:=⟨b.1,λw h i o ho=>by
 obtain⟨a,hp,c⟩:=b.2 i o ho;exact⟨a,hp,λj u hu=>sm (q:=0) h rfl (c j u hu)⟩⟩
def T6{fr sl:Int}{sz ol:Sl}{zs:bS}{os:bA db}{o:cf Obj}(H:Ints E (cO o::L) sz zs)(q:sz.n<=sz.c)(t:jb E (cO o::L) ol os)(hl:os.length<=40)(h:Sep E (cO o::L) w):
  Calls P tj #[Iv fr,Iv sl,Sv sz,Sv ol] w (cC λx w'=>∃s:Sl,x=Sv s/\Sep E (cO o::dd s (cz (Vs.new fr sl zs) os).2::L) w'):=by
 have N:=t.1;apply z6;unfold vW qR qU qW qf zL zx;refine pD (sz:=sz) (l:=zs) H q h (λA v J ho h1=>⟨_,rfl,?_⟩);have h1:cQ E A v (Vs.new fr sl zs) (dd ⟨none,0,0⟩ []::L) J:=by
  obtain⟨gs,us,r,ps,d,e,f⟩:=h1;exact⟨gs,us,r,ps,d,e,Vm.eK (Sep.ex.2 ⟨[],Sep.cL.2 ⟨⟨rfl,rfl,(λp hp=>by cases hp)⟩,Sep.cA.2 (bw.none_ (m:=3) f)⟩⟩)⟩
 refine⟨λs i w'=>∃k:Nat,i=k/\k<=os.length/\Vok (cz (Vs.new fr sl zs) (os.take k)).1/\(cz (Vs.new fr sl zs) (os.take k)).1.core.bt.next<=66*k/\cQ E A v (cz (Vs.new fr sl zs) (os.take k)).1 (dd s (cz (Vs.new fr sl zs) (os.take k)).2::L) w',λ_ i _=>(os.length-i).toNat,
  ⟨0,rfl,dX _,Vok.new fr sl zs,by show(0:Int)<=_;omega,h1⟩,?_⟩
 rintro _ s _ w2 ⟨k,rfl,hk,mk,Q,h2⟩;refine cU (λO=>?_) (λM=>?_)
 ·obtain⟨op,j⟩:∃op,os[k]?=some op:=⟨_,du⟩
  have u:=h2.tail.drop;rw[ho]at u;obtain⟨a,hp,g⟩:=t.2 w2 u k op j;refine⟨a,hp,⟨bu,bu⟩,?_⟩;rw[dt];refine⟨_,g 0 _ rfl,_,g 1 _ rfl,_,g 2 _ rfl,_,g 3 _ rfl,_,g 4 _ rfl,?_⟩;obtain⟨gs,us,r,ps,d,e,f⟩:=h2;refine Al.i f (λp R n=>ey (vs:=dh op) _ n rfl (λK c=>?_));refine⟨_,c.cell 0,_,c.cell 1,_,c.cell 2,_,c.cell 3,_,c.cell 4,?_⟩;have B:cQ E A v (cz (Vs.new fr sl zs) (os.take k)).1 (dd s (cz (Vs.new fr sl zs) (os.take k)).2::L) K:=⟨gs,us,r,ps,d,e,c.tail⟩
  refine B.AP mk bu op (λz S y C I n6=>⟨_,_,z,rfl,?_⟩);have b:=pC op (os.take k) (Vs.new fr sl zs);rw[<- take_succ j]at b;obtain⟨gs,us,r,ps,d,e,f⟩:=C;have D:=Vm.e4 [bw z 1 (bC ((cz (Vs.new fr sl zs) (os.take k)).1.act op).2.bE),dd s (cz (Vs.new fr sl zs) (os.take k)).2] f;refine Al.i D (λp2 T F=>dd.push (a:=((cz (Vs.new fr sl zs) (os.take k)).1.act op).2) y (by rw[oe,gT];omega) F (λs' U G=>?_));rw[c4];refine⟨⟨k+1,rfl,bu,by rw[b];exact I,by rw[b];dsimp only;omega,?_⟩,?_⟩;·rw[b];exact⟨gs,us,r,ps,d,e,Vm.eK G⟩
  ·show(((os.length:Nat):Int)-((k+1:Nat):Int)).toNat<(((os.length:Nat):Int)-(k:Int)).toNat;omega
 ·have:k=os.length:=by omega
  subst this;rw[fB]at h2;refine⟨s,rfl,?_⟩;have n:=h2.drop;rwa[ho]at n
def aIz{o:cf Obj}(h:Sep E (cO o::L) w):Calls P p6 #[] w (cZ E (.bool true) (cO o::L)):=by
 apply AJ;unfold wS qJ qL qR qU qW qg qy zL zW zw zx;refine Al.i h (λp V h1=>?_);have h1:Sep E (cO o::bD p (bO dh ee)::L) V:=h1.swap;refine use (T6 (fr:=4) (sl:=4) (sz:=⟨none,0,0⟩) (zs:=[]) (ol:=⟨some ⟨p,0,none⟩,5,5⟩) (os:=ee) ⟨rfl,λw _ i x hx=>by cases hx⟩ (ec _) (jb.h0 (q:=1) (c:=5) (os:=ee) rfl) bN h1) ?_;rintro _ w2 ⟨s,rfl,h2⟩;have hlen:s.n=5:=(dd.len 1 h2 rfl).trans (oe ee _);obtain⟨J,C,T,_⟩:=ns (k:=2) rfl;obtain⟨a3,D,_,R⟩:=ns (k:=3) rfl;obtain⟨a4,r,U,S⟩:=ns (k:=4) rfl;generalize (cz (Vs.new 4 4 []) ee).2=B at h2 C D r;refine⟨s,rfl,pD (fr:=4) (sl:=4) (sz:=⟨none,0,0⟩) (l:=[]) ⟨rfl,λw _ i x hx=>by cases hx⟩ (ec _) h2 (λA v Y ho K=>⟨_,rfl,λw'=>cQ E A v (Vs.new 4 4 []) (dd s B::bD p (bO dh ee)::L) w',bF rfl (bF (by rw[hlen];rfl) K),?_⟩)⟩;intro _ W G;refine⟨⟨p,0,none⟩,rfl,⟨bN,bN⟩,?_⟩;have hb:∀j x,(bO dh ee)[j]?=some x->W.cell? (Addr.add ⟨p,0,none⟩ j)=some x:=λj x hx=>G.cell (k:=1) rfl hx;refine⟨_,hb 0 _ rfl,_,hb 1 _ rfl,_,hb 2 _ rfl,_,hb 3 _ rfl,_,hb 4 _ rfl,?_⟩;have u:(Vs.new 4 4 []).act ⟨3,0,0,0,0⟩=({Vs.new 4 4 []with procs:=[(0,some Kw.Sp.new)]},⟨0,0,[]⟩):=by
  rw[AZ (AY 4 4 [])];rfl
 refine cQ.hV (o:=⟨3,0,0,0,0⟩) G (Vok.new 4 4 []) (by rw[oK];decide) (λX q Z m t z n5=>?_);rw[u]at t z n5 m;dsimp only at t z n5 m;refine t.procs z (λpl I n e=>⟨pl,rfl,?_⟩);have g:=e.right;have d:∀(i:Int) (k:Nat) (a:cG) {F:Addr->Prop},i=k->B[k]?=some a->(∀a0:Addr,I.cell? (a0.add 0)=some (Iv a.err)->I.cell? (a0.add 1)=some (Iv a.n)->F a0)->cF s.p s.n i 3 F:=λi k a F O M f=>dd.el 3 g rfl O M f;refine d 2 2 J rfl C (λx hx _=>⟨_,hx,bT (by rw[T];rfl) (d 3 3 a3 rfl D (λx _ hx=>⟨_,hx,bT (by rw[R];rfl) (d 4 4 a4 rfl r (λx _ hx=>⟨_,hx,bT (by rw[S];rfl) (d 4 4 a4 rfl r (λx hx _=>⟨_,hx,bT (by rw[U];rfl) ?_⟩))⟩))⟩))⟩);refine⟨_,e.cell (k:=1) (j:=0) rfl rfl,bT rfl (bT (by rw[n];rfl) ?_)⟩;refine jL Pr.kv 0 g rfl n (show(0:Int)=((0:Nat):Int)from rfl) (show _=some (⟨0,0,true⟩:Pr)from rfl) (λb _ N=>⟨_,by rw[cj];exact N 2 _ rfl,bT rfl ?_⟩);refine e.space (pid:=0) (λx hx=>⟨x,rfl,bT (by rw[hx];rfl) (e.space (pid:=1) (λy Q=>⟨y,rfl,bT (by rw[Q];rfl) (e.core ⟨_,rfl,rfl,?_⟩)⟩))⟩);have H:=e.drop;rw[ho]at H;exact H.ro 6 [0] rfl
def cQ.same{e n:Int}{s1 s2:Sl}{ks:bS}(a q2:Nat)(h:cQ E A v V L w)(h1:L[a]?=some (bw s1 1 (bC ks)))(h2:L[q2]?=some (bw s2 1 (bC ks)))(g:s1.n=ks.length)(i:s2.n=ks.length)(hb:ks.length<1000000){K:Ending->bi9}(k:∀w',cQ E A v V L w'->K (.returned (.bool true)) w'):
  Calls P GW #[.agg #[Iv e,Iv n,Sv s1],.agg #[Iv e,Iv n,Sv s2]] w K:=by
 obtain⟨gs,us,r,ps,b,c,d⟩:=h;refine use (aLu (18+ps.length+a) (18+ps.length+q2) (by rw[j8];exact h1) (by rw[j8];exact h2) g i hb d) ?_;rintro _ w' ⟨rfl,f⟩;exact k w' ⟨gs,us,r,ps,b,c,f⟩
def cQ.mo(h:cQ E A v V L w){K:Ending->bi9}(k:K (.returned (Iv ((V.core.tree.length:Nat):Int))) w):Calls P A9 #[Pb A.t] w K:=by
 obtain⟨B,M,_,a,h1,_⟩:=h.cc;rw[<- a];have b:Calls P A9 #[Pb B.t] w (cC λx w'=>x=Iv ((V.core.tree.length:Nat):Int)/\w'=w):=by
  apply awz;unfold T1 qK;obtain⟨s,hn,h2⟩:=eb.get (h1.fr 1 rfl);exact⟨_,rfl,s,h2.cell 0,by rw[hn],rfl⟩
 refine use b ?_;rintro _ w' ⟨rfl,rfl⟩;exact k
def cQ.tree(h:cQ E A v V L w){K:Ending->bi9}(k:∀w',cQ E A v V L w'->K (.returned (Pb A.t)) w'):Calls P p8 #[Pb A.c] w K:=by
 obtain⟨B,M,a,b,h1,h2⟩:=h.cc;rw[<- a];refine use (wN h1) ?_;rintro _ w' ⟨rfl,c⟩;rw[b];exact k w' (h2 [] w' c)
def aIR{bQ cg:Int}{sz l:Sl}{zs:bS}{os:bA db}{o:db}(Q:ss W sz zs)(af:jc W l os)(h:Sep E (cO W.heap::L) w):
  Calls P oO #[Iv bQ,Iv cg,Sv sz,Sv l,.agg (dh o).toArray] w (cZ E (.bool true) (cO W.heap::L)):=by
 apply anM;unfold T2 qF qJ qK qL qO qQ qR qU qW qh zI zL zW zx;refine Al.i h (λD w0 ab=>?_);have ab:Sep E (cO W.heap::bD D (dh o)::L) w0:=ab.swap;refine use (aIz ab) ?_;rintro _ aX ⟨rfl,h1⟩;have dn:∀ {w'},Sep E (cO W.heap::bD D (dh o)::L) w'->Sep E (cO W.heap::L) w':=λC=>C.swap.tail;refine⟨_,rfl,bF rfl (use (A0 bQ cg sz l aX) ?_)⟩;rintro _ _ ⟨rfl,rfl⟩;refine⟨_,rfl,cy (λ_=>⟨rfl,dn h1⟩) (λay=>?_)⟩;obtain⟨_,_,_,hl⟩:=A2 ay;have ax:=af.1;refine use (T6 (Q.ints (q:=0) rfl) Q.2.1 af.GY bu h1) ?_;rintro _ w2 ⟨G,rfl,h2⟩;have T:=oe os (Vs.new bQ cg zs);refine⟨G,rfl,pD (sz:=sz) (l:=zs) (Q.ints (q:=0) rfl) Q.2.1 h2 (λA v aY ho K=>⟨_,rfl,?_⟩)⟩;have aa:G.n=os.length:=(dd.len 0 K.right rfl).trans T;refine g0 (λC=>absurd (by rw[aa,ax]) C) (λ_=>?_);obtain⟨al,aN,aW,aL,aP,aQ,aR⟩:=K;obtain⟨z,aD⟩:=Sep.ex.1 (Vm.out aR);obtain⟨⟨aC,_,aG⟩,aE⟩:=Sep.cL.1 aD;have aF:=Sep.cA.1 aE;have K:cQ E A v (Vs.new bQ cg zs) ((bw G 3 (bO nr z)::z.map λp=>bw p.2 1 (bC p.1.bE))++(bD D (dh o)::L)) aY:=⟨al,aN,aW,aL,aP,aQ,Vm.hM _ aF⟩
 have aH:z.length=os.length:=by rw[<- T,<- aC,dY]
 generalize ar:bD D (dh o)::L=X at K;have aq:∀k,k<os.length->∃y:cG×Sl,z[k]?=some y/\(cz (Vs.new bQ cg zs) os).2[k]?=some y.1/\y.2.n=y.1.bE.length:=λk hk=>by
  obtain⟨y,J⟩:∃y,z[k]?=some y:=⟨_,du⟩
  exact⟨y,J,by rw[<- aC,ez,J];rfl,aG y (eG J)⟩
 have ag:∀k (x:db),os[k]?=some x->(cz (Vs.new bQ cg zs) os).2[k]?=some ((cz (Vs.new bQ cg zs) (os.take k)).1.act x).2:=λk x hx=>by
  have hk:=(c2.1 hx).1;have e:os=os.take (k+1)++os.drop (k+1):=(fP _ _).symm;have app:∀(a b:bA db) (V:Vs),(cz V (a++b)).2=(cz V a).2++(cz (cz V a).1 b).2:=λa=>by
   induction a with
   |nil=>intro b V;rfl
   |cons y a aU=>intro b V;show _::(cz _ (a++b)).2=_;rw[aU];rfl
  have s:(cz (Vs.new bQ cg zs) (os.take k)).2.length=k:=by rw[oe,gT];omega
  conv=>lhs;rw[e]
  rw[app,take_succ hx,pC,dp,fL bu,s,iE];rfl
 refine⟨λi w'=>∃k:Nat,i=k/\k<=os.length/\Vok (cz (Vs.new bQ cg zs) (os.take k)).1/\(cz (Vs.new bQ cg zs) (os.take k)).1.core.bt.next<=66*k/\cQ E A v (cz (Vs.new bQ cg zs) (os.take k)).1 ((bw G 3 (bO nr z)::z.map λp=>bw p.2 1 (bC p.1.bE))++X) w',λi _=>(os.length-i).toNat,
  ⟨0,rfl,dX _,Vok.new bQ cg zs,by show(0:Int)<=_;omega,K⟩,?_⟩
 rintro _ _ be ⟨k,rfl,hk,mk,aJ,g⟩;refine cU (λa5=>?_) (λa4=>?_)
 ·obtain⟨x,hx⟩:∃x,os[k]?=some x:=⟨_,du⟩
  refine g.op af ho hx (λa O=>⟨_,O 0 _ rfl g,_,O 1 _ rfl g,_,O 2 _ rfl g,_,O 3 _ rfl g,_,O 4 _ rfl g,?_⟩);have a6:=aEV mk x;refine g.hV (o:=x) mk bu (λm p aZ s ad aV n5=>ad.dr (λaO M=>?_));obtain⟨y,J,t,aB⟩:=aq k bu;rw[ag k x hx]at t;have t:=cV t;have f:∀(j:Nat) c,(gk ((cz (Vs.new bQ cg zs) (os.take k)).1.act x).2 m)[j]?=some c->aO.cell? (Addr.add ⟨p,0,none⟩ j)=some c:=λj c B=>M.cell (k:=0) rfl B;refine⟨_,f 0 _ rfl,_,f 1 _ rfl,m,f 2 _ rfl,?_⟩;refine jL w4 2 M.right rfl (by rw[aa,aH]) (show(k:Int)=((k:Nat):Int)from rfl) J (λb _ B=>⟨_,by rw[cj];exact B 0 _ rfl,_,by rw[cj];exact B 1 _ rfl,y.2,by rw[cj];exact B 2 _ rfl,?_⟩);rw[<- t];have ai:(bD p (gk ((cz (Vs.new bQ cg zs) (os.take k)).1.act x).2 m)::bw m 1 (bC ((cz (Vs.new bQ cg zs) (os.take k)).1.act x).2.bE)::((bw G 3 (bO nr z)::z.map λp=>bw p.2 1 (bC p.1.bE))++X))[3+k]?=some (bw y.2 1 (bC ((cz (Vs.new bQ cg zs) (os.take k)).1.act x).2.bE)):=by
   rw[show 3+k=k+3 by omega];show((z.map λp=>bw p.2 1 (bC p.1.bE))++X)[k]?=_;rw[eQ (by rw[dY];omega),ez,J,t];rfl
  refine M.same 1 (3+k) rfl ai s (by rw[aB,t]) bu (λa0 I=>⟨_,rfl,bF rfl ?_⟩);rw[c4];refine⟨⟨k+1,rfl,bu,by rw[og _ hx];exact aV,by rw[og _ hx];omega,by rw[og _ hx];exact I.tail.tail⟩,?_⟩;show(((os.length:Nat):Int)-((k+1:Nat):Int)).toNat<(((os.length:Nat):Int)-(k:Int)).toNat;omega
 ·have aw:k=os.length:=by omega
  subst aw;rw[fB]at g mk aJ;have ak:=xk os (dS.new bQ cg zs) (by rw[oK];omega);generalize (cz (Vs.new bQ cg zs) os).1=U at g mk aJ ak;have eI:=ak.eI;generalize au:(bw G 3 (bO nr z)::z.map λp=>bw p.2 1 (bC p.1.bE))++X=Y at g;have fin:∀ {V':Vs} {F:cr} {w':bI},cQ E A v V' (F++Y) w'->Sep E (cO W.heap::L) w':=λ{V' F w'} C=>by
   have I:=C.drop;rw[ho,<- au,<- ar]at I;have ae:Sep E ([cO W.heap]++((F++((bw G 3 (bO nr z)::z.map λp=>bw p.2 1 (bC p.1.bE))++[bD D (dh o)]))++L)) w':=by
    have e:F++((bw G 3 (bO nr z)::z.map λp=>bw p.2 1 (bC p.1.bE))++(bD D (dh o)::L))=(F++((bw G 3 (bO nr z)::z.map λp=>bw p.2 1 (bC p.1.bE))++[bD D (dh o)]))++L:=by simp
    rw[e]at I;exact I
   exact(ae.perm (mr _ _ _)).right
  have N:∀ {F:cr} {V':Vs} {w':bI},cQ E A v V' (F++Y) w'->∀(j:Nat) c,(dh o)[j]?=some c->w'.cell? (Addr.add ⟨D,0,none⟩ j)=some c:=λ{F V' w'} C j c B=>by
   have aT:(F++Y)[F.length+(1+z.length)]?=some (bD D (dh o)):=by
    rw[fL bu,sB,<- au,fL (by simp;omega),<- ar];simp;rw[show 1+z.length-(z.length+1)=0 by omega];rfl
   exact C.cell aT B
  refine g.core ⟨_,rfl,bF rfl (g.procs mk (λpl aZ az ad=>⟨pl,rfl,ad.bt mk (λR aO aA M=>⟨R,rfl,M.memory 0 (λa0 I=>⟨_,rfl,I.swap 0 (λbf ae=>⟨_,rfl,ae.tree (λa1 u=>⟨_,rfl,u.mo ⟨_,rfl,?_⟩⟩)⟩)⟩)⟩)⟩))⟩;have u:cQ E A v U ([bw R 1 (bC U.core.bt.all),fy pl U.pr]++Y) a1:=u;refine⟨_,N u 0 _ rfl,_,N u 1 _ rfl,_,N u 2 _ rfl,_,N u 3 _ rfl,_,N u 4 _ rfl,?_⟩;have act:=sw ak bu o;have r:=act.bad;have aS:U.pr.length=U.procs.length:=dY _;refine u.hV (o:=o) mk bu (λm p a7 s d aI n10=>?_);obtain⟨Z,av⟩:∃Z,U.act o=Z:=⟨_,rfl⟩
  rw[av]at d aI n10 s r;have f:∀ {w':bI},cQ E A v Z.1 (bD p (gk Z.2 m)::bw m 1 (bC Z.2.bE)::([bw R 1 (bC U.core.bt.all),fy pl U.pr]++Y)) w'->∀(j:Nat) c,(gk Z.2 m)[j]?=some c->w'.cell? (Addr.add ⟨p,0,none⟩ j)=some c:=λC j c B=>C.cell (k:=0) rfl B;refine⟨λb w'=>(b=true->Z.1=U/\Z.2.n=0/\Z.2.bE= [])/\cQ E A v Z.1 (bD p (gk Z.2 m)::bw m 1 (bC Z.2.bE)::([bw R 1 (bC U.core.bt.all),fy pl U.pr]++Y)) w',?_,?_⟩
  ·have bad:∀ {n:Int},Z.2.err=n->n≠0->n≠12->n≠13->(true=true->Z.1=U/\Z.2.n=0/\Z.2.bE= []):=λ{n} e a b c _=>by subst e;exact r a b c
   refine⟨_,f d 0 _ rfl,eC (λe=>⟨bad e bN bN bN,d⟩) (λ_=>⟨_,f d 0 _ rfl,eC (λe=>⟨bad e bN bN bN,d⟩) (λ_=>⟨_,f d 0 _ rfl,eC (λe=>⟨bad e bN bN bN,d⟩) (λ_=>⟨_,f d 0 _ rfl,eC (λe=>⟨bad e bN bN bN,d⟩) (λ_=>⟨_,f d 0 _ rfl,eC (λe=>⟨bad e bN bN bN,d⟩) (λ_=>⟨_,f d 0 _ rfl,eC (λe=>⟨bad e bN bN bN,d⟩) (λ_=>⟨_,f d 0 _ rfl,λe=>?_,d⟩)⟩)⟩)⟩)⟩)⟩)⟩;exact bad (oV.1 e) bN bN bN rfl
  rintro _ b a8 ⟨hb,H⟩;refine cy (λe=>?_) (λ_=>⟨rfl,fin (F:=[_,_,_,_]) H⟩);obtain⟨a2,a3,z3⟩:=hb e;refine bT rfl ⟨_,f H 1 _ rfl,bT (by rw[a3];rfl) ⟨m,f H 2 _ rfl,bT (by rw[s,z3];rfl) ?_⟩⟩;rw[a2]at H;refine H.procs mk (λaK a9 ah am=>⟨aK,rfl,bT (by rw[ah,az];simp) (am.bt mk (λaM ba aj an=>⟨aM,rfl,bT (by rw[aj,aA];simp) (an.memory 0 (λbb ao=>⟨_,rfl,bT (by simp) (ao.swap 0 (λbc ap=>⟨_,rfl,bT (by simp) (ap.tree (λbd S=>⟨_,rfl,S.mo ⟨_,rfl,by simp,fin (F:=[_,_,_,_,_,_]) S⟩⟩))⟩))⟩))⟩))⟩)
end Go.Mp
namespace Go.Proofs.YtafigbgagbolgaaGreatDoor
open Go Go.Vc Go.Sp Go.Mp Go.RowKit Go.ChangeShapes
def aAD(os:Os)(started:os.Started)(H:Type)(enc:bZ×bH->H):
  ReturnsInHanded {} nk os oO .any (λw args=>(Rows.vmRunsSpec.pre enc P nw [] false w args/\laidMetH P jP w)/\sizedMet enc P nw (OpenSpec.ofChange Rows.vmRunsSpec) false w args) (Rows.vmRunsSpec.post enc P nw false true false false):=by
 refine AQ (C:=nk) (tb:=ym) (X:=λw=>laidMetH P jP w) (λ_ _ m h=>h.of_heap m) own started cE GX
  (ChangeSpec.witness_shaped (enc:=enc) (C:=nk) (os:=os) (X:=λw _=>laidMetH P jP w) false (World.laidAll P os jP) #[.int .i64 0,.int .i64 0,aP8,aP8,.agg #[.int .i64 0,.int .i64 0,.int .i64 0,.int .i64 0,.int .i64 0]] 8 (World.laidAll_os _ _ _) (World.shaped_of_ZipB cE cE) cE cE cE (AT os _))
  laidOut cE cE rfl cE ?_ ?_
 ·intro e gs j k
  match e,gs,j,k with
  |[d0,d1,d2,d3,d4],[],_,_=>rfl
 ·intro W base args b a _ hx;have hw:=AU hx;obtain⟨p,q,r,t,u,rfl⟩:=GN b;have a0:=a 0 _ _ rfl rfl;have c:=a 1 _ _ rfl rfl;have d:=a 2 _ _ rfl rfl;have a3:=a 3 _ _ rfl rfl;have a4:=a 4 _ _ rfl rfl;obtain⟨f,rfl,hf⟩:=oJ a0;obtain⟨s,rfl,n⟩:=oJ c;obtain⟨sz,zs,rfl,i⟩:=A1 (w6 cE d);obtain⟨l,xs,rfl,g⟩:=AS a3;obtain⟨o,rfl⟩:=GP a4;refine use (aIR i g hw) ?_;rintro v w' ⟨rfl,h⟩;exact⟨_,rfl,rfl,AV h⟩
def T7:Tryz.pinned.checked.prog.funcNamed Rows.vmRunsRow.func=some oO:=by kernel_rfl
def aHS:ui P nw Rows.vmRunsSpec Rows.vmRunsRow=true:=by kernel_rfl
def aHT:uj P oO Rows.vmRunsRow=true:=by kernel_rfl
def aHU:uk P oO Rows.vmRunsRow=true:=by kernel_rfl
def aHV:um P oO Rows.vmRunsRow=true:=by kernel_rfl
def aHW:uo P oO Rows.vmRunsRow=true:=by kernel_rfl
def aHX:uq P nw Rows.vmRunsSpec Rows.vmRunsRow=true:=by kernel_rfl
def aHY:ur P nw Rows.vmRunsSpec Rows.vmRunsRow=true:=by kernel_rfl
def aHZ:uu P Rows.vmRunsRow=true:=by kernel_rfl
def aH0:uv P nw Rows.vmRunsSpec Rows.vmRunsRow=true:=by kernel_rfl
def aCR:Rows.VmRunsSaid:=
 OpenClaim.holds_of_wide oO nw rfl rfl rfl rfl rfl rfl rfl ⟨rfl,rfl,rfl,rfl,rfl⟩ rfl rfl rfl rfl rfl T7 GX
  (AR aHS aHT aHU aHV aHW aHX aHY aHZ aH0)
  (kA cE) (by unfold Func.isWrapper;rw[bJ (by decide+kernel)];exact⟨rfl,rfl⟩)
  (λos started H enc _=>aAD os started H enc)
def aH1:Rows.vmRunsRow.wfByText (OpenSpec.ofChange Rows.vmRunsSpec)=true:=by kernel_rfl
def aDv:Tryz.pinned.checked.prog.mainIs=some (true, "6dae9ca1e3fae822e43264ec614d78dc4c2fe72aea56ab24750a95019e43a27c".toList):=by kernel_rfl
def aCS:false=Tryz.pinned.checked.prog.looks []:=by kernel_rfl
def aDu:false=Rows.vmRunsRow.goesBy Tryz.pinned.checked.prog:=by kernel_rfl
def aCT:(nw.params.toList.all λu=> !P.wantsStandIn u)=true:=by kernel_rfl
def vmRuns_card:Rows.VmRunsCardSaid:=
 Claim7.holds_tied_plain_at .later [] [.data] true (true, "6dae9ca1e3fae822e43264ec614d78dc4c2fe72aea56ab24750a95019e43a27c") false
  aCR (λ_ h=>by cases h) aH1 (λ_ h=>by cases h) vmRuns_row_tie rfl ⟨rfl,rfl⟩ aDv rfl
  (λf fn hf a=>by
   obtain rfl:f=oO:=cV (T7.symm.trans hf) |>.symm;obtain rfl:fn=nw:=(cV (GX.symm.trans a)).symm;refine⟨aCS,λj t b=>?_⟩;have hm:t∈nw.params.toList:=by simpa using lp b
   exact(show P.wantsStandIn t=false by simpa using fM.1 aCT t hm))
  aDu
end Go.Proofs.YtafigbgagbolgaaGreatDoor
