/- Vm: Pages that are let go are not there any more; mapped again they are of noughts: the law answers true and lets its arguments be; for every input. -/
import Derived.Test.YtafigbgagbolgaaGreatDoorC15
import Derived.Test.YtafigbgagbolgaaGreatDoorProg
import Derived.Test.YtafigbgagbolgaaGreatDoorChecked
import Derived.ProofKit
import Derived.OpenVars
import Derived.LaidMore
import Derived.Lay
import Derived.OpenShut
import Derived.Stop.LaidErr
import Derived.Lib.LaidTab
import Derived.SevenTiedAt
import Derived.Test.YtafigbgagbolgaaGreatDoorRows
import Derived.Test.YtafigbgagbolgaaGreatDoorTie
import Derived.Test.YtafigbgagbolgaaGreatDoorCards
set_option linter.all false
set_option maxRecDepth 100000
open Go.IntKind(i64 u64)
namespace Go.Mp
open Go Go.Vc
abbrev lk:TypeId:=23
abbrev nO:TypeId:=37
abbrev oF:FuncId:=8
abbrev nP:FuncId:=16
abbrev q3:FuncId:=22
noncomputable abbrev m4:Func:=Go.Proofs.Tryz.f8
def GD:P.funcs[oF]?=some m4:=Go.Proofs.Tryz.func8
def zw(w:World)(g:Addr->bh6):Prop:=Al (.cells #[Iv 3,Iv 0,Iv 0,Iv 0,Iv 0,Iv 5,Iv 0,Iv 2,Iv 0,Iv 0,Iv 9,Iv 0,Iv 20,Iv 7,Iv 0,Iv 8,Iv 0,Iv 20,Iv 0,Iv 0,Iv 8,Iv 0,Iv 21,Iv 0,Iv 0] 37) g w
end Go.Mp
namespace Go.Sp
open Go Go.Vc Go.RowKit Go.ChangeShapes
section
variable{P:Program}{W:World}{t:TypeId}{cs:List Value}
def Rd.bool(h:Rd P W t cs)(a:P.underlying t=some .bool):∃b,cs= [.bool b]:=by
 obtain⟨H,enc,fuel,x,h⟩:=h;obtain⟨n,h1,_⟩:=DataW.trod_bool a h;exact⟨n,h1⟩
def Rd.str(h:Rd P W t cs)(b:P.underlying t=some .string):∃s,cs= [.string s]/\s.size<=maxLen:=by
 obtain⟨H,enc,fuel,x,h⟩:=h;obtain⟨s,h1,_,a⟩:=DataW.trod_string b h;exact⟨s,h1,a⟩
def Rd.struct{fs:Array Field}(h:Rd P W t cs)(d:P.underlying t=some (.struct fs)):cs.length=P.cellsOf t/\
  ∀(i:Nat) (f:Field),fs[i]?=some f->Rd P W f.type ((cs.drop f.offset).take (P.cellsOf f.type)):=by
 obtain⟨H,enc,fuel,x,h⟩:=h;obtain⟨xs,n,rfl,rfl,c,hx,hf⟩:=DataW.trod_struct d h;refine⟨c,λi f a=>?_⟩;have b:i<xs.length:=by
  rw[hx];rcases gS i fs.size with h' | h';·exact h'
  ·simp[h']at a
 have:=hf i f a;rw[dD b]at this;exact⟨H,enc,n,_,this⟩
def Rd.fF{e:TypeId}{v:Value}(h:Rd P W t [v])(d:P.underlying t=some (.slice e)):∃(p:cg) (n c:Nat),v=.slice p n c/\n<=c/\c<=maxLen/\
  ∀i,i<n->∃a es,p=some a/\es.length=P.cellsOf e/\(∀j,j<P.cellsOf e->W.cell? ((a.add (i*P.cellsOf e)).add j)=es[j]?)/\Rd P W e es:=by
 obtain⟨p,n,c,h1,b⟩:=h.slice d;exact⟨p,n,c,by simpa using h1,b⟩
end
section
variable{H:Type}{enc:TypeId×Value->H}{P:Program}
end
end Go.Sp
namespace Go.Sp
open Go Go.Vc
def hC(P:Program)(a:TypeId->Option (List TypeId)):List Field->Nat->Option (List TypeId)
 |[],_=>some []
 |f::fs,o=>match Nat.beq f.offset o,a f.type with
  |true,some l=>match Nat.beq (P.cellsOf f.type) l.length with
   |true=>match hC P a fs (o+l.length)with
    |some r=>some (l++r)
    |none=>none
   |false=>none
  |_,_=>none
def hD(P:Program):Nat->TypeId->Option (List TypeId)
 |0,_=>none
 |d+1,t=>match P.underlying t with
  |some (.struct fs)=>match hC P (hD P d) fs.toList 0 with
   |some l=>match Nat.beq (P.cellsOf t) l.length with
    |true=>some l
    |false=>none
   |none=>none
  |some (.int _)=>some [t]
  |some .bool=>some [t]
  |some .string=>some [t]
  |some (.slice _)=>some [t]
  |_=>none
section
variable{P:Program}{W:World}
def g4(P:Program)(W:World):List TypeId->List Value->Prop
 |[],[]=>True
 |t::ts,v::vs=>Rd P W t [v]/\g4 P W ts vs
 |_,_=>False
def g4.append:∀ {ts us:List TypeId} {vs xs:List Value},g4 P W ts vs->g4 P W us xs->g4 P W (ts++us) (vs++xs)
 |[],_,[],_,_,h=>h
 |_::_,_,_::_,_,⟨h1,a⟩,h=>⟨h1,a.append h⟩
 |[],_,_::_,_,h,_=>h.elim
 |_::_,_,[],_,h,_=>h.elim
def Rd.leaves:∀(d:Nat) {t:TypeId} {ts:List TypeId} {cs:List Value},hD P d t=some ts->Rd P W t cs->g4 P W ts cs:=by
 intro d;induction d with
 |zero=>intro t ts cs h;simp[hD]at h
 |succ d I=>
  intro t ts cs h j;unfold hD at h;cases hu:P.underlying t with
  |none=>simp[hu]at h
  |some x=>
   cases x<;>simp only[hu]at h<;>try (simp at h;done)
   case bool=>
    simp only[eF]at h;subst h;obtain⟨b,rfl⟩:=j.bool hu;exact⟨j,trivial⟩
   case int k=>
    simp only[eF]at h;subst h;obtain⟨b,rfl,_⟩:=j.int hu;exact⟨j,trivial⟩
   case string=>
    simp only[eF]at h;subst h;obtain⟨b,rfl,_⟩:=j.str hu;exact⟨j,trivial⟩
   case slice e=>
    simp only[eF]at h;subst h;obtain⟨p,n,c,rfl,_⟩:=j.slice hu;exact⟨j,trivial⟩
   case struct fs=>
    cases q:hC P (hD P d) fs.toList 0 with
    |none=>simp[q]at h
    |some l=>
     simp only[q]at h;split at h
     ·next C=>
      simp only[eF]at h;subst h;obtain⟨hlen,w⟩:=j.struct hu;rw[je C]at hlen;have key:∀(m:List Field) (o:Nat) (l:List TypeId),hC P (hD P d) m o=some l->(∀f∈m,Rd P W f.type ((cs.drop f.offset).take (P.cellsOf f.type)))->cs.length=o+l.length->g4 P W l (cs.drop o):=by
       intro m;induction m with
       |nil=>
        intro o l a _ u;simp only[hC,eF]at a;subst a;rw[jJ (by simpa using Ho u)];trivial
       |cons f m D=>
        intro o l a s u;unfold hC at a;split at a
        ·next v ho y=>
         split at a
         ·next H=>
          split at a
          ·next r B=>
           simp only[eF]at a;subst a;have A:=je ho;have z:=je H;have h1:=s f (by simp);rw[A,z]at h1;have E:=I y h1;have F:=D (o+v.length) r B (λg q=>s g (by simp[q])) (by rw[u,da];omega);have e:cs.drop o=(cs.drop o).take v.length++cs.drop (o+v.length):=by
            rw[<- n0,fA]
           rw[e];exact E.append F
          ·simp at a
         ·simp at a
        ·simp at a
      have:=key fs.toList 0 l q (λf hf=>by
       obtain⟨i,G,rfl⟩:=h5.1 hf;exact w i _ (by simp at G ⊢)) (by simpa using hlen)
      simpa using this
     ·simp at h
end
end Go.Sp
namespace Go.Sp
open Go Go.Vc
variable{E:Env}{L:ch}{w W:World}{P:Program}
def g0.nil:g0 w ⟨none,0,0⟩ []:=⟨rfl,λi x h=>by simp at h⟩
end Go.Sp
namespace Go.Mp
open Go Go.Vc Go.Proofs
variable{K:bh7}{w:World}
variable(K w)
def TG(bN bR:Int)(l:Sl)(pid bH:Int):=
 qF q3 #[] w λf p=>cond (!f) (K (.bool false) p) (qg (λai=>qF nP #[Iv bN,Iv bR,.slice none 0 0,Sv l] p λak k=>cond ak (K (.bool f) k) (cond (decide (bH<0)) (K (.bool f) k) (cond (decide (bH>1000)) (K (.bool f) k) (ai k)))) λaj=>qC #[Iv 3,Iv 3] aj λo q=>qR acl #[Iv bN,Iv bR,.slice (some o) 2 2] q λe r=>qO 0 r λm i19 j=>cond (decide (i19<((l.n:Nat):Int))) (qW l i19 5 λa20=>zL j a20 λD E F G H=>zx iz #[Pv e,.agg #[Iv D,Iv E,Iv F,Iv G,Iv H]] j λal am an s=>(m (i64.wrap (i19+1)) s)) (zx iz #[Pv e,.agg #[Iv 7,Iv pid,Iv 1,Iv bH,Iv 0]] j λI J L t=>zW t λc u=>qU [Iv I,Iv J,Sv L] c u λv=>zx iz #[Pv e,.agg #[Iv 8,Iv pid,Iv (i64.wrap (16*bH)),Iv 0,Iv 0]] v λM N O x=>zW x λg y=>qU [Iv M,Iv N,Sv O] g y λb=>qL b c 0 λP=>cond (P !=0) (cond f (qL b c 0 λQ=>cond (Q==2) (qL b g 0 λR=>K (.bool (R==2)) b) (K (.bool false) b)) (K (.bool false) b)) (zx iz #[Pv e,.agg #[Iv 5,Iv pid,Iv 1,Iv bH,Iv 0]] b λS T U z=>zW z λh A=>qU [Iv S,Iv T,Sv U] h A λa=>qL a h 0 λV=>cond (V !=0) (cond f (qL a c 1 λW=>cond (decide (W<=1)) (qL a g 0 λX=>cond (X==14) (qL a h 0 λY=>K (.bool (Y==1)) a) (K (.bool false) a)) (K (.bool false) a)) (K (.bool false) a)) (qO 0 a λn i66 cH=>cond (decide (i66<16)) (zx iz #[Pv e,.agg #[Iv 8,Iv pid,Iv (i64.wrap ((i64.wrap (16*bH))+i66)),Iv 0,Iv 0]] cH λZ aa ab B=>zW B λi C=>qU [Iv Z,Iv aa,Sv ab] i C λd=>qL d i 0 λad=>cond (ad !=0) (K (.bool false) d) (qL d i 1 λae=>cond (ae !=0) (K (.bool false) d) ((n (i64.wrap (i66+1)) d)))) (cond f (qL cH c 1 λaf=>cond (decide (af≥0)) (qL cH c 1 λag=>cond (decide (ag<=1)) (qL cH g 0 λah=>K (.bool (ah==14)) cH) (K (.bool false) cH)) (K (.bool false) cH)) (K (.bool false) cH))))))
def nQ(bN bR:Int)(bP l:Sl):=
 cond (decide (bN>24)) (K (.bool true) w) (cond (decide (bR>24)) (K (.bool true) w) (cond (decide (((bP.n:Nat):Int)>40)) (K (.bool true) w) (K (.bool (decide (((l.n:Nat):Int)>40))) w)))
def q4:=
 zw w λm w2=>qJ tz #[Iv 4,Iv 4,.slice none 0 0,.slice (some m) 5 5] w2 λc L=>qR acl #[Iv 4,Iv 4,.slice none 0 0] L λb i=>qg (λJ=>cond b.isNone (K (.bool false) i) (cond (((c.n:Nat):Int) !=5) (K (.bool false) i) (J i))) λe=>cx (some m) 5 0 5 λj=>zL e j λr s t u v=>zx iz #[Pv b,.agg #[Iv r,Iv s,Iv t,Iv u,Iv v]] e λx y z n=>zW n λd o=>qU [Iv x,Iv y,Sv z] d o λp=>qJ o1 #[Pv b] p λh a=>qW c 2 3 λa29=>qL a a29 0 λA=>cond (A==0) (qW c 3 3 λk=>qL a k 1 λB=>cond (B==7) (qW c 4 3 λa33=>qL a a33 1 λC=>cond (C==0) (qW c 4 3 λa35=>qL a a35 0 λD=>cond (D==0) (qL a d 0 λE=>cond (E==0) (cond (((h.n:Nat):Int)==1) (qW h 0 3 λl=>qy a l 2 λF=>cond F (qR nA #[Pv b,Iv 0] a λG f=>cond (!G.isNone) (qR nA #[Pv b,Iv 1] f λH g=>cond H.isNone (qR rO #[Pv b] g λI q=>K (.bool (!I.isNone)) q) (K (.bool false) g)) (K (.bool false) f)) (K (.bool false) a)) (K (.bool false) a)) (K (.bool false) a)) (K (.bool false) a)) (K (.bool false) a)) (K (.bool false) a)) (K (.bool false) a)
variable{K w}
def anL(bN bR l pid bH)(h:TG K w bN bR l pid bH):=bL (z8 [28,32,41,42,44,59,64,69,74,83,88,93,98,101,103,107,109,114,118,124,129,134] [] [(8,[(13,jZ)]),(19,[(17,jZ)])] [(6,[])]) #[Iv bN,Iv bR,Sv l,Iv pid,Iv bH] K w Tryz.func8 h
def sv(bN bR bP l)(h:nQ K w bN bR bP l):=bL (z8 [10,13,17,18,22,23]) #[Iv bN,Iv bR,Sv bP,Sv l] K w Tryz.func16 h
def xo(h:q4 K w):=bL (z8 [16,19,20,33,39,46,53,58,62,63,74,79,84] [] [] [(6,[])]) #[] K w Tryz.func22 h
end Go.Mp
namespace Go.Mp
open Go Go.Vc Go.Sp Go.Proofs Go.Kc Go.Kw Go.Kt
variable{E:Env}{L:ch}{w W:World}{A:At}{v:Nat}{V:Vs}
def ll{a:Addr}{x:Value}(h:St E A v V L w)(ho:A.o=W.heap)(b:W.cell? a=some x):w.cell? a=some x:=by
 have:=h.drop;rw[ho]at this;exact nN (q:=0) this rfl b
def dC(a:cE)(b:Sl):List Value:=[Iv a.err,Iv a.n,Sv b]
def St.gX(h:St E A v V L w)(m:fU V)(n:V.core.bz.next+66<16777216)(o:c7){T:TypeId}{F:Int->Int->Sl->Addr->bh6}(k:∀(a:Sl) p w',a.n=(V.act o).2.bI.length->St E A v (V.act o).1 (bE p (dC (V.act o).2 a)::bC a 1 (bD (V.act o).2.bI)::L) w'->fU (V.act o).1->(V.act o).1.core.bz.next<=V.core.bz.next+66->F (V.act o).2.err (V.act o).2.n a ⟨p,0,none⟩ w'):
  Calls P iz #[Pb v,.agg (dO o).toArray] w λe d=>∃x:Int,∃y:Int,∃s:Sl,e=.returned (.agg #[Iv x,Iv y,Sv s])/\
   Al (.cells #[Iv 0,Iv 0,.slice none 0 0] T) (λp w2=>jt [Iv x,Iv y,Sv s] p (λb=>F x y s p b) w2) d:=by
 refine h.qS m n o (λa d c h1 q t=>⟨_,_,a,rfl,?_⟩);obtain⟨gs,us,r,ps,f,g,i⟩:=h1;refine Al.i i (λp w2 j=>eh _ j rfl (λb l=>k a p b c ⟨gs,us,r,ps,f,g,Vm.eA l⟩ q t))
def fG(W:World)(l:Sl)(os:List c7):Prop:=l.n=os.length/\∀(i:Nat) o,os[i]?=some o->∃a,l.p=some a/\∀(j:Nat) x,(dO o)[j]?=some x->W.cell? ((a.add (i*5)).add j)=some x
def St.op{l:Sl}{os:List c7}(b:fG W l os)(ho:A.o=W.heap)(h:St E A v V L w){k:Nat}{o:c7}(c:os[k]?=some o){F:Addr->Prop}(f:∀a,(∀(j:Nat) x,(dO o)[j]?=some x->∀ {V':Vs} {L':ch} {w':World},St E A v V' L' w'->w'.cell? (a.add j)=some x)->F a):cx l.p l.n (k:Int) 5 F:=by
 obtain⟨a,hp,d⟩:=b.2 k o c;have g:=(cT.1 c).1;have e:=b.1;refine⟨a,hp,⟨bA,bA⟩,?_⟩;rw[dk];exact f _ (λj x hx V' L' w' h'=>ll h' ho (d j x hx))
def GF(V:Vs){os:List c7}{k:Nat}{o:c7}(a:os[k]?=some o):(dv V (os.take (k+1))).1=((dv V (os.take k)).1.act o).1:=by
 rw[fw a,F6]
def aJf{l:Sl}{os:List c7}{d:bh6}(n:fG W l os)(O:os.length<=40)(ho:A.o=W.heap)(m:fU V)(Q:V.core.bz.next<=1000)(h:St E A v V L w)(k:∀w',fU (dv V os).1->(dv V os).1.core.bz.next<=10000->St E A v (dv V os).1 L w'->d w'):
  ∃(u:Int->bh6) (M:Int->World->Nat),u 0 w/\∀K:Nat->Value,∀i:Int,∀b:World,u i b->bif(decide (i<((l.n:Nat):Int)))then(cx l.p l.n i 5 λa=>∃p:Int,b.cell? (a.add 0)=some (Iv p)/\∃q:Int,b.cell? (a.add 1)=some (Iv q)/\∃r:Int,b.cell? (a.add 2)=some (Iv r)/\∃s:Int,b.cell? (a.add 3)=some (Iv s)/\∃t:Int,b.cell? (a.add 4)=some (Iv t)/\
   Calls P iz #[(Pb v),(.agg #[(Iv p),(Iv q),(Iv r),(Iv s),(Iv t)])] b λe w2=>∃C:Int,∃D:Int,∃F:Sl,e=.returned (.agg #[(Iv C),(Iv D),(Sv F)])/\(u (i64.wrap (i+1)) w2/\M (i64.wrap (i+1)) w2<M i b))else d b:=by
 have I:=n.1;refine⟨λi w'=>∃j:Nat,i=j/\j<=os.length/\fU (dv V (os.take j)).1/\(dv V (os.take j)).1.core.bz.next<=1000+66*j/\St E A v (dv V (os.take j)).1 L w',λi _=>(os.length-i).toNat,⟨0,rfl,ec _,m,by show V.core.bz.next<=_;omega,h⟩,?_⟩;rintro _ _ b ⟨j,rfl,N,g,B,h1⟩;refine cL (λJ=>?_) (λG=>?_)
 ·obtain⟨o,c⟩:∃o,os[j]?=some o:=⟨_,dL⟩
  refine h1.op n ho c (λa f=>⟨_,f 0 _ rfl h1,_,f 1 _ rfl h1,_,f 2 _ rfl h1,_,f 3 _ rfl h1,_,f 4 _ rfl h1,h1.qS g bA o (λy w2 H x z R=>⟨_,_,y,rfl,?_⟩)⟩);rw[c1];refine⟨⟨j+1,rfl,bA,by rw[GF V c];exact z,by rw[GF V c];omega,by rw[GF V c];exact x.tail⟩,?_⟩;show(((os.length:Nat):Int)-((j+1:Nat):Int)).toNat<(((os.length:Nat):Int)-(j:Int)).toNat;omega
 ·have:j=os.length:=by omega
  subst this;rw[fN]at h1 g B;exact k b g bA h1
def St.procs(h:St E A v V L w)(m:fU V){K:Ending->bh6}(k:∀(l:Sl) w',l.n=V.pr.length->St E A v V (jd l V.pr::L) w'->K (.returned (Sv l)) w'):Calls P o1 #[Pb v] w K:=by
 obtain⟨gs,us,r,ps,h1,a,d⟩:=h;have fq:=AM m a;refine use (AH (AL m a) h1 bA d) ?_;rintro _ w' ⟨l,rfl,c,b⟩;have e:(plain ps).map fV=V.pr:=by rw[a,AG]
 rw[e]at c b;exact k l w' c ⟨gs,us,r,ps,h1,a,b⟩
def St.space{pid:Int}(h:St E A v V L w){K:Ending->bh6}(k:∀x:cg,x.isNone=(V.space pid).isNone->K (.returned (.pointer x)) w):Calls P nA #[Pb v,Iv pid] w K:=by
 obtain⟨gs,us,r,ps,h1,b,e⟩:=h;have c:(⟨V.core,plain ps⟩:Vs)=V:=by cases V;dsimp only at b;rw[b]
 refine use (AF (pid:=pid) h1 e) ?_;rintro _ w' ⟨f,rfl⟩;rcases f with⟨i,a,g,s,rfl,j,rfl⟩|⟨d,rfl⟩
 ·refine k _ ?_;have:=(jS (V:=⟨V.core,plain ps⟩) (ig j)).1;rw[c]at this;rw[this];rfl
 ·refine k _ ?_;rw[c]at d;rw[d];rfl
end Go.Mp
namespace Go.Mp
open Go Go.Vc Go.Sp Go.Proofs Go.Kc
def oA{α:Type}{n:Nat}{R:Nat->α->Prop}(h:∀i,i<n->∃x,R i x):∃l:List α,l.length=n/\∀i x,l[i]?=some x->R i x:=by
 induction n with
 |zero=>exact⟨[],rfl,λi x hx=>by simp at hx⟩
 |succ n f=>
  obtain⟨l,b,e⟩:=f (λi c=>h i bA);obtain⟨x,hx⟩:=h n bA;refine⟨l++[x],by simp[b],λi y a=>?_⟩;rcases gS i n with c|c;·rw[eE bA]at a;exact e i y a
  ·have d:=(cT.1 a).1;have:i=n:=by simp[b]at d;omega
   subst this;rw[fo bA,b,hG]at a;rw[<- cQ a];exact hx
end Go.Mp
namespace Go.Mp
open Go Go.Vc Go.Sp Go.Proofs Go.Kc Go.Kw
def sx{W:World}{v:Value}(h:Rd P W lk [v]):∃(l:Sl) (xs:List c7),v=Sv l/\fG W l xs:=by
 obtain⟨p,n,c,rfl,_,_,q⟩:=h.fF (e:=nO) cr;have key:∀i,i<n->∃x:c7,∃a,p=some a/\∀(j:Nat) v,(dO x)[j]?=some v->W.cell? ((a.add (i*5)).add j)=some v:=by
  intro i m;obtain⟨a,es,rfl,b,d,r⟩:=q i m;have o:P.cellsOf nO=5:=by kernel_rfl
  rw[o]at d b;have hf:=r.leaves 3 (ts:=[tv,hb,hb,hb,hb]) cr
  match es,b,hf with
  |[v0,v1,v2,v3,v4],_,⟨s,t,u,w,y,_⟩=>
  obtain⟨k,rfl,_⟩:=s.e1 (k:=.i64) cr;obtain⟨z,rfl,_⟩:=t.e1 (k:=.i64) cr;obtain⟨A,rfl,_⟩:=u.e1 (k:=.i64) cr;obtain⟨B,rfl,_⟩:=w.e1 (k:=.i64) cr;obtain⟨C,rfl,_⟩:=y.e1 (k:=.i64) cr;refine⟨⟨k,z,A,B,C⟩,a,rfl,λj v f=>?_⟩;have g:j<5:=(cT.1 f).1;rw[d j g];exact f
 obtain⟨xs,b,hx⟩:=oA key;exact⟨⟨p,n,c⟩,xs,rfl,b.symm,hx⟩
end Go.Mp
namespace Go.Proofs.YtafigbgagbolgaaGreatDoor
open Go Go.Vc Go.Sp Go.Mp Go.RowKit Go.ChangeShapes
def GA{α:Type}{a:Array α}(h:a.size=5):∃b c d e f,a= #[b,c,d,e,f]:=by
 obtain⟨l⟩:=a
 match l,h with
 |[b,c,d,e,f],_=>exact⟨b,c,d,e,f,rfl⟩
def oB{t:TypeId}{W:World}{base:Nat}{v:Value}(b:dW P t=some false)(h:Rd P W t v.cells.toList/\Value.okWide P W .any base t v):Rd P W t [v]:=by
 obtain⟨h1,a⟩:=h;rw[vO a b]at h1;exact h1
def q1{W:World}{base:Nat}{v:Value}(h:Rd P W lk v.cells.toList/\Value.okWide P W .any base lk v):∃(l:Sl) (xs:List Kw.c7),v=.slice l.p l.n l.c/\fG W l xs:=
 sx (oB cr h)
end Go.Proofs.YtafigbgagbolgaaGreatDoor
namespace Go.Kc
open Go Go.Kt Go.Sp
variable{S:Cs}
namespace By
variable{n:Nat}{X t:List UInt8}{i j:Int}
def xp{a:Int}{b:UInt8}(f:0<=i)(g:0<=j)(d:i≠j):rd n (pt n X i a b).1 j=rd n X j:=by
 unfold rd;by_cases hp:pg n j
 ·rw[bM hp,bM hp];congr 1;unfold pt;split
  ·next e=>
   apply g6;intro k;by_cases c:k<16;·rw[ob c,ob c,h4 bA]
   ·rw[fH (by unfold gN;simp;omega),fH (by unfold gN;simp;omega)]
  ·rfl
 ·rw[bJ hp,bJ hp]
end By
def Has.lt(h:Inv0 S){id:Int}{t:List UInt8}(H:Has S id t):id<S.bz.next:=by
 obtain⟨p,hp,_⟩:=H;exact(h.ct.ids _ _ hp).2
variable{S':Cs}{id:Int}{t:List UInt8}
def Has.outs(H:Has S id t)(h:Inv S)(ho:et S S'):Has S' id t:=by
 induction ho with
 |refl S=>exact H
 |step hp h1 a _ b=>exact b (Has.dx h H hp h1 (AP h hp h1 a)) (h.out hp h1)
def Has.gB(h:Inv S)(H:Has S id t){a:Nat}(k:S.fr.bK[a]?=some false){text:List UInt8}(f:S'.bz.pg id=S.bz.pg id)(g:S'.fr.bK.length=S.fr.bK.length)(d:S'.fr.cG=(By.wr S.fr.bK.length S.fr.cG a text).1)(i:∀p,S.bz.pg id=some p->p.place=2->By.rd S'.sl.bK.length S'.sl.cG p.at_=By.rd S.sl.bK.length S.sl.cG p.at_):Has S' id t:=by
 refine H.dX h (λp hp _ _=>⟨p,by rw[f];exact hp,rfl,rfl,rfl,rfl⟩) (λp hp e=>?_) i;have b:=(h.ct.pl _ _ hp).1.2.2.1;have c:=(uC h.fr hp e b).2;rw[g,d];exact By.w7 h.fr.len bA b (λj=>by rw[<- j,dk,k]at c;cases c)
def Has.cN(h:Inv S)(i:S.bz.next<16777216)(H:Has S id t){g:Int}(f:S.live g=true)(text:List UInt8):Has (S.cN g text).1 id t:=by
 rcases rH h i f text with⟨S0,a,k,he,_,c⟩|⟨S0,j,k,he⟩
 ·have e:=k.outs.inv h;have d:=H.outs h k.outs;have b:id≠S.bz.next:=by have:=H.lt h.toInv0;omega
  refine d.gB e k.free (text:=text) (by rw[c,bJ b]) ?_ ?_ (λp _ _=>?_);·rw[he];show(S0.fr.bK.set a true).length=_;rw[dA]
  ·rw[he];show(By.wr (S0.fr.bK.set a true).length S0.fr.cG a text).1=_;rw[dA]
  ·rw[he];rfl
 ·rw[he];exact H.outs h k.outs
def Has.fresh(h:Inv S)(b:S.bz.next<16777216)(H:Has S id t)(g:Int):Has (S.fresh g).1 id t:=by
 unfold Cs.fresh;split;·exact H
 ·next a=>exact H.cN h b (by simpa using a) _
def Has.copy(h:Inv S)(c:S.bz.next<16777216)(H:Has S id t)(x g:Int):Has (S.copy x g).1 id t:=by
 unfold Cs.copy;dsimp only;split;·exact H
 ·next a=>
  have a:S.live g=true:=by
   cases b:S.live g with
   |true=>rfl
   |false=>exact absurd (.inr (.inl b)) a
  exact H.cN h c a _
def Has.brought(h:Inv S)(H:Has S id t){x o:Int}{p:Pg}{S0:Cs}{a:Nat}{r:Cs×Int×Int}(hp:S.bz.pg x=some p)(h1:p.place≠1)(b:ya S S0 x p o a r):Has r.1 id t:=by
 have c:=b.took.outs.inv h;have f:=H.outs h b.took.outs;have u:=(cT.1 b.took.free).1;by_cases hx:id=x
 ·subst hx;obtain⟨v,d,i,m,s⟩:=f;rw[b.bH]at d;cases d;refine⟨{p with owner:=o,place:=1,at_:=(a:Int)},by rw[b.pg,bM rfl],i,m,?_⟩;rw[uB rfl,b.cG,b.bK,dA,By.AN c.fr.len ⟨bA,bA⟩ (Has.len c ⟨p,b.bH,i,m,rfl⟩)];exact s
 ·refine f.gB c b.took.free (text:=S0.text p) (by rw[b.pg,bJ hx]) (by rw[b.bK,dA]) b.cG (λq k e=>?_);rw[b.sl];by_cases g:p.place=2
  ·rw[bM g];have l:=(c.ct.pl _ _ k).1.2.2.1;have j:=(c.ct.pl _ _ b.bH).1.2.2.1;exact ox rfl c.sl.len j l (λn=>hx (c.ct.one b.bH k bA bA n.symm))
  ·rw[bJ g]
def Has.cb(h:Inv S)(H:Has S id t)(x g:Int):Has (S.cb x g).1 id t:=by
 by_cases c:S.bz.pg x=none\/S.live g=false\/∃p,S.bz.pg x=some p/\p.place=0/\p.kf<0;·rw[og h.toInv0 c];exact H
 ·obtain⟨p,hp⟩:∃p,S.bz.pg x=some p:=by
   cases i:S.bz.pg x with
   |none=>exact absurd (.inl i) c
   |some p=>exact⟨p,rfl⟩
  have d:S.live g=true:=by
   cases f:S.live g with
   |true=>rfl
   |false=>exact absurd (.inr (.inl f)) c
  by_cases h1:p.place=1
  ·rw[tn h.toInv0 hp h1 d];exact H.same h rfl ⟨rfl,rfl⟩ ⟨rfl,rfl⟩
  ·rcases rI h.toInv0 h.anon hp d (λe=>c (.inr (.inr ⟨p,hp,e⟩))) h1 with⟨S0,a,b,_⟩|⟨S0,j,b,he⟩
   ·exact H.brought h hp h1 b
   ·rw[he];exact H.outs h b.outs
end Go.Kc
namespace Go.Kc
open Go Go.Kt Go.Sp
variable{S S':Cs}{id:Int}{t:List UInt8}{T:Cs}{g:Int}
def Has.cD(h:Inv S)(r:S.bz.next<16777216)(H:Has S id t)(k:Int×Int)(g:Int):Has (S.cD k g).1 id t:=by
 unfold Cs.cD;dsimp only;split;·exact H
 ·next n=>
  have w:S.live g=true:=by
   cases a:S.live g with
   |true=>rfl
   |false=>exact absurd (.inr a) n
  have hf:ed S.files k=true:=by
   cases a:ed S.files k with
   |true=>rfl
   |false=>exact absurd (.inl a) n
  by_cases hm:S.bz.of k<0
  ·rw[dh hm];simp only[fP];obtain⟨kf,ki⟩:=k;have i:=rJ hf;have b:=oe S.bz (kf:=kf) (ki:=ki) (o:=g) ⟨h.ct.next,r⟩ (.inr hm);rw[show(S.bz.make kf ki g).2.1=S.bz.next by rw[b.1]];have v:=h.toInv0.make r (kf:=kf) (ki:=ki) w (.inr ⟨hm,hf⟩);have j:fX S.bz kf ki=(kf,ki):=by unfold fX;rw[bJ (by have:0<=kf:=i;omega)]
   have d:∀x p,(S.bz.make kf ki g).1.pg x=some p->p.kf<0->p.place≠0:=by
    intro x q e c;rw[b.2.2]at e;split at e
    ·rw[<- cQ e,j]at c;have:kf<0:=c;have:0<=kf:=i;omega
    ·exact h.anon _ _ e c
   have m:Inv {S with bz:=(S.bz.make kf ki g).1} :=⟨v,d⟩
   have f:id≠S.bz.next:=by have:=H.lt h.toInv0;omega
   have s:Has {S with bz:=(S.bz.make kf ki g).1} id t:=H.same h (by show(S.bz.make kf ki g).1.pg id=_;rw[b.2.2,bJ f]) ⟨rfl,rfl⟩ ⟨rfl,rfl⟩;have l:=s.cb m S.bz.next g;have u:=m.cb S.bz.next g;split;·exact l
   ·refine l.same u ?_ ⟨rfl,rfl⟩ ⟨rfl,rfl⟩;show(TS.drop _ _).1.pg id=_;unfold TS.drop;split;·rfl
    ·split;·rfl
     ·exact c9 _ _ f
  ·rw[c4 hm];simp only[kK,gq];have:=H.cb h (S.bz.of k) g;split<;>exact this
def xq{x:Int}(a:(S.here x).2=true):∃p,S.bz.pg x=some p/\p.place=1/\(S.here x).1=p.at_:=by
 unfold Cs.here TS.get at a;cases hp:S.bz.pg x with
 |none=>rw[hp]at a;simp at a
 |some p=>
  rw[hp]at a;refine⟨p,rfl,by simpa using a,?_⟩;unfold Cs.here TS.get;rw[hp]
def Has.put(h:Inv S)(H:Has S id t){x:Int}(hx:x≠id)(a:Int)(b:UInt8):Has (S.put x a b).1 id t:=by
 unfold Cs.put;dsimp only;split;·exact H
 ·next d=>
  have d:(S.here x).2=true:=by simpa using d
  obtain⟨p,hp,h1,he⟩:=xq d;split
  ·have f:=(h.ct.pl _ _ hp).1.2.2.1;refine H.dX h (λq c _ _=>⟨q,?_,rfl,rfl,rfl,rfl⟩) (λq c e=>?_) (λq _ _=>rfl)
   ·show(S.bz.mark x true).1.pg id=_;rw[(od _ _ _).2.2.2,c];show some (if id=x then _ else q)=_;rw[bJ (λe=>hx e.symm)]
   ·have g:=(h.ct.pl _ _ c).1.2.2.1;show By.rd S.fr.bK.length (By.pt S.fr.bK.length S.fr.cG (S.here x).1 a b).1 q.at_=_;rw[he];exact By.xp f g (λi=>hx (h.ct.one c hp bA bA i))
  ·exact H
def Has.bX(h:Inv S)(H:Has S id t){x:Int}(hx:x≠id)(n:Int):Has (S.bX x n).1 id t:=by
 rcases rK h x n with⟨_,he⟩|⟨p,hp,⟨_,he⟩|⟨_,_,he⟩|⟨_,_,_,_,_,g,_,_,f,i,_⟩⟩
 ·rw[he];exact H
 ·rw[he];exact H
 ·rw[he];exact H.same h (c9 _ _ (λe=>hx e.symm)) ⟨rfl,rfl⟩ ⟨rfl,rfl⟩
 ·have c:=(h.ct.pl _ _ hp).1.2.2.1;refine H.dX h (λq a _ _=>⟨q,by rw[g,bJ (λe=>hx e.symm)];exact a,rfl,rfl,rfl,rfl⟩) (λq a e=>?_) (λq a e=>?_)
  ·rw[f];by_cases b:p.place=1
   ·rw[bM b];exact ox rfl h.fr.len c (h.ct.pl _ _ a).1.2.2.1 (λd=>hx (h.ct.one a hp bA bA d))
   ·rw[bJ b]
  ·rw[i];by_cases b:p.place=2
   ·rw[bM b];exact ox rfl h.sl.len c (h.ct.pl _ _ a).1.2.2.1 (λd=>hx (h.ct.one a hp bA bA d))
   ·rw[bJ b]
def Has.remove(h:Inv S)(H:Has S id t)(g:Int):Has (S.remove g).1 id t:=by
 unfold Cs.remove;dsimp only;split
 ·refine H.dX h (λq a _ _=>⟨if q.owner=g then {q with owner:=lT S.tree g} else q,?_,?_,?_,?_,?_⟩) (λq _ _=>rfl) (λq _ _=>rfl)
  ·show(S.bz.dq (S.bz.ee g) (lT S.tree g)).pg id=_;rw[tp h.ct,a];rfl
  all_goals split<;>rfl
 ·exact H
def Has.bZ(h:Inv S)(H:Has S id t)(p:Int):Has (S.bZ p).1 id t:=by
 unfold Cs.bZ;dsimp only;split;·exact H.same h rfl ⟨rfl,rfl⟩ ⟨rfl,rfl⟩
 ·exact H
def Has.cf(h:Inv S)(H:Has S id t)(g c5 n:Int):Has (S.cf g c5 n).1 id t:=by
 have key:∀r:Cs×Int,r.1.bz=S.bz->r.1.fr.bK=S.fr.bK/\r.1.fr.cG=S.fr.cG->r.1.sl.bK=S.sl.bK/\r.1.sl.cG=S.sl.cG->Has r.1 id t:=
  λr h1 a b=>H.same h (by rw[h1]) ⟨by rw[a.1],a.2⟩ ⟨by rw[b.1],b.2⟩
 unfold Cs.cf;split;·exact H
 split;·exact H
 split;·exact key _ rfl ⟨rfl,rfl⟩ ⟨rfl,rfl⟩
 split;·exact key _ rfl ⟨rfl,rfl⟩ ⟨rfl,rfl⟩
 split;·exact key _ rfl ⟨rfl,rfl⟩ ⟨rfl,rfl⟩
 split;·exact key _ rfl ⟨rfl,rfl⟩ ⟨rfl,rfl⟩
 split
 ·split;·exact H
  ·exact key _ rfl ⟨rfl,rfl⟩ ⟨rfl,rfl⟩
 ·exact H
def Has.act(h:Inv S)(b:S.bz.next<16777216)(H:Has S id t)(x:Act)(hx:¬ (x.b=id/\(x.k.tmod 12=7\/x.k.tmod 12=9))):Has (S.act x).1 id t:=by
 exact oY (P:=λr=>Has r.1 id t) S x (λ_=>H.bZ h _) (λ_=>H.remove h _) (λ_=>H.cf h _ _ _) (λ_=>H.fresh h b _) (λ_=>H.cD h b _ _) (λ_=>H.cb h _ _) (λ_=>H.copy h b _ _)
  (λe=>H.put h (λa=>hx ⟨a,.inl e⟩) _ _) (λ_=>H.get h _ _) (λe=>H.bX h (λa=>hx ⟨a,.inr e⟩) _) (λ_=>H.same h rfl ⟨rfl,rfl⟩ ⟨rfl,rfl⟩) (λ_=>H.outs h (rM h _ _))
def Base.trans{A B C:Cs}(h:Base A B)(k:Base B C):Base A C:=⟨k.tree.trans h.tree,k.guards.trans h.guards,k.bP.trans h.bP⟩
def Base.live(h:Base S S')(g:Int):S'.live g=S.live g:=by unfold Cs.live;rw[h.tree]
def hQ.trans{A B C:Cs}(h:hQ A B)(k:hQ B C):hQ A C:=⟨h.toBase.trans k.toBase,λx=>(k.kr x).trans (h.kr x)⟩
def hQ.of(h:Base S S')(hp:∀x,S'.bz.pg x=S.bz.pg x):hQ S S':=⟨h,λx=>by rw[hp]⟩
end Go.Kc
namespace Go.Kw
open Go Go.Kc Go.Kt
def uE(a b:Int)(l:bU):(Kc.new a b l).live 0=true:=rfl
def uF{V:Vs}(h:V.core.live 0=true):V.act ⟨3,0,0,0,0⟩=if 64<=V.procs.length then(V,.bad 3)else({V with procs:=V.procs++[(0,some Sp.new)]},⟨0,V.procs.length,[]⟩):=by
 unfold Vs.act;rw[bJ bO,bJ bO,bJ bO,bM rfl];show(if V.core.live 0=false then _ else _)=_;rw[bJ (by rw[h];decide)]
def TH{q:Rg->Bool}:∀ {l:List Rg} {x:Rg} {r:List Rg},(∀y∈l,q y=false)->q x=true->eY q (l++x::r)=l.length
 |[],x,r,_,hx=>by show eY q (x::r)=0;unfold eY;rw[bM hx]
 |y::l,x,r,h,hx=>by
  show eY q (y::(l++x::r))=_;unfold eY;rw[bJ (by rw[h y fj];decide),TH (λz a=>h z (fI _ a)) hx];rfl
def TI{x:Rg}{a b p:Int}{y:Rg}(c:y∈dX x a b)(hp:y.has p=true):a<=p/\p<b:=by
 unfold dX at c;split at c
 ·rw[iD]at c;subst c;unfold Rg.has prt at hp;simpa using hp
 ·cases c
def aKQ{l:List Rg}{a b p:Int}(hp:a<=p/\p<b):∀x∈hh l a b,x.has p=false:=by
 intro x hx;cases d:x.has p with
 |false=>rfl
 |true=>
  exfalso;unfold hh at hx;split at hx
  ·obtain⟨y,_,c⟩:=A3.1 hx;unfold fL at c;rw[cM]at c;rcases h6.1 c with c|c;·have:=TI c d;omega
   ·have:=TI c d;omega
  ·cases hx
def fK{l:List Rg}{p:Int}(h:∀x∈l,x.has p=false):kA l p=none:=by
 unfold kA;split;·rw[EB (λj y a=>h y (eu a))];exact fH (dN _)
 ·rfl
def aKh{l:List Rg}{p:Int}(f:ft 0 l=true)(h:∀x∈l,x.has p=false)(a:(ek l ⟨p,p+1,1,0,0,true⟩).2=0):kA (ek l ⟨p,p+1,1,0,0,true⟩).1 p=some ⟨p,p+1,1,0,0,true⟩:=by
 have b:=P8 (x:=⟨p,p+1,1,0,0,true⟩) f;have key:∃n,(ek l ⟨p,p+1,1,0,0,true⟩).1=l.take n++⟨p,p+1,1,0,0,true⟩::l.drop n:=by
  unfold ek at a ⊢;dsimp only at a ⊢;split at a;·cases a
  next d=>
  rw[bJ d];split at a
  ·split at a;·cases a
   ·next c=>rw[bJ c];exact⟨_,rfl⟩
  ·exact⟨_,rfl⟩
 obtain⟨n,e⟩:=key;rw[e]at b ⊢;unfold kA;rw[bM b,TH (λy g=>h y (mx g)) (by unfold Rg.has;simp;omega),fo (dN _),hG];rfl
def aKg{l:List Rg}{p:Int}(h:∀x∈l,x.has p=false)(a:(ek l ⟨p,p+1,1,0,0,true⟩).2≠0):(ek l ⟨p,p+1,1,0,0,true⟩).2=1:=by
 unfold ek at a ⊢;dsimp only at a ⊢;split at a;·next c=>rw[bM c]
 next c=>
 rw[bJ c];split at a
 ·next y d=>
  split at a
  ·next b=>
   exfalso;have hm:=eu d;have h1:=h y hm;have e:=Ab (q:=λy:Rg=>decide (p<y.b)) d;unfold Rg.has at h1;simp at h1 e;have b:y.a<p+1:=b;omega
  ·exact absurd rfl a
 ·exact absurd rfl a
def TJ{V:Vs}{pid:Int}{s s':Sp}(h:V.space pid=some s)(S:Cs):Vs.space {V.fl pid (some s')with core:=S} pid=some s':=by
 obtain⟨b,hp⟩:=AD h;have a:=(cT.1 hp).1;unfold Vs.space Vs.fl;rw[bM b];show((V.procs.set pid.toNat (V.group pid,some s'))[pid.toNat]?).bind Prod.snd=_;rw[iM a];rfl
def GG{V:Vs}{k a b c d:Int}(h:4<=k/\k<=11){s:Sp}(e:V.space a=some s):V.act ⟨k,a,b,c,d⟩=V.call s ⟨k,a,b,c,d⟩:=by
 rw[AK h];dsimp only;rw[e]
def TK{V:Vs}{k a b c d:Int}(h:4<=k/\k<=11)(e:V.space a=none):V.act ⟨k,a,b,c,d⟩=(V,.bad 2):=by
 rw[AK h];dsimp only;rw[e]
def TL{V:Vs}{pid at_:Int}{s:Sp}(a:V.space pid=some s):V.act ⟨8,pid,at_,0,0⟩=V.load pid s at_:=by
 rw[GG bO a];rfl
def aKR{s:Sp}(h:gh s)(p:Int):(s.cut p (p+1)).2.length<=1:=by
 show((s.ct.filter λq=>hv p (p+1) q.1).map _).length<=1;rw[eb];have b:=(h.ct.filter λq=>hv p (p+1) q.1).cX;have a:∀q∈s.ct.filter λq=>hv p (p+1) q.1,(q.1:Int)=p:=λq c=>by
  have:=(fO.1 c).2;unfold hv at this;simp at this;omega
 generalize (s.ct.filter λq=>hv p (p+1) q.1)=l at b a
 match l,b,a with
 |[],_,_=>exact ec _
 |[_],_,_=>exact dN _
 |x::y::r,b,a=>
  have h1:=(g5.1 b).1 y fj;have d:=a x fj;have e:=a y (fI _ fj);omega
structure Unm(V:Vs)(pid bH:Int):Prop where
 gone:V.space pid=none->V.act ⟨7,pid,1,bH,0⟩=(V,.bad 2)/\V.act ⟨8,pid,16*bH,0,0⟩=(V,.bad 2)
 has:∀s,V.space pid=some s->∃V1 V2 n,V.act ⟨7,pid,1,bH,0⟩=(V1,⟨0,n,[]⟩)/\0<=n/\n<=1/\V1.act ⟨8,pid,16*bH,0,0⟩=(V1,.bad 14)/\
  ((V1.act ⟨5,pid,1,bH,0⟩=(V2,.bad 1))\/(V1.act ⟨5,pid,1,bH,0⟩=(V2,.bad 0)/\∀i:Int,0<=i/\i<16->V2.act ⟨8,pid,16*bH+i,0,0⟩=(V2,.zero)))
def aH2{V:Vs}(h:∀(i:Nat) g s,V.procs[i]?=some (g,some s)->gh s){pid bH:Int}(hp:0<=bH/\bH<=1000):Unm V pid bH:=by
 refine⟨λc=>⟨TK bO c,TK bO c⟩,λs c=>?_⟩;have y:=(AD c).2;have m:=h _ _ _ y;have o:V.act ⟨7,pid,1,bH,0⟩=({V.fl pid (some (s.cut bH (bH+1)).1)with core:=j8 (s.cut bH (bH+1)).2 V.core},⟨0,(s.cut bH (bH+1)).2.length,[]⟩):=by
  rw[GG bO c];unfold Vs.call;dsimp only;rw[bJ bO,bJ bO,bJ bO,bM rfl,bM ⟨⟨bO,bO⟩,bA,bA⟩];rfl
 obtain⟨V1,l⟩:∃V1,({V.fl pid (some (s.cut bH (bH+1)).1)with core:=j8 (s.cut bH (bH+1)).2 V.core} :Vs)=V1:=⟨_,rfl⟩
 have j:V1.space pid=some (s.cut bH (bH+1)).1:=by rw[<- l];exact TJ c _
 rw[l]at o;have f:∀x∈(s.cut bH (bH+1)).1.dI,x.has bH=false:=aKQ (a:=bH) (b:=bH+1) ⟨e7 _,bA⟩;have v:ft 0 (s.cut bH (bH+1)).1.dI=true:=(m.cut bH (bH+1)).lH;have z:V1.act ⟨8,pid,16*bH,0,0⟩=(V1,.bad 14):=by
  rw[TL j];unfold Vs.load;dsimp only;have:(s.cut bH (bH+1)).1.dg (16*bH/16)=none:=by
   rw[show 16*bH/16=bH by omega];exact fK f
  rw[this]
 obtain⟨R,k⟩:∃R,(s.cut bH (bH+1)).1.map ⟨bH,bH+1,1,0,0,true⟩=R:=⟨_,rfl⟩
 have p:V1.act ⟨5,pid,1,bH,0⟩=(V1.fl pid (some R.1),.bad R.2):=by
  rw[GG bO j];unfold Vs.call;dsimp only;rw[bJ bO,bM rfl,bM ⟨⟨bO,bO⟩,bA,bA⟩];unfold Vs.map;rw[k]
 have d:R.2=(ek (s.cut bH (bH+1)).1.dI ⟨bH,bH+1,1,0,0,true⟩).2:=by rw[<- k];rfl
 have r:R.1.dI=(ek (s.cut bH (bH+1)).1.dI ⟨bH,bH+1,1,0,0,true⟩).1:=by rw[<- k];rfl
 have t:R.1.ct=(s.cut bH (bH+1)).1.ct:=by rw[<- k];rfl
 refine⟨V1,V1.fl pid (some R.1),_,o,bA,by have:=aKR m bH;omega,z,?_⟩;by_cases n:R.2=0
 ·refine .inr ⟨by rw[p,n],λi B=>?_⟩;have w:(V1.fl pid (some R.1)).space pid=some R.1:=TJ j _;rw[TL w];unfold Vs.load;dsimp only;have u:(16*bH+i)/16=bH:=by omega
  rw[u];have hw:R.1.dg bH=some ⟨bH,bH+1,1,0,0,true⟩:=by
   unfold Sp.dg;rw[r];exact aKh v f (by rw[<- d];exact n)
  rw[hw];dsimp only;rw[cM,bM];refine⟨?_,rfl⟩;unfold Sp.entry;rw[bM hp.1,t];cases A:ep (s.cut bH (bH+1)).1.ct bH.toNat with
  |none=>rfl
  |some e=>
   exfalso;have hm:=z1 A;have hm:(bH.toNat,e)∈s.ct.filter λq=> !hv bH (bH+1) q.1:=hm;have:=(fO.1 hm).2;unfold hv at this;simp at this;omega
 ·refine .inl ?_;rw[p,d,aKg f (by rw[<- d];exact n)]
end Go.Kw
namespace Go.Mp
open Go Go.Vc Go.Sp Go.Proofs Go.Kc Go.Kw Go.Kt
variable{E:Env}{L:ch}{w W:World}{A:At}{v:Nat}{V:Vs}
def dR:List c7:=[⟨3,0,0,0,0⟩,⟨5,0,2,0,0⟩,⟨9,0,20,7,0⟩,⟨8,0,20,0,0⟩,⟨8,0,21,0,0⟩]
def nR:(dv (Vs.new 4 4 []) dR).2.map (λa=>(a.err,a.n))= [(0,0),(0,0),(0,0),(0,7),(0,0)]:=by decide+kernel
def nS{k:Nat}{e n:Int}(h: [((0:Int),(0:Int)),(0,0),(0,0),(0,7),(0,0)][k]?=some (e,n)):∃a,(dv (Vs.new 4 4 []) dR).2[k]?=some a/\a.err=e/\a.n=n:=by
 rw[<- nR,ew]at h;cases b:(dv (Vs.new 4 4 []) dR).2[k]? with
 |none=>rw[b]at h;cases h
 |some a=>rw[b]at h;cases h;exact⟨a,rfl,rfl,rfl⟩
def xr{o:Array Obj}(h:Sep E (cy o::L) w):Calls P q3 #[] w (bW λx w'=>x=.bool true/\Sep E (cy o::L) w'):=by
 apply xo;unfold q4 qJ qL qR qU qW qg qy zL zW zw zx;refine Al.i h (λp X h1=>?_);have h1:Sep E (cy o::bE p (bQ dO dR)::L) X:=h1.swap;refine use (wY (fr:=4) (sl:=4) (sz:=⟨none,0,0⟩) (l:=[]) (ol:=⟨some ⟨p,0,none⟩,5,5⟩) (os:=dR) (L:=bE p (bQ dO dR)::L) (o:=o) ⟨rfl,λw _ i x hx=>by cases hx⟩ (dN _) (kn.gY (q:=0) (c:=5) (os:=dR) rfl) bO h1) ?_;rintro _ w2 ⟨s,rfl,g⟩;have hlen:s.n=5:=(dQ.len 0 g rfl).trans (sa dR _);obtain⟨M,G,V,_⟩:=nS (k:=2) rfl;obtain⟨a3,H,_,T⟩:=nS (k:=3) rfl;obtain⟨a4,z,W,U⟩:=nS (k:=4) rfl;generalize (dv (Vs.new 4 4 []) dR).2=u at g G H z;have g:Sep E (cy o::dQ s u::bE p (bQ dO dR)::L) w2:=g.swap;refine⟨s,rfl,oy (fr:=4) (sl:=4) (sz:=⟨none,0,0⟩) (l:=[]) ⟨rfl,λw _ i x hx=>by cases hx⟩ (dN _) g (λA v aa ho N=>⟨_,rfl,λw'=>St E A v (Vs.new 4 4 []) (dQ s u::bE p (bQ dO dR)::L) w',bF rfl (bF (by rw[hlen];rfl) N),?_⟩)⟩;intro _ Y I;refine⟨⟨p,0,none⟩,rfl,⟨bO,bO⟩,?_⟩;have m:∀j x,(bQ dO dR)[j]?=some x->Y.cell? (Addr.add ⟨p,0,none⟩ j)=some x:=λj x hx=>I.cell (k:=1) rfl hx;refine⟨_,m 0 _ rfl,_,m 1 _ rfl,_,m 2 _ rfl,_,m 3 _ rfl,_,m 4 _ rfl,?_⟩;have C:(Vs.new 4 4 []).act ⟨3,0,0,0,0⟩=({Vs.new 4 4 []with procs:=[(0,some Kw.Sp.new)]},⟨0,0,[]⟩):=by
  rw[uF (uE 4 4 [])];rfl
 refine St.gX (o:=⟨3,0,0,0,0⟩) I (fU.new 4 4 []) (by rw[sq];decide) (λZ q ab r B D n5=>?_);rw[C]at B D n5 r;dsimp only at B D n5 r;refine B.procs D (λpl K t e=>⟨pl,rfl,?_⟩);have n:=e.right;have d:∀(i:Int) (k:Nat) (a:cE) {F:Addr->Prop},i=k->u[k]?=some a->(∀a0:Addr,K.cell? (a0.add 0)=some (Iv a.err)->K.cell? (a0.add 1)=some (Iv a.n)->F a0)->cx s.p s.n i 3 F:=λi k a F R O f=>dQ.el 3 n rfl R O f;refine d 2 2 M rfl G (λx hx _=>⟨_,hx,bT (by rw[V];rfl) (d 3 3 a3 rfl H (λx _ hx=>⟨_,hx,bT (by rw[T];rfl) (d 4 4 a4 rfl z (λx _ hx=>⟨_,hx,bT (by rw[U];rfl) (d 4 4 a4 rfl z (λx hx _=>⟨_,hx,bT (by rw[W];rfl) ?_⟩))⟩))⟩))⟩);refine⟨_,e.cell (k:=1) (j:=0) rfl rfl,bT rfl (bT (by rw[t];rfl) ?_)⟩;refine kZ Pr.lJ 0 n rfl t (show(0:Int)=((0:Nat):Int)from rfl) (show _=some (⟨0,0,true⟩:Pr)from rfl) (λb _ Q=>⟨_,by rw[cj];exact Q 2 _ rfl,bT rfl ?_⟩);refine e.space (pid:=0) (λx hx=>⟨x,rfl,bT (by rw[hx];rfl) (e.space (pid:=1) (λy S=>⟨y,rfl,bT (by rw[S];rfl) (e.core ⟨_,rfl,rfl,?_⟩)⟩))⟩);have J:=e.drop;rw[ho]at J;exact J.ro 6 [0] rfl
def sC(bN bR:Int)(bP l:Sl)(w:World):Calls P nP #[Iv bN,Iv bR,Sv bP,Sv l] w
  (bW λv w'=>v=.bool (decide (bN>24)||decide (bR>24)||decide (bP.n>40)||decide (l.n>40))/\w'=w):=by
 apply sv;unfold nQ;refine eW (λh1=>⟨by rw[dh h1];rfl,rfl⟩) (λh1=>eW (λa=>⟨by rw[dh a,sP];rfl,rfl⟩) (λa=>eW (λb=>⟨by rw[dh (show bP.n>40 by omega),sP];rfl,rfl⟩) (λb=>⟨?_,rfl⟩)));rw[c4 (show ¬ bN>24 by omega),c4 (show ¬ bR>24 by omega),c4 (show ¬ bP.n>40 by omega)];simp only[uU];congr 1;simp only[pC];omega
def sD{bN bR:Int}{n m:Nat}(h:(decide (bN>24)||decide (bR>24)||decide (n>40)||decide (m>40))=false):bN<=24/\bR<=24/\n<=40/\m<=40:=by
 simp only[uI,uH]at h;omega
def aHp{bN bR pid bH:Int}{l:Sl}{os:List c7}(G:fG W l os)(h:Sep E (cy W.heap::L) w):
  Calls P oF #[Iv bN,Iv bR,Sv l,Iv pid,Iv bH] w (bW λv w'=>v=.bool true/\Sep E (cy W.heap::L) w'):=by
 apply anL;unfold TG qC qF qL qO qR qU qW qg zL zW zx;refine use (xr h) ?_;rintro _ ab ⟨rfl,h1⟩;refine⟨_,rfl,bF rfl ⟨λw'=>(l.n<=40/\0<=bH/\bH<=1000)/\Sep E (cy W.heap::L) w',use (sC bN bR ⟨none,0,0⟩ l ab) ?_,?_⟩⟩
 ·rintro _ _ ⟨rfl,rfl⟩;exact⟨_,rfl,cw (λ_=>⟨rfl,h1⟩) (λH=>cL (λ_=>⟨rfl,h1⟩) (λa=>eW (λ_=>⟨rfl,h1⟩) (λb=>⟨⟨(sD H).2.2.2,a,b⟩,h1⟩)))⟩
 rintro _ w2 ⟨⟨ak,R,t⟩,S⟩;have af:=G.1;refine Al.i S (λg ad y=>?_);have y:Sep E (cy W.heap::bE g (bD [3,3])::L) ad:=y.swap;refine oy (sz:=⟨some ⟨g,0,none⟩,2,2⟩) (l:=[3,3]) (Ints.gY (b:=g) (c:=2) (gs:=[3,3]) (q:=1) rfl) (dN _) y (λA v an ho T=>⟨_,rfl,?_⟩);refine aJf G bA ho (fU.new bN bR [3,3]) (by rw[sq];decide) T (λao z n5 F=>?_);generalize (dv (Vs.new bN bR [3,3]) os).1=U at z n5 F;have hu:=aH2 z.sp (pid:=pid) (bH:=bH) ⟨R,t⟩;have C:i64.wrap (16*bH)=16*bH:=cH bA bA;have fin:∀ {V':Vs} {L':ch} {w':World},St E A v V' (L'++(bE g (bD [3,3])::L)) w'->Sep E (cy W.heap::L) w':=λ{V' L' w'} X=>by
  have d:=X.drop;rw[ho]at d;have e:Sep E ([cy W.heap]++(L'++(bE g (bD [3,3])::L))) w':=d;have m:=e.perm (L':=L'++([cy W.heap]++(bE g (bD [3,3])::L))) (kH _ _ _);exact m.right.swap.tail
 refine F.gX (o:=⟨7,pid,1,bH,0⟩) z bA (λJ Z ap _ V Y n6=>?_);rw[C];refine V.gX (o:=⟨8,pid,16*bH,0,0⟩) Y bA (λK p2 aq _ d r n7=>?_);cases I:U.space pid with
 |none=>
  obtain⟨u,x⟩:=hu.gone I;rw[u]at d;dsimp only at d;rw[x]at d;refine⟨_,d.cell (k:=2) (j:=0) rfl rfl,bT rfl (bT rfl ⟨_,d.cell (k:=2) (j:=0) rfl rfl,bT rfl ⟨_,d.cell (k:=0) (j:=0) rfl rfl,rfl,fin (L':=[_,_,_,_]) d⟩⟩)⟩
 |some s=>
  obtain⟨V1,V2,n,u,Q,D,x,p⟩:=hu.has s I;rw[u]at d r n7 n6;dsimp only at d r n7 n6;rw[x]at d r n7;dsimp only at d r n7;refine⟨_,d.cell (k:=2) (j:=0) rfl rfl,bF rfl ?_⟩;refine d.gX (o:=⟨5,pid,1,bH,0⟩) r bA (λM aa ar _ e B n8=>?_);rcases p with p|⟨p,N⟩
  ·rw[p]at e;dsimp only at e;refine⟨_,e.cell (k:=0) (j:=0) rfl rfl,bT rfl (bT rfl ⟨_,e.cell (k:=4) (j:=1) rfl rfl,bT (dh D) ⟨_,e.cell (k:=2) (j:=0) rfl rfl,bT rfl ⟨_,e.cell (k:=0) (j:=0) rfl rfl,rfl,fin (L':=[_,_,_,_,_,_]) e⟩⟩⟩)⟩
  ·rw[p]at e B n8;dsimp only at e B n8;refine⟨_,e.cell (k:=0) (j:=0) rfl rfl,bF rfl ?_⟩;refine⟨λi w'=>∃k:Nat,i=k/\k<=16/\St E A v V2 (bE aa (dC (.bad 0) M)::bC M 1 (bD [])::bE p2 (dC (.bad 14) K)::bC K 1 (bD [])::bE Z (dC ⟨0,n,[]⟩ J)::bC J 1 (bD [])::bE g (bD [3,3])::L) w',λi _=>(16-i).toNat,⟨0,rfl,bO,e⟩,?_⟩;rintro _ _ au ⟨k,rfl,aj,m⟩;refine cL (λag=>?_) (λae=>?_)
   ·have O:i64.wrap (16*bH+(k:Int))=16*bH+k:=cH bA bA;rw[O];refine m.gX (o:=⟨8,pid,16*bH+k,0,0⟩) B bA (λal am ai _ f ah n10=>?_);rw[N k ⟨bA,bA⟩]at f;dsimp only at f;refine⟨_,f.cell (k:=0) (j:=0) rfl rfl,bF rfl ⟨_,f.cell (k:=0) (j:=1) rfl rfl,bF rfl ?_⟩⟩;rw[c1];exact⟨⟨k+1,rfl,bA,f.tail.tail⟩,by show((16:Int)-((k+1:Nat):Int)).toNat<((16:Int)-(k:Int)).toNat;omega⟩
   ·refine bT rfl ⟨_,m.cell (k:=4) (j:=1) rfl rfl,bT (dh Q) ⟨_,m.cell (k:=4) (j:=1) rfl rfl,bT (dh D) ⟨_,m.cell (k:=2) (j:=0) rfl rfl,rfl,fin (L':=[_,_,_,_,_,_]) m⟩⟩⟩
end Go.Mp
namespace Go.Proofs.YtafigbgagbolgaaGreatDoor
open Go Go.Vc Go.Sp Go.Mp Go.RowKit Go.ChangeShapes
def az5(os:Os)(started:os.Started)(H:Type)(enc:TypeId×Value->H):
  ReturnsInHanded {} kX os oF .any (λw args=>(Rows.vmUnmapSpec.pre enc P m4 [] false w args/\laidMetH P ih w)/\sizedMet enc P m4 (OpenSpec.ofChange Rows.vmUnmapSpec) false w args) (Rows.vmUnmapSpec.post enc P m4 false true false false):=by
 refine w1 (C:=kX) (tb:=vv) (X:=λw=>laidMetH P ih w) (λ_ _ m h=>h.of_heap m) own started cr GD
  (ChangeSpec.witness_shaped (enc:=enc) (C:=kX) (os:=os) (X:=λw _=>laidMetH P ih w) false (World.laidAll P os ih) #[.int .i64 0,.int .i64 0,.slice none 0 0,.int .i64 0,.int .i64 0] 8 (World.laidAll_os _ _ _) (World.shaped_of_ZipB cr cr) cr cr cr (w4 os _))
  laidOut cr cr rfl cr ?_ ?_
 ·intro g gs j k
  match g,gs,j,k with
  |[d0,d1,d2,d3,d4],[],_,_=>rfl
 ·intro W base args b a _ hx;have hw:=w5 hx;obtain⟨p,q,r,t,u,rfl⟩:=GA b;have a0:=a 0 _ _ rfl rfl;have d:=a 1 _ _ rfl rfl;have e:=a 2 _ _ rfl rfl;have a3:=a 3 _ _ rfl rfl;have a4:=a 4 _ _ rfl rfl;obtain⟨f,rfl,hf⟩:=mZ a0;obtain⟨s,rfl,o⟩:=mZ d;obtain⟨l,xs,rfl,i⟩:=q1 e;obtain⟨pid,rfl,n⟩:=mZ a3;obtain⟨bH,rfl,c⟩:=mZ a4;refine use (aHp i hw) ?_;rintro v w' ⟨rfl,h⟩;exact⟨_,rfl,rfl,w6 h⟩
def TM:Tryz.pinned.checked.prog.funcNamed Rows.vmUnmapRow.func=some oF:=by kernel_rfl
def aGh:sc P m4 Rows.vmUnmapSpec Rows.vmUnmapRow=true:=by kernel_rfl
def aGi:sd P oF Rows.vmUnmapRow=true:=by kernel_rfl
def aGj:se P oF Rows.vmUnmapRow=true:=by kernel_rfl
def aGk:sf P oF Rows.vmUnmapRow=true:=by kernel_rfl
def aGl:si P oF Rows.vmUnmapRow=true:=by kernel_rfl
def aGm:sj P m4 Rows.vmUnmapSpec Rows.vmUnmapRow=true:=by kernel_rfl
def aGn:sk P m4 Rows.vmUnmapSpec Rows.vmUnmapRow=true:=by kernel_rfl
def aGo:sm P Rows.vmUnmapRow=true:=by kernel_rfl
def aGp:sn P m4 Rows.vmUnmapSpec Rows.vmUnmapRow=true:=by kernel_rfl
def aBe:Rows.VmUnmapSaid:=
 OpenClaim.holds_of_wide oF m4 rfl rfl rfl rfl rfl rfl rfl ⟨rfl,rfl,rfl,rfl,rfl⟩ rfl rfl rfl rfl rfl TM GD
  (w3 aGh aGi aGj aGk aGl aGm aGn aGo aGp)
  (jL cr) (by unfold Func.isWrapper;rw[bJ (by decide+kernel)];exact⟨rfl,rfl⟩)
  (λos started H enc _=>az5 os started H enc)
def aGq:Rows.vmUnmapRow.wfByText (OpenSpec.ofChange Rows.vmUnmapSpec)=true:=by kernel_rfl
def aDJ:Tryz.pinned.checked.prog.mainIs=some (true, "6dae9ca1e3fae822e43264ec614d78dc4c2fe72aea56ab24750a95019e43a27c".toList):=by kernel_rfl
def aBf:false=Tryz.pinned.checked.prog.looks []:=by kernel_rfl
def aDI:false=Rows.vmUnmapRow.goesBy Tryz.pinned.checked.prog:=by kernel_rfl
def aBg:(m4.params.toList.all λu=> !P.wantsStandIn u)=true:=by kernel_rfl
def vmUnmap_card:Rows.VmUnmapCardSaid:=
 Claim7.holds_tied_plain_at .later [] [.data] true (true, "6dae9ca1e3fae822e43264ec614d78dc4c2fe72aea56ab24750a95019e43a27c") false
  aBe (λ_ h=>by cases h) aGq (λ_ h=>by cases h) vmUnmap_row_tie rfl ⟨rfl,rfl⟩ aDJ rfl
  (λf fn hf a=>by
   obtain rfl:f=oF:=cQ (TM.symm.trans hf) |>.symm;obtain rfl:fn=m4:=(cQ (GD.symm.trans a)).symm;refine⟨aBf,λj t b=>?_⟩;have hm:t∈m4.params.toList:=by simpa using ku b
   exact(show P.wantsStandIn t=false by simpa using fB.1 aBg t hm))
  aDI
end Go.Proofs.YtafigbgagbolgaaGreatDoor
