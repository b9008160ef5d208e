/- Vm: Two machines do the same, by the same script; c5 one does changes nothing of the other one: the law answers true and lets its arguments be; for every input. -/
import Derived.Test.YtafigbgagbolgaaGreatDoorC15
import Derived.Test.YtafigbgagbolgaaGreatDoorProg
import Derived.Test.YtafigbgagbolgaaGreatDoorChecked
import Derived.ProofKit
import Derived.OpenVars
import Derived.LaidMore
import Derived.Lay
import Derived.OpenShut
import Derived.Stop.LaidErr
import Derived.Lib.LaidTab
import Derived.SevenTiedAt
import Derived.Test.YtafigbgagbolgaaGreatDoorRows
import Derived.Test.YtafigbgagbolgaaGreatDoorTie
import Derived.Test.YtafigbgagbolgaaGreatDoorCards
set_option linter.all false
set_option maxRecDepth 100000
open Go.IntKind(i64 u64)
namespace Go.Mp
open Go Go.Vc
abbrev lk:TypeId:=23
abbrev nO:TypeId:=37
abbrev oD:FuncId:=6
abbrev nP:FuncId:=16
abbrev q3:FuncId:=22
abbrev Tx:FuncId:=25
noncomputable abbrev m2:Func:=Go.Proofs.Tryz.f6
def Gz:P.funcs[oD]?=some m2:=Go.Proofs.Tryz.func6
def zw(w:World)(g:Addr->bh6):Prop:=Al (.cells #[Iv 3,Iv 0,Iv 0,Iv 0,Iv 0,Iv 5,Iv 0,Iv 2,Iv 0,Iv 0,Iv 9,Iv 0,Iv 20,Iv 7,Iv 0,Iv 8,Iv 0,Iv 20,Iv 0,Iv 0,Iv 8,Iv 0,Iv 21,Iv 0,Iv 0] 37) g w
end Go.Mp
namespace Go.Sp
open Go Go.Vc Go.RowKit Go.ChangeShapes
section
variable{P:Program}{W:World}{t:TypeId}{cs:List Value}
def Rd.bool(h:Rd P W t cs)(a:P.underlying t=some .bool):∃b,cs= [.bool b]:=by
 obtain⟨H,enc,fuel,x,h⟩:=h;obtain⟨n,h1,_⟩:=DataW.trod_bool a h;exact⟨n,h1⟩
def Rd.str(h:Rd P W t cs)(b:P.underlying t=some .string):∃s,cs= [.string s]/\s.size<=maxLen:=by
 obtain⟨H,enc,fuel,x,h⟩:=h;obtain⟨s,h1,_,a⟩:=DataW.trod_string b h;exact⟨s,h1,a⟩
def Rd.struct{fs:Array Field}(h:Rd P W t cs)(d:P.underlying t=some (.struct fs)):cs.length=P.cellsOf t/\
  ∀(i:Nat) (f:Field),fs[i]?=some f->Rd P W f.type ((cs.drop f.offset).take (P.cellsOf f.type)):=by
 obtain⟨H,enc,fuel,x,h⟩:=h;obtain⟨xs,n,rfl,rfl,c,hx,hf⟩:=DataW.trod_struct d h;refine⟨c,λi f a=>?_⟩;have b:i<xs.length:=by
  rw[hx];rcases gS i fs.size with h' | h';·exact h'
  ·simp[h']at a
 have:=hf i f a;rw[dD b]at this;exact⟨H,enc,n,_,this⟩
def Rd.fF{e:TypeId}{v:Value}(h:Rd P W t [v])(d:P.underlying t=some (.slice e)):∃(p:cg) (n c:Nat),v=.slice p n c/\n<=c/\c<=maxLen/\
  ∀i,i<n->∃a es,p=some a/\es.length=P.cellsOf e/\(∀j,j<P.cellsOf e->W.cell? ((a.add (i*P.cellsOf e)).add j)=es[j]?)/\Rd P W e es:=by
 obtain⟨p,n,c,h1,b⟩:=h.slice d;exact⟨p,n,c,by simpa using h1,b⟩
end
section
variable{H:Type}{enc:TypeId×Value->H}{P:Program}
end
end Go.Sp
namespace Go.Sp
open Go Go.Vc
def hC(P:Program)(a:TypeId->Option (List TypeId)):List Field->Nat->Option (List TypeId)
 |[],_=>some []
 |f::fs,o=>match Nat.beq f.offset o,a f.type with
  |true,some l=>match Nat.beq (P.cellsOf f.type) l.length with
   |true=>match hC P a fs (o+l.length)with
    |some r=>some (l++r)
    |none=>none
   |false=>none
  |_,_=>none
def hD(P:Program):Nat->TypeId->Option (List TypeId)
 |0,_=>none
 |d+1,t=>match P.underlying t with
  |some (.struct fs)=>match hC P (hD P d) fs.toList 0 with
   |some l=>match Nat.beq (P.cellsOf t) l.length with
    |true=>some l
    |false=>none
   |none=>none
  |some (.int _)=>some [t]
  |some .bool=>some [t]
  |some .string=>some [t]
  |some (.slice _)=>some [t]
  |_=>none
section
variable{P:Program}{W:World}
def g4(P:Program)(W:World):List TypeId->List Value->Prop
 |[],[]=>True
 |t::ts,v::vs=>Rd P W t [v]/\g4 P W ts vs
 |_,_=>False
def g4.append:∀ {ts us:List TypeId} {vs xs:List Value},g4 P W ts vs->g4 P W us xs->g4 P W (ts++us) (vs++xs)
 |[],_,[],_,_,h=>h
 |_::_,_,_::_,_,⟨h1,a⟩,h=>⟨h1,a.append h⟩
 |[],_,_::_,_,h,_=>h.elim
 |_::_,_,[],_,h,_=>h.elim
def Rd.leaves:∀(d:Nat) {t:TypeId} {ts:List TypeId} {cs:List Value},hD P d t=some ts->Rd P W t cs->g4 P W ts cs:=by
 intro d;induction d with
 |zero=>intro t ts cs h;simp[hD]at h
 |succ d I=>
  intro t ts cs h j;unfold hD at h;cases hu:P.underlying t with
  |none=>simp[hu]at h
  |some x=>
   cases x<;>simp only[hu]at h<;>try (simp at h;done)
   case bool=>
    simp only[eF]at h;subst h;obtain⟨b,rfl⟩:=j.bool hu;exact⟨j,trivial⟩
   case int k=>
    simp only[eF]at h;subst h;obtain⟨b,rfl,_⟩:=j.int hu;exact⟨j,trivial⟩
   case string=>
    simp only[eF]at h;subst h;obtain⟨b,rfl,_⟩:=j.str hu;exact⟨j,trivial⟩
   case slice e=>
    simp only[eF]at h;subst h;obtain⟨p,n,c,rfl,_⟩:=j.slice hu;exact⟨j,trivial⟩
   case struct fs=>
    cases q:hC P (hD P d) fs.toList 0 with
    |none=>simp[q]at h
    |some l=>
     simp only[q]at h;split at h
     ·next C=>
      simp only[eF]at h;subst h;obtain⟨hlen,w⟩:=j.struct hu;rw[je C]at hlen;have key:∀(m:List Field) (o:Nat) (l:List TypeId),hC P (hD P d) m o=some l->(∀f∈m,Rd P W f.type ((cs.drop f.offset).take (P.cellsOf f.type)))->cs.length=o+l.length->g4 P W l (cs.drop o):=by
       intro m;induction m with
       |nil=>
        intro o l a _ u;simp only[hC,eF]at a;subst a;rw[jJ (by simpa using Ho u)];trivial
       |cons f m D=>
        intro o l a s u;unfold hC at a;split at a
        ·next v ho y=>
         split at a
         ·next H=>
          split at a
          ·next r B=>
           simp only[eF]at a;subst a;have A:=je ho;have z:=je H;have h1:=s f (by simp);rw[A,z]at h1;have E:=I y h1;have F:=D (o+v.length) r B (λg q=>s g (by simp[q])) (by rw[u,da];omega);have e:cs.drop o=(cs.drop o).take v.length++cs.drop (o+v.length):=by
            rw[<- n0,fA]
           rw[e];exact E.append F
          ·simp at a
         ·simp at a
        ·simp at a
      have:=key fs.toList 0 l q (λf hf=>by
       obtain⟨i,G,rfl⟩:=h5.1 hf;exact w i _ (by simp at G ⊢)) (by simpa using hlen)
      simpa using this
     ·simp at h
end
end Go.Sp
namespace Go.Sp
open Go Go.Vc
variable{E:Env}{L:ch}{w W:World}{P:Program}
def g0.nil:g0 w ⟨none,0,0⟩ []:=⟨rfl,λi x h=>by simp at h⟩
end Go.Sp
namespace Go.Mp
open Go Go.Vc Go.Proofs
variable{K:bh7}{w:World}
variable(K w)
def Ty(bN bR:Int)(bP l m:Sl):=
 qF q3 #[] w λd o=>cond (!d) (K (.bool false) o) (qg (λae=>qF nP #[Iv bN,Iv bR,Sv bP,Sv l] o λag j=>cond ag (K (.bool d) j) (cond (decide (((m.n:Nat):Int)>40)) (K (.bool d) j) (ae j))) λaf=>qR acl #[Iv bN,Iv bR,Sv bP] af λx p=>qR acl #[Iv bN,Iv bR,Sv bP] p λy q=>qR acl #[Iv bN,Iv bR,Sv bP] q λz r=>qO 0 r λk i23 a=>cond (decide (i23<((l.n:Nat):Int))) (qW l i23 5 λa24=>zL a a24 λA B C D E=>zx iz #[Pv x,.agg #[Iv A,Iv B,Iv C,Iv D,Iv E]] a λF G H s=>zW s λf t=>qU [Iv F,Iv G,Sv H] f t λb=>qg (λe=>cond (decide (i23<((m.n:Nat):Int))) (qW m i23 5 λa41=>zL b a41 λI J L M N=>zx iz #[Pv z,.agg #[Iv I,Iv J,Iv L,Iv M,Iv N]] b λah ai aj u=>e u) (e b)) λh=>qW l i23 5 λn=>zL h n λO P Q R S=>zx iz #[Pv y,.agg #[Iv O,Iv P,Iv Q,Iv R,Iv S]] h λT U V v=>zW v λg cH=>qU [Iv T,Iv U,Sv V] g cH λc=>zI c f λW X Y=>zI c g λZ aa ab=>qF Tx #[.agg #[Iv W,Iv X,Sv Y],.agg #[Iv Z,Iv aa,Sv ab]] c λad i=>cond (!ad) (K (.bool false) i) ((k (i64.wrap (i23+1)) i))) (K (.bool d) a))
def nQ(bN bR:Int)(bP l:Sl):=
 cond (decide (bN>24)) (K (.bool true) w) (cond (decide (bR>24)) (K (.bool true) w) (cond (decide (((bP.n:Nat):Int)>40)) (K (.bool true) w) (K (.bool (decide (((l.n:Nat):Int)>40))) w)))
def q4:=
 zw w λm w2=>qJ tz #[Iv 4,Iv 4,.slice none 0 0,.slice (some m) 5 5] w2 λc L=>qR acl #[Iv 4,Iv 4,.slice none 0 0] L λb i=>qg (λJ=>cond b.isNone (K (.bool false) i) (cond (((c.n:Nat):Int) !=5) (K (.bool false) i) (J i))) λe=>cx (some m) 5 0 5 λj=>zL e j λr s t u v=>zx iz #[Pv b,.agg #[Iv r,Iv s,Iv t,Iv u,Iv v]] e λx y z n=>zW n λd o=>qU [Iv x,Iv y,Sv z] d o λp=>qJ o1 #[Pv b] p λh a=>qW c 2 3 λa29=>qL a a29 0 λA=>cond (A==0) (qW c 3 3 λk=>qL a k 1 λB=>cond (B==7) (qW c 4 3 λa33=>qL a a33 1 λC=>cond (C==0) (qW c 4 3 λa35=>qL a a35 0 λD=>cond (D==0) (qL a d 0 λE=>cond (E==0) (cond (((h.n:Nat):Int)==1) (qW h 0 3 λl=>qy a l 2 λF=>cond F (qR nA #[Pv b,Iv 0] a λG f=>cond (!G.isNone) (qR nA #[Pv b,Iv 1] f λH g=>cond H.isNone (qR rO #[Pv b] g λI q=>K (.bool (!I.isNone)) q) (K (.bool false) g)) (K (.bool false) f)) (K (.bool false) a)) (K (.bool false) a)) (K (.bool false) a)) (K (.bool false) a)) (K (.bool false) a)) (K (.bool false) a)) (K (.bool false) a)
def Tz(g h:Int)(i:Sl)(j k:Int)(l:Sl):=
 Al (.cells #[Iv g,Iv h,Sv i] 33) (λc w2=>Al (.cells #[Iv j,Iv k,Sv l] 33) (λe a=>qg (λv=>qL a c 0 λy=>qL a e 0 λz=>cond (y !=z) (K (.bool false) a) (qL a c 1 λm=>qL a e 1 λn=>cond (m !=n) (K (.bool false) a) (qK a c 2 λo=>qK a e 2 λp=>cond (((o.n:Nat):Int) !=((p.n:Nat):Int)) (K (.bool false) a) (v a)))) λx=>qO 0 x λf i18 d=>qK d c 2 λq=>cond (decide (i18<((q.n:Nat):Int))) (Dr (λb=>qK b c 2 λr=>qW r i18 1 λa22=>qD b a22 λs=>qK b e 2 λt=>qW t i18 1 λa25=>qD b a25 λu=>cond (s !=u) (K (.bool false) b) ((f (i64.wrap (i18+1)) b))) d) (K (.bool true) d)) w2) w
variable{K w}
def aoq(bN bR bP l m)(h:Ty K w bN bR bP l m):=bL (z8 [29,30,47,48,50,59,60] [] [(10,[(15,jZ)])] [(6,[]),(15,[])]) #[Iv bN,Iv bR,Sv bP,Sv l,Sv m] K w Tryz.func6 h
def sv(bN bR bP l)(h:nQ K w bN bR bP l):=bL (z8 [10,13,17,18,22,23]) #[Iv bN,Iv bR,Sv bP,Sv l] K w Tryz.func16 h
def xo(h:q4 K w):=bL (z8 [16,19,20,33,39,46,53,58,62,63,74,79,84] [] [] [(6,[])]) #[] K w Tryz.func22 h
def ap1(a b c d e f)(h:Tz K w a b c d e f):=bL {(z8 [10,16,21,24,25,30,31,33,44] [] [(4,[(5,jZ)])] [(3,[])]:dS)with head:=λr=>(bif r==6 then 11 else 0)} #[.agg #[Iv a,Iv b,Sv c],.agg #[Iv d,Iv e,Sv f]] K w Tryz.func25 h
end Go.Mp
namespace Go.Mp
open Go Go.Vc Go.Sp Go.Proofs Go.Kc Go.Kw Go.Kt
variable{E:Env}{L:ch}{w W:World}{A:At}{v:Nat}{V:Vs}
def ll{a:Addr}{x:Value}(h:St E A v V L w)(ho:A.o=W.heap)(b:W.cell? a=some x):w.cell? a=some x:=by
 have:=h.drop;rw[ho]at this;exact nN (q:=0) this rfl b
def dC(a:cE)(b:Sl):List Value:=[Iv a.err,Iv a.n,Sv b]
def St.gX(h:St E A v V L w)(m:fU V)(n:V.core.bz.next+66<16777216)(o:c7){T:TypeId}{F:Int->Int->Sl->Addr->bh6}(k:∀(a:Sl) p w',a.n=(V.act o).2.bI.length->St E A v (V.act o).1 (bE p (dC (V.act o).2 a)::bC a 1 (bD (V.act o).2.bI)::L) w'->fU (V.act o).1->(V.act o).1.core.bz.next<=V.core.bz.next+66->F (V.act o).2.err (V.act o).2.n a ⟨p,0,none⟩ w'):
  Calls P iz #[Pb v,.agg (dO o).toArray] w λe d=>∃x:Int,∃y:Int,∃s:Sl,e=.returned (.agg #[Iv x,Iv y,Sv s])/\
   Al (.cells #[Iv 0,Iv 0,.slice none 0 0] T) (λp w2=>jt [Iv x,Iv y,Sv s] p (λb=>F x y s p b) w2) d:=by
 refine h.qS m n o (λa d c h1 q t=>⟨_,_,a,rfl,?_⟩);obtain⟨gs,us,r,ps,f,g,i⟩:=h1;refine Al.i i (λp w2 j=>eh _ j rfl (λb l=>k a p b c ⟨gs,us,r,ps,f,g,Vm.eA l⟩ q t))
def fG(W:World)(l:Sl)(os:List c7):Prop:=l.n=os.length/\∀(i:Nat) o,os[i]?=some o->∃a,l.p=some a/\∀(j:Nat) x,(dO o)[j]?=some x->W.cell? ((a.add (i*5)).add j)=some x
def St.op{l:Sl}{os:List c7}(b:fG W l os)(ho:A.o=W.heap)(h:St E A v V L w){k:Nat}{o:c7}(c:os[k]?=some o){F:Addr->Prop}(f:∀a,(∀(j:Nat) x,(dO o)[j]?=some x->∀ {V':Vs} {L':ch} {w':World},St E A v V' L' w'->w'.cell? (a.add j)=some x)->F a):cx l.p l.n (k:Int) 5 F:=by
 obtain⟨a,hp,d⟩:=b.2 k o c;have g:=(cT.1 c).1;have e:=b.1;refine⟨a,hp,⟨bA,bA⟩,?_⟩;rw[dk];exact f _ (λj x hx V' L' w' h'=>ll h' ho (d j x hx))
def St.procs(h:St E A v V L w)(m:fU V){K:Ending->bh6}(k:∀(l:Sl) w',l.n=V.pr.length->St E A v V (jd l V.pr::L) w'->K (.returned (Sv l)) w'):Calls P o1 #[Pb v] w K:=by
 obtain⟨gs,us,r,ps,h1,a,d⟩:=h;have fq:=AM m a;refine use (AH (AL m a) h1 bA d) ?_;rintro _ w' ⟨l,rfl,c,b⟩;have e:(plain ps).map fV=V.pr:=by rw[a,AG]
 rw[e]at c b;exact k l w' c ⟨gs,us,r,ps,h1,a,b⟩
def St.space{pid:Int}(h:St E A v V L w){K:Ending->bh6}(k:∀x:cg,x.isNone=(V.space pid).isNone->K (.returned (.pointer x)) w):Calls P nA #[Pb v,Iv pid] w K:=by
 obtain⟨gs,us,r,ps,h1,b,e⟩:=h;have c:(⟨V.core,plain ps⟩:Vs)=V:=by cases V;dsimp only at b;rw[b]
 refine use (AF (pid:=pid) h1 e) ?_;rintro _ w' ⟨f,rfl⟩;rcases f with⟨i,a,g,s,rfl,j,rfl⟩|⟨d,rfl⟩
 ·refine k _ ?_;have:=(jS (V:=⟨V.core,plain ps⟩) (ig j)).1;rw[c]at this;rw[this];rfl
 ·refine k _ ?_;rw[c]at d;rw[d];rfl
end Go.Mp
namespace Go.Mp
open Go Go.Vc Go.Sp Go.Proofs Go.Kc
def oA{α:Type}{n:Nat}{R:Nat->α->Prop}(h:∀i,i<n->∃x,R i x):∃l:List α,l.length=n/\∀i x,l[i]?=some x->R i x:=by
 induction n with
 |zero=>exact⟨[],rfl,λi x hx=>by simp at hx⟩
 |succ n f=>
  obtain⟨l,b,e⟩:=f (λi c=>h i bA);obtain⟨x,hx⟩:=h n bA;refine⟨l++[x],by simp[b],λi y a=>?_⟩;rcases gS i n with c|c;·rw[eE bA]at a;exact e i y a
  ·have d:=(cT.1 a).1;have:i=n:=by simp[b]at d;omega
   subst this;rw[fo bA,b,hG]at a;rw[<- cQ a];exact hx
end Go.Mp
namespace Go.Mp
open Go Go.Vc Go.Sp Go.Proofs Go.Kc Go.Kw
def sx{W:World}{v:Value}(h:Rd P W lk [v]):∃(l:Sl) (xs:List c7),v=Sv l/\fG W l xs:=by
 obtain⟨p,n,c,rfl,_,_,q⟩:=h.fF (e:=nO) cr;have key:∀i,i<n->∃x:c7,∃a,p=some a/\∀(j:Nat) v,(dO x)[j]?=some v->W.cell? ((a.add (i*5)).add j)=some v:=by
  intro i m;obtain⟨a,es,rfl,b,d,r⟩:=q i m;have o:P.cellsOf nO=5:=by kernel_rfl
  rw[o]at d b;have hf:=r.leaves 3 (ts:=[tv,hb,hb,hb,hb]) cr
  match es,b,hf with
  |[v0,v1,v2,v3,v4],_,⟨s,t,u,w,y,_⟩=>
  obtain⟨k,rfl,_⟩:=s.e1 (k:=.i64) cr;obtain⟨z,rfl,_⟩:=t.e1 (k:=.i64) cr;obtain⟨A,rfl,_⟩:=u.e1 (k:=.i64) cr;obtain⟨B,rfl,_⟩:=w.e1 (k:=.i64) cr;obtain⟨C,rfl,_⟩:=y.e1 (k:=.i64) cr;refine⟨⟨k,z,A,B,C⟩,a,rfl,λj v f=>?_⟩;have g:j<5:=(cT.1 f).1;rw[d j g];exact f
 obtain⟨xs,b,hx⟩:=oA key;exact⟨⟨p,n,c⟩,xs,rfl,b.symm,hx⟩
end Go.Mp
namespace Go.Proofs.YtafigbgagbolgaaGreatDoor
open Go Go.Vc Go.Sp Go.Mp Go.RowKit Go.ChangeShapes
def GA{α:Type}{a:Array α}(h:a.size=5):∃b c d e f,a= #[b,c,d,e,f]:=by
 obtain⟨l⟩:=a
 match l,h with
 |[b,c,d,e,f],_=>exact⟨b,c,d,e,f,rfl⟩
def oB{t:TypeId}{W:World}{base:Nat}{v:Value}(b:dW P t=some false)(h:Rd P W t v.cells.toList/\Value.okWide P W .any base t v):Rd P W t [v]:=by
 obtain⟨h1,a⟩:=h;rw[vO a b]at h1;exact h1
def q1{W:World}{base:Nat}{v:Value}(h:Rd P W lk v.cells.toList/\Value.okWide P W .any base lk v):∃(l:Sl) (xs:List Kw.c7),v=.slice l.p l.n l.c/\fG W l xs:=
 sx (oB cr h)
end Go.Proofs.YtafigbgagbolgaaGreatDoor
namespace Go.Kc
open Go Go.Kt Go.Sp
variable{S:Cs}
namespace By
variable{n:Nat}{X t:List UInt8}{i j:Int}
def xp{a:Int}{b:UInt8}(f:0<=i)(g:0<=j)(d:i≠j):rd n (pt n X i a b).1 j=rd n X j:=by
 unfold rd;by_cases hp:pg n j
 ·rw[bM hp,bM hp];congr 1;unfold pt;split
  ·next e=>
   apply g6;intro k;by_cases c:k<16;·rw[ob c,ob c,h4 bA]
   ·rw[fH (by unfold gN;simp;omega),fH (by unfold gN;simp;omega)]
  ·rfl
 ·rw[bJ hp,bJ hp]
end By
def Has.lt(h:Inv0 S){id:Int}{t:List UInt8}(H:Has S id t):id<S.bz.next:=by
 obtain⟨p,hp,_⟩:=H;exact(h.ct.ids _ _ hp).2
variable{S':Cs}{id:Int}{t:List UInt8}
def Has.outs(H:Has S id t)(h:Inv S)(ho:et S S'):Has S' id t:=by
 induction ho with
 |refl S=>exact H
 |step hp h1 a _ b=>exact b (Has.dx h H hp h1 (AP h hp h1 a)) (h.out hp h1)
def Has.gB(h:Inv S)(H:Has S id t){a:Nat}(k:S.fr.bK[a]?=some false){text:List UInt8}(f:S'.bz.pg id=S.bz.pg id)(g:S'.fr.bK.length=S.fr.bK.length)(d:S'.fr.cG=(By.wr S.fr.bK.length S.fr.cG a text).1)(i:∀p,S.bz.pg id=some p->p.place=2->By.rd S'.sl.bK.length S'.sl.cG p.at_=By.rd S.sl.bK.length S.sl.cG p.at_):Has S' id t:=by
 refine H.dX h (λp hp _ _=>⟨p,by rw[f];exact hp,rfl,rfl,rfl,rfl⟩) (λp hp e=>?_) i;have b:=(h.ct.pl _ _ hp).1.2.2.1;have c:=(uC h.fr hp e b).2;rw[g,d];exact By.w7 h.fr.len bA b (λj=>by rw[<- j,dk,k]at c;cases c)
def Has.cN(h:Inv S)(i:S.bz.next<16777216)(H:Has S id t){g:Int}(f:S.live g=true)(text:List UInt8):Has (S.cN g text).1 id t:=by
 rcases rH h i f text with⟨S0,a,k,he,_,c⟩|⟨S0,j,k,he⟩
 ·have e:=k.outs.inv h;have d:=H.outs h k.outs;have b:id≠S.bz.next:=by have:=H.lt h.toInv0;omega
  refine d.gB e k.free (text:=text) (by rw[c,bJ b]) ?_ ?_ (λp _ _=>?_);·rw[he];show(S0.fr.bK.set a true).length=_;rw[dA]
  ·rw[he];show(By.wr (S0.fr.bK.set a true).length S0.fr.cG a text).1=_;rw[dA]
  ·rw[he];rfl
 ·rw[he];exact H.outs h k.outs
def Has.fresh(h:Inv S)(b:S.bz.next<16777216)(H:Has S id t)(g:Int):Has (S.fresh g).1 id t:=by
 unfold Cs.fresh;split;·exact H
 ·next a=>exact H.cN h b (by simpa using a) _
def Has.copy(h:Inv S)(c:S.bz.next<16777216)(H:Has S id t)(x g:Int):Has (S.copy x g).1 id t:=by
 unfold Cs.copy;dsimp only;split;·exact H
 ·next a=>
  have a:S.live g=true:=by
   cases b:S.live g with
   |true=>rfl
   |false=>exact absurd (.inr (.inl b)) a
  exact H.cN h c a _
def Has.brought(h:Inv S)(H:Has S id t){x o:Int}{p:Pg}{S0:Cs}{a:Nat}{r:Cs×Int×Int}(hp:S.bz.pg x=some p)(h1:p.place≠1)(b:ya S S0 x p o a r):Has r.1 id t:=by
 have c:=b.took.outs.inv h;have f:=H.outs h b.took.outs;have u:=(cT.1 b.took.free).1;by_cases hx:id=x
 ·subst hx;obtain⟨v,d,i,m,s⟩:=f;rw[b.bH]at d;cases d;refine⟨{p with owner:=o,place:=1,at_:=(a:Int)},by rw[b.pg,bM rfl],i,m,?_⟩;rw[uB rfl,b.cG,b.bK,dA,By.AN c.fr.len ⟨bA,bA⟩ (Has.len c ⟨p,b.bH,i,m,rfl⟩)];exact s
 ·refine f.gB c b.took.free (text:=S0.text p) (by rw[b.pg,bJ hx]) (by rw[b.bK,dA]) b.cG (λq k e=>?_);rw[b.sl];by_cases g:p.place=2
  ·rw[bM g];have l:=(c.ct.pl _ _ k).1.2.2.1;have j:=(c.ct.pl _ _ b.bH).1.2.2.1;exact ox rfl c.sl.len j l (λn=>hx (c.ct.one b.bH k bA bA n.symm))
  ·rw[bJ g]
def Has.cb(h:Inv S)(H:Has S id t)(x g:Int):Has (S.cb x g).1 id t:=by
 by_cases c:S.bz.pg x=none\/S.live g=false\/∃p,S.bz.pg x=some p/\p.place=0/\p.kf<0;·rw[og h.toInv0 c];exact H
 ·obtain⟨p,hp⟩:∃p,S.bz.pg x=some p:=by
   cases i:S.bz.pg x with
   |none=>exact absurd (.inl i) c
   |some p=>exact⟨p,rfl⟩
  have d:S.live g=true:=by
   cases f:S.live g with
   |true=>rfl
   |false=>exact absurd (.inr (.inl f)) c
  by_cases h1:p.place=1
  ·rw[tn h.toInv0 hp h1 d];exact H.same h rfl ⟨rfl,rfl⟩ ⟨rfl,rfl⟩
  ·rcases rI h.toInv0 h.anon hp d (λe=>c (.inr (.inr ⟨p,hp,e⟩))) h1 with⟨S0,a,b,_⟩|⟨S0,j,b,he⟩
   ·exact H.brought h hp h1 b
   ·rw[he];exact H.outs h b.outs
end Go.Kc
namespace Go.Kc
open Go Go.Kt Go.Sp
variable{S S':Cs}{id:Int}{t:List UInt8}{T:Cs}{g:Int}
def Has.cD(h:Inv S)(r:S.bz.next<16777216)(H:Has S id t)(k:Int×Int)(g:Int):Has (S.cD k g).1 id t:=by
 unfold Cs.cD;dsimp only;split;·exact H
 ·next n=>
  have w:S.live g=true:=by
   cases a:S.live g with
   |true=>rfl
   |false=>exact absurd (.inr a) n
  have hf:ed S.files k=true:=by
   cases a:ed S.files k with
   |true=>rfl
   |false=>exact absurd (.inl a) n
  by_cases hm:S.bz.of k<0
  ·rw[dh hm];simp only[fP];obtain⟨kf,ki⟩:=k;have i:=rJ hf;have b:=oe S.bz (kf:=kf) (ki:=ki) (o:=g) ⟨h.ct.next,r⟩ (.inr hm);rw[show(S.bz.make kf ki g).2.1=S.bz.next by rw[b.1]];have v:=h.toInv0.make r (kf:=kf) (ki:=ki) w (.inr ⟨hm,hf⟩);have j:fX S.bz kf ki=(kf,ki):=by unfold fX;rw[bJ (by have:0<=kf:=i;omega)]
   have d:∀x p,(S.bz.make kf ki g).1.pg x=some p->p.kf<0->p.place≠0:=by
    intro x q e c;rw[b.2.2]at e;split at e
    ·rw[<- cQ e,j]at c;have:kf<0:=c;have:0<=kf:=i;omega
    ·exact h.anon _ _ e c
   have m:Inv {S with bz:=(S.bz.make kf ki g).1} :=⟨v,d⟩
   have f:id≠S.bz.next:=by have:=H.lt h.toInv0;omega
   have s:Has {S with bz:=(S.bz.make kf ki g).1} id t:=H.same h (by show(S.bz.make kf ki g).1.pg id=_;rw[b.2.2,bJ f]) ⟨rfl,rfl⟩ ⟨rfl,rfl⟩;have l:=s.cb m S.bz.next g;have u:=m.cb S.bz.next g;split;·exact l
   ·refine l.same u ?_ ⟨rfl,rfl⟩ ⟨rfl,rfl⟩;show(TS.drop _ _).1.pg id=_;unfold TS.drop;split;·rfl
    ·split;·rfl
     ·exact c9 _ _ f
  ·rw[c4 hm];simp only[kK,gq];have:=H.cb h (S.bz.of k) g;split<;>exact this
def xq{x:Int}(a:(S.here x).2=true):∃p,S.bz.pg x=some p/\p.place=1/\(S.here x).1=p.at_:=by
 unfold Cs.here TS.get at a;cases hp:S.bz.pg x with
 |none=>rw[hp]at a;simp at a
 |some p=>
  rw[hp]at a;refine⟨p,rfl,by simpa using a,?_⟩;unfold Cs.here TS.get;rw[hp]
def Has.put(h:Inv S)(H:Has S id t){x:Int}(hx:x≠id)(a:Int)(b:UInt8):Has (S.put x a b).1 id t:=by
 unfold Cs.put;dsimp only;split;·exact H
 ·next d=>
  have d:(S.here x).2=true:=by simpa using d
  obtain⟨p,hp,h1,he⟩:=xq d;split
  ·have f:=(h.ct.pl _ _ hp).1.2.2.1;refine H.dX h (λq c _ _=>⟨q,?_,rfl,rfl,rfl,rfl⟩) (λq c e=>?_) (λq _ _=>rfl)
   ·show(S.bz.mark x true).1.pg id=_;rw[(od _ _ _).2.2.2,c];show some (if id=x then _ else q)=_;rw[bJ (λe=>hx e.symm)]
   ·have g:=(h.ct.pl _ _ c).1.2.2.1;show By.rd S.fr.bK.length (By.pt S.fr.bK.length S.fr.cG (S.here x).1 a b).1 q.at_=_;rw[he];exact By.xp f g (λi=>hx (h.ct.one c hp bA bA i))
  ·exact H
def Has.bX(h:Inv S)(H:Has S id t){x:Int}(hx:x≠id)(n:Int):Has (S.bX x n).1 id t:=by
 rcases rK h x n with⟨_,he⟩|⟨p,hp,⟨_,he⟩|⟨_,_,he⟩|⟨_,_,_,_,_,g,_,_,f,i,_⟩⟩
 ·rw[he];exact H
 ·rw[he];exact H
 ·rw[he];exact H.same h (c9 _ _ (λe=>hx e.symm)) ⟨rfl,rfl⟩ ⟨rfl,rfl⟩
 ·have c:=(h.ct.pl _ _ hp).1.2.2.1;refine H.dX h (λq a _ _=>⟨q,by rw[g,bJ (λe=>hx e.symm)];exact a,rfl,rfl,rfl,rfl⟩) (λq a e=>?_) (λq a e=>?_)
  ·rw[f];by_cases b:p.place=1
   ·rw[bM b];exact ox rfl h.fr.len c (h.ct.pl _ _ a).1.2.2.1 (λd=>hx (h.ct.one a hp bA bA d))
   ·rw[bJ b]
  ·rw[i];by_cases b:p.place=2
   ·rw[bM b];exact ox rfl h.sl.len c (h.ct.pl _ _ a).1.2.2.1 (λd=>hx (h.ct.one a hp bA bA d))
   ·rw[bJ b]
def Has.remove(h:Inv S)(H:Has S id t)(g:Int):Has (S.remove g).1 id t:=by
 unfold Cs.remove;dsimp only;split
 ·refine H.dX h (λq a _ _=>⟨if q.owner=g then {q with owner:=lT S.tree g} else q,?_,?_,?_,?_,?_⟩) (λq _ _=>rfl) (λq _ _=>rfl)
  ·show(S.bz.dq (S.bz.ee g) (lT S.tree g)).pg id=_;rw[tp h.ct,a];rfl
  all_goals split<;>rfl
 ·exact H
def Has.bZ(h:Inv S)(H:Has S id t)(p:Int):Has (S.bZ p).1 id t:=by
 unfold Cs.bZ;dsimp only;split;·exact H.same h rfl ⟨rfl,rfl⟩ ⟨rfl,rfl⟩
 ·exact H
def Has.cf(h:Inv S)(H:Has S id t)(g c5 n:Int):Has (S.cf g c5 n).1 id t:=by
 have key:∀r:Cs×Int,r.1.bz=S.bz->r.1.fr.bK=S.fr.bK/\r.1.fr.cG=S.fr.cG->r.1.sl.bK=S.sl.bK/\r.1.sl.cG=S.sl.cG->Has r.1 id t:=
  λr h1 a b=>H.same h (by rw[h1]) ⟨by rw[a.1],a.2⟩ ⟨by rw[b.1],b.2⟩
 unfold Cs.cf;split;·exact H
 split;·exact H
 split;·exact key _ rfl ⟨rfl,rfl⟩ ⟨rfl,rfl⟩
 split;·exact key _ rfl ⟨rfl,rfl⟩ ⟨rfl,rfl⟩
 split;·exact key _ rfl ⟨rfl,rfl⟩ ⟨rfl,rfl⟩
 split;·exact key _ rfl ⟨rfl,rfl⟩ ⟨rfl,rfl⟩
 split
 ·split;·exact H
  ·exact key _ rfl ⟨rfl,rfl⟩ ⟨rfl,rfl⟩
 ·exact H
def Has.act(h:Inv S)(b:S.bz.next<16777216)(H:Has S id t)(x:Act)(hx:¬ (x.b=id/\(x.k.tmod 12=7\/x.k.tmod 12=9))):Has (S.act x).1 id t:=by
 exact oY (P:=λr=>Has r.1 id t) S x (λ_=>H.bZ h _) (λ_=>H.remove h _) (λ_=>H.cf h _ _ _) (λ_=>H.fresh h b _) (λ_=>H.cD h b _ _) (λ_=>H.cb h _ _) (λ_=>H.copy h b _ _)
  (λe=>H.put h (λa=>hx ⟨a,.inl e⟩) _ _) (λ_=>H.get h _ _) (λe=>H.bX h (λa=>hx ⟨a,.inr e⟩) _) (λ_=>H.same h rfl ⟨rfl,rfl⟩ ⟨rfl,rfl⟩) (λ_=>H.outs h (rM h _ _))
def Base.trans{A B C:Cs}(h:Base A B)(k:Base B C):Base A C:=⟨k.tree.trans h.tree,k.guards.trans h.guards,k.bP.trans h.bP⟩
def Base.live(h:Base S S')(g:Int):S'.live g=S.live g:=by unfold Cs.live;rw[h.tree]
def hQ.trans{A B C:Cs}(h:hQ A B)(k:hQ B C):hQ A C:=⟨h.toBase.trans k.toBase,λx=>(k.kr x).trans (h.kr x)⟩
def hQ.of(h:Base S S')(hp:∀x,S'.bz.pg x=S.bz.pg x):hQ S S':=⟨h,λx=>by rw[hp]⟩
end Go.Kc
namespace Go.Kw
open Go Go.Kc Go.Kt
def uE(a b:Int)(l:bU):(Kc.new a b l).live 0=true:=rfl
def uF{V:Vs}(h:V.core.live 0=true):V.act ⟨3,0,0,0,0⟩=if 64<=V.procs.length then(V,.bad 3)else({V with procs:=V.procs++[(0,some Sp.new)]},⟨0,V.procs.length,[]⟩):=by
 unfold Vs.act;rw[bJ bO,bJ bO,bJ bO,bM rfl];show(if V.core.live 0=false then _ else _)=_;rw[bJ (by rw[h];decide)]
end Go.Kw
namespace Go.Mp
open Go Go.Vc Go.Sp Go.Proofs Go.Kc Go.Kw Go.Kt
variable{E:Env}{L:ch}{w W:World}{A:At}{v:Nat}{V:Vs}
def dR:List c7:=[⟨3,0,0,0,0⟩,⟨5,0,2,0,0⟩,⟨9,0,20,7,0⟩,⟨8,0,20,0,0⟩,⟨8,0,21,0,0⟩]
def nR:(dv (Vs.new 4 4 []) dR).2.map (λa=>(a.err,a.n))= [(0,0),(0,0),(0,0),(0,7),(0,0)]:=by decide+kernel
def nS{k:Nat}{e n:Int}(h: [((0:Int),(0:Int)),(0,0),(0,0),(0,7),(0,0)][k]?=some (e,n)):∃a,(dv (Vs.new 4 4 []) dR).2[k]?=some a/\a.err=e/\a.n=n:=by
 rw[<- nR,ew]at h;cases b:(dv (Vs.new 4 4 []) dR).2[k]? with
 |none=>rw[b]at h;cases h
 |some a=>rw[b]at h;cases h;exact⟨a,rfl,rfl,rfl⟩
def xr{o:Array Obj}(h:Sep E (cy o::L) w):Calls P q3 #[] w (bW λx w'=>x=.bool true/\Sep E (cy o::L) w'):=by
 apply xo;unfold q4 qJ qL qR qU qW qg qy zL zW zw zx;refine Al.i h (λp X h1=>?_);have h1:Sep E (cy o::bE p (bQ dO dR)::L) X:=h1.swap;refine use (wY (fr:=4) (sl:=4) (sz:=⟨none,0,0⟩) (l:=[]) (ol:=⟨some ⟨p,0,none⟩,5,5⟩) (os:=dR) (L:=bE p (bQ dO dR)::L) (o:=o) ⟨rfl,λw _ i x hx=>by cases hx⟩ (dN _) (kn.gY (q:=0) (c:=5) (os:=dR) rfl) bO h1) ?_;rintro _ w2 ⟨s,rfl,g⟩;have hlen:s.n=5:=(dQ.len 0 g rfl).trans (sa dR _);obtain⟨M,G,V,_⟩:=nS (k:=2) rfl;obtain⟨a3,H,_,T⟩:=nS (k:=3) rfl;obtain⟨a4,z,W,U⟩:=nS (k:=4) rfl;generalize (dv (Vs.new 4 4 []) dR).2=u at g G H z;have g:Sep E (cy o::dQ s u::bE p (bQ dO dR)::L) w2:=g.swap;refine⟨s,rfl,oy (fr:=4) (sl:=4) (sz:=⟨none,0,0⟩) (l:=[]) ⟨rfl,λw _ i x hx=>by cases hx⟩ (dN _) g (λA v aa ho N=>⟨_,rfl,λw'=>St E A v (Vs.new 4 4 []) (dQ s u::bE p (bQ dO dR)::L) w',bF rfl (bF (by rw[hlen];rfl) N),?_⟩)⟩;intro _ Y I;refine⟨⟨p,0,none⟩,rfl,⟨bO,bO⟩,?_⟩;have m:∀j x,(bQ dO dR)[j]?=some x->Y.cell? (Addr.add ⟨p,0,none⟩ j)=some x:=λj x hx=>I.cell (k:=1) rfl hx;refine⟨_,m 0 _ rfl,_,m 1 _ rfl,_,m 2 _ rfl,_,m 3 _ rfl,_,m 4 _ rfl,?_⟩;have C:(Vs.new 4 4 []).act ⟨3,0,0,0,0⟩=({Vs.new 4 4 []with procs:=[(0,some Kw.Sp.new)]},⟨0,0,[]⟩):=by
  rw[uF (uE 4 4 [])];rfl
 refine St.gX (o:=⟨3,0,0,0,0⟩) I (fU.new 4 4 []) (by rw[sq];decide) (λZ q ab r B D n5=>?_);rw[C]at B D n5 r;dsimp only at B D n5 r;refine B.procs D (λpl K t e=>⟨pl,rfl,?_⟩);have n:=e.right;have d:∀(i:Int) (k:Nat) (a:cE) {F:Addr->Prop},i=k->u[k]?=some a->(∀a0:Addr,K.cell? (a0.add 0)=some (Iv a.err)->K.cell? (a0.add 1)=some (Iv a.n)->F a0)->cx s.p s.n i 3 F:=λi k a F R O f=>dQ.el 3 n rfl R O f;refine d 2 2 M rfl G (λx hx _=>⟨_,hx,bT (by rw[V];rfl) (d 3 3 a3 rfl H (λx _ hx=>⟨_,hx,bT (by rw[T];rfl) (d 4 4 a4 rfl z (λx _ hx=>⟨_,hx,bT (by rw[U];rfl) (d 4 4 a4 rfl z (λx hx _=>⟨_,hx,bT (by rw[W];rfl) ?_⟩))⟩))⟩))⟩);refine⟨_,e.cell (k:=1) (j:=0) rfl rfl,bT rfl (bT (by rw[t];rfl) ?_)⟩;refine kZ Pr.lJ 0 n rfl t (show(0:Int)=((0:Nat):Int)from rfl) (show _=some (⟨0,0,true⟩:Pr)from rfl) (λb _ Q=>⟨_,by rw[cj];exact Q 2 _ rfl,bT rfl ?_⟩);refine e.space (pid:=0) (λx hx=>⟨x,rfl,bT (by rw[hx];rfl) (e.space (pid:=1) (λy S=>⟨y,rfl,bT (by rw[S];rfl) (e.core ⟨_,rfl,rfl,?_⟩)⟩))⟩);have J:=e.drop;rw[ho]at J;exact J.ro 6 [0] rfl
def sC(bN bR:Int)(bP l:Sl)(w:World):Calls P nP #[Iv bN,Iv bR,Sv bP,Sv l] w
  (bW λv w'=>v=.bool (decide (bN>24)||decide (bR>24)||decide (bP.n>40)||decide (l.n>40))/\w'=w):=by
 apply sv;unfold nQ;refine eW (λh1=>⟨by rw[dh h1];rfl,rfl⟩) (λh1=>eW (λa=>⟨by rw[dh a,sP];rfl,rfl⟩) (λa=>eW (λb=>⟨by rw[dh (show bP.n>40 by omega),sP];rfl,rfl⟩) (λb=>⟨?_,rfl⟩)));rw[c4 (show ¬ bN>24 by omega),c4 (show ¬ bR>24 by omega),c4 (show ¬ bP.n>40 by omega)];simp only[uU];congr 1;simp only[pC];omega
end Go.Mp
namespace Go.Mp
open Go Go.Vc Go.Sp Go.Proofs Go.Kc
variable{E:Env}{L:ch}{w:World}{A:At}{S:Cs}
def xm{W:World}{v:Value}(h:Rd P W jB [v]):∃(s:Sl) (l:bU),v=Sv s/\qT W s l:=by
 obtain⟨p,n,c,rfl,j,_,o⟩:=h.fF (e:=hb) cr;have key:∀i,i<n->∃x:Int,∃a,p=some a/\W.cell? (a.add i)=some (Iv x):=by
  intro i g;obtain⟨a,es,rfl,b,f,d⟩:=o i g;have m:P.cellsOf hb=1:=by kernel_rfl
  rw[m]at f b
  match es,b,d with
  |[v0],_,d=>
  obtain⟨k,rfl,_⟩:=d.e1 (k:=.i64) cr;refine⟨k,a,rfl,?_⟩;have:=f 0 bA;rw[fC,Addr.add,Addr.add]at this;simpa[Addr.add]using this
 obtain⟨xs,b,hx⟩:=oA key;exact⟨⟨p,n,c⟩,xs,rfl,b.symm,j,hx⟩
end Go.Mp
namespace Go.Mp
open Go Go.Vc Go.Sp Go.Proofs Go.Kc Go.Kw Go.Kt
variable{E:Env}{L:ch}{w W:World}{A:At}{v:Nat}{V:Vs}
def sD{bN bR:Int}{n m:Nat}(h:(decide (bN>24)||decide (bR>24)||decide (n>40)||decide (m>40))=false):bN<=24/\bR<=24/\n<=40/\m<=40:=by
 simp only[uI,uH]at h;omega
end Go.Mp
namespace Go.Kw
open Go Go.Kc Go.Kt
def aIX{V:Vs}(h:V.procs.length<=64)(t:Int):(dead V t).length<=64:=by
 have e:V.pr.length=V.procs.length:=eb _;unfold dead lz;dsimp only;split;·exact ec _
 ·split;·show 1<=64;decide
  ·refine mD (wR _ _ _) ?_;omega
def TA{f:Cs->Int->Cs×Int×Int×Int}{pid:Int}:∀(n:Nat) (V:Vs) (o:cE),V.procs.length<=64->(fy f pid n V o).2.1.bI.length<=o.bI.length+n*64
 |0,V,o,_=>by rw[n1];exact dN _
 |n+1,V,o,h=>by
  rw[uy];dsimp only;generalize f V.core (V.group pid)=r;have b:=aIX (V:={V with core:=r.1}) h r.2.2.1;rw[xC];split;·dsimp only;omega
  split;·dsimp only;omega
  generalize dead {V with core:=r.1} r.2.2.1=d at b;split;·dsimp only;rw[da];omega
  split;·dsimp only;rw[da];omega
  have a:(Vs.ej {V with core:=r.1} d).procs.length<=64:=by rw[(r6 d {V with core:=r.1}).2.1.len];exact h
  have:=TA (f:=f) (pid:=pid) n (Vs.ej {V with core:=r.1} d) {o with bI:=o.bI++d} a;dsimp only at this;rw[da]at this;omega
def xt{f:Cs->Int->Cs×Int×Int×Int}{pid:Int}{V:Vs}(h:V.procs.length<=64):(V.eQ f pid .zero).2.1.bI.length<=10000:=by
 have:=TA (f:=f) (pid:=pid) (V.procs.length+1) V .zero h;have e:cE.zero.bI.length=0:=rfl;unfold Vs.eQ;have:(V.procs.length+1)*64<=65*64:=kv _ bA;omega
def TB{V:Vs}(h:V.procs.length<=64)(pid p:Int)(s:Sp)(x:Rg):(V.there pid p s x .zero).2.1.bI.length<=10000:=by
 unfold Vs.there Vs.cb;split;·exact xt h
 ·dsimp only;split<;>exact xt h
def aK4{V:Vs}(h:V.procs.length<=64)(pid p:Int)(s:Sp):(V.own pid p s .zero).2.1.bI.length<=10000:=by
 unfold Vs.own Vs.cb;split
 ·dsimp only;split;·exact xt h
  ·split<;>exact xt h
 ·dsimp only;split<;>exact xt h
def aJe{V:Vs}(h:V.procs.length<=64)(pid:Int)(s:Sp)(b:Int):(V.load pid s b).2.bI.length<=10000:=by
 unfold Vs.load;dsimp only;split;·exact ec _
 split;·exact ec _
 split;·exact ec _
 split<;>exact TB h _ _ _ _
def aHZ{V:Vs}(h:V.procs.length<=64)(pid:Int)(s:Sp)(b c:Int):(V.store pid s b c).2.bI.length<=10000:=by
 unfold Vs.store;dsimp only;split;·exact ec _
 split;·exact ec _
 split;·exact ec _
 split;·exact ec _
 next x _ _ _=>
 have a:(if x.kind=2 then V.there pid (b/16) s x .zero else V.own pid (b/16) s .zero).2.1.bI.length<=10000:=by
  split;·exact TB h _ _ _ _
  ·exact aK4 h _ _ _
 generalize (if x.kind=2 then V.there pid (b/16) s x .zero else V.own pid (b/16) s .zero)=r at a;split<;>exact a
def aKd{V:Vs}(h:V.procs.length<=64)(o:c7):(V.act o).2.bI.length<=10000:=by
 unfold Vs.act;dsimp only;repeat' split
 all_goals first|exact ec _|skip
 unfold Vs.call;dsimp only;split;·split<;>exact ec _
 split;·split<;>exact ec _
 split
 ·split;·split<;>exact ec _
  ·exact ec _
 split;·split<;>exact ec _
 split;·exact aJe h _ _ _
 split;·exact aHZ h _ _ _ _
 split;·split<;>exact ec _
 exact ec _
end Go.Kw
namespace Go.Mp
open Go Go.Vc Go.Sp Go.Proofs Go.Kc Go.Kw Go.Kt
def aFR{V:Vs}(m:fU V)(o:c7):(V.act o).2.bI.length<=10000:=aKd m.fq o
variable{E:Env}{L:ch}{w W:World}{A:At}{v:Nat}{V:Vs}
def aLQ{e n:Int}{s1 s2:Sl}{ks:bU}(p q2:Nat)(h1:L[p]?=some (bC s1 1 (bD ks)))(q:L[q2]?=some (bC s2 1 (bD ks)))(s:s1.n=ks.length)(t:s2.n=ks.length)(C:ks.length<1000000)(h:Sep E L w):
  Calls P Tx #[.agg #[Iv e,Iv n,Sv s1],.agg #[Iv e,Iv n,Sv s2]] w (bW λv w'=>v=.bool true/\Sep E L w'):=by
 apply ap1;unfold Tz qD qK qL qO qW qg;refine Al.i h (λl G u=>Al.i u (λp2 w2 d=>?_));have g:∀ {w':World},Sep E (bE p2 [Iv e,Iv n,Sv s2]::bE l [Iv e,Iv n,Sv s1]::L) w'->∀(j:Nat) x,[Value.int .i64 e,Iv n,Sv s1][j]?=some x->w'.cell? (Addr.add ⟨l,0,none⟩ j)=some x:=λc j x hx=>by rw[cj,c.cellAt 1 rfl,e5];exact hx
 have m:∀ {w':World},Sep E (bE p2 [Iv e,Iv n,Sv s2]::bE l [Iv e,Iv n,Sv s1]::L) w'->∀(j:Nat) x,[Value.int .i64 e,Iv n,Sv s2][j]?=some x->w'.cell? (Addr.add ⟨p2,0,none⟩ j)=some x:=λc j x hx=>by rw[cj,c.cellAt 0 rfl,e5];exact hx
 refine⟨λw'=>Sep E (bE p2 [Iv e,Iv n,Sv s2]::bE l [Iv e,Iv n,Sv s1]::L) w',⟨_,g d 0 _ rfl,_,m d 0 _ rfl,gV (λc=>absurd rfl c) (λ_=>⟨_,g d 1 _ rfl,_,m d 1 _ rfl,gV (λc=>absurd rfl c) (λ_=>⟨s1,g d 2 _ rfl,s2,m d 2 _ rfl,gV (λc=>absurd (by rw[s,t]) c) (λ_=>d)⟩)⟩)⟩,?_⟩;intro _ H y;refine⟨λi w'=>∃k:Nat,i=k/\k<=ks.length/\Sep E (bE p2 [Iv e,Iv n,Sv s2]::bE l [Iv e,Iv n,Sv s1]::L) w',λi _=>(ks.length-i).toNat,⟨0,rfl,ec _,y⟩,?_⟩;rintro _ _ I ⟨k,rfl,D,o⟩;refine⟨s1,g o 2 _ rfl,cL (λB=>?_) (λA=>⟨rfl,o.tail.tail⟩)⟩;obtain⟨x,hx⟩:∃x,ks[k]?=some x:=⟨_,dL⟩
 refine Dr.i o (λJ f=>⟨s1,g f 2 _ rfl,?_⟩);have F:ks.getD k 0=x:=by rw[dK,hx];rfl
 refine rT (p+2) f (by simpa using h1) s bA bA (λa z=>⟨_,z (p+2) f (by simpa using h1),s2,m f 2 _ rfl,?_⟩);refine rT (q2+2) f (by simpa using q) t bA bA (λb r=>⟨_,r (q2+2) f (by simpa using q),gV (λc=>absurd rfl c) (λ_=>?_)⟩);rw[c1];refine⟨⟨k+1,rfl,bA,f⟩,?_⟩;show(((ks.length:Nat):Int)-((k+1:Nat):Int)).toNat<(((ks.length:Nat):Int)-(k:Int)).toNat;omega
def GB(A:At)(v:Nat)(r:Sl)(S:Cs)(ps:PS):ch:=(cd A S).take 15++(bE v [Pb A.c,Sv r]::bC r 2 (bQ gJ ps)::ps.map g2)
def Is(A:At)(v:Nat)(V:Vs)(M:ch):Prop:=∃(gs us r:Sl) (ps:PS),r.n=ps.length/\plain ps=V.procs/\M=GB {A with gs:=gs,us:=us} v r V.core ps
def TC{r:Sl}{S:Cs}{ps:PS}:(Vm A v r S ps L).Perm (cy A.o::(GB A v r S ps++L)):=by
 have h:Vm A v r S ps L=(cd A S).take 15++(cy A.o::((bE v [Pb A.c,Sv r]::bC r 2 (bQ gJ ps)::ps.map g2)++L)):=rfl;rw[h];unfold GB;rw[dc];exact il
def St.to(h:St E A v V L w):∃M,Is A v V M/\Sep E (cy A.o::(M++L)) w:=by
 obtain⟨gs,us,r,ps,h1,a,b⟩:=h;exact⟨_,⟨gs,us,r,ps,h1,a,rfl⟩,b.perm TC⟩
def Is.st{M:ch}(b:Is A v V M)(h:Sep E (cy A.o::(M++L)) w):St E A v V L w:=by
 obtain⟨gs,us,r,ps,h1,a,rfl⟩:=b;exact⟨gs,us,r,ps,h1,a,h.perm (TC (A:={A with gs:=gs,us:=us})).symm⟩
def kO{M N:ch}{T:Asn}(h:Sep E (T::(M++(N++L))) w):Sep E (T::(N++(M++L))) w:=h.perm (List.Perm.cons _ (kH _ _ _))
def aJb{bN bR:Int}{sz l m:Sl}{zs:bU}{os ms:List c7}(J:qT W sz zs)(V:fG W l os)(ao:fG W m ms)(h:Sep E (cy W.heap::L) w):
  Calls P oD #[Iv bN,Iv bR,Sv sz,Sv l,Sv m] w (bW λv w'=>v=.bool true/\Sep E (cy W.heap::L) w'):=by
 apply aoq;unfold Ty qF qO qR qU qW qg zI zL zW zx;refine use (xr h) ?_;rintro _ aR ⟨rfl,h1⟩;refine⟨_,rfl,bF rfl ⟨λw'=>(l.n<=40/\m.n<=40)/\Sep E (cy W.heap::L) w',use (sC bN bR sz l aR) ?_,?_⟩⟩
 ·rintro _ _ ⟨rfl,rfl⟩;exact⟨_,rfl,cw (λ_=>⟨rfl,h1⟩) (λaq=>eW (λ_=>⟨rfl,h1⟩) (λb=>⟨⟨(sD aq).2.2.2,bA⟩,h1⟩))⟩
 rintro _ w2 ⟨⟨a0,hm⟩,aL⟩;have aU:=V.1;have aW:=ao.1;have aA:=sq bN bR zs;have au:=fU.new bN bR zs;refine oy (sz:=sz) (l:=zs) (J.ints (q:=0) rfl) J.2.1 aL (λA a a3 F ag=>⟨_,rfl,?_⟩);obtain⟨aF,i1,af⟩:=ag.to;rw[F]at af;refine oy (sz:=sz) (l:=zs) (J.ints (q:=0) rfl) J.2.1 af (λB b a4 G ai=>⟨_,rfl,?_⟩);obtain⟨M2,i2,ah⟩:=ai.to;rw[G]at ah;refine oy (sz:=sz) (l:=zs) (J.ints (q:=0) rfl) J.2.1 ah (λC c a5 H ak=>⟨_,rfl,?_⟩);obtain⟨aG,i3,aj⟩:=ak.to;rw[H]at aj;generalize aY:Vs.new bN bR zs=T at*
 refine⟨λi w'=>∃(k:Nat) (X Y:Vs) (u r t:ch),i=k/\k<=os.length/\Is A a X u/\Is B b X r/\Is C c Y t/\fU X/\fU Y/\X.core.bz.next<=66*k/\Y.core.bz.next<=66*k/\Sep E (cy W.heap::(t++(r++(u++L)))) w',λi _=>(os.length-i).toNat,
  ⟨0,T,T,aF,M2,aG,rfl,ec _,i1,i2,i3,au,au,by rw[aA];decide,by rw[aA];decide,aj⟩,?_⟩
 rintro _ _ aC ⟨k,X,Y,u,r,t,rfl,aZ,aM,aN,ar,aa,aw,a1,a2,al⟩;refine cL (λaV=>?_) (λaS=>⟨rfl,?_⟩)
 ·obtain⟨o,ho⟩:∃o,os[k]?=some o:=⟨_,dL⟩
  have am:Sep E (cy A.o::(u++((t++r)++L))) aC:=by rw[F];exact kO (M:=t++r) (N:=u) (L:=L) (by rw[dc];exact al)
  have s1:=aM.st am;refine s1.op V F ho (λx hx=>⟨_,hx 0 _ rfl s1,_,hx 1 _ rfl s1,_,hx 2 _ rfl s1,_,hx 3 _ rfl s1,_,hx 4 _ rfl s1,?_⟩);have aO:=aFR aa o;refine s1.gX (o:=o) aa bA (λd n aD R y U ax=>?_);obtain⟨e,aB,y⟩:=y.to;rw[F]at y;obtain⟨Z,Q⟩:∃Z,X.act o=Z:=⟨_,rfl⟩
  rw[Q]at y U ax aB R aO;refine⟨λw'=>∃(K:Vs) (f:ch),Is C c K f/\fU K/\K.core.bz.next<=66*k+66/\Sep E (cy W.heap::(f++(r++(e++(bE n (dC Z.2 d)::bC d 1 (bD Z.2.bI)::L))))) w',?_,?_⟩
  ·have I:Sep E (cy W.heap::(t++(r++(e++(bE n (dC Z.2 d)::bC d 1 (bD Z.2.bI)::L))))) aD:=by
    have z:Sep E (cy W.heap::(e++([bE n (dC Z.2 d),bC d 1 (bD Z.2.bI)]++((t++r)++L)))) aD:=y;refine z.perm (List.Perm.cons _ ?_);rw[<- dc,<- dc t,show e++(bE n (dC Z.2 d)::bC d 1 (bD Z.2.bI)::L)=(e++[bE n (dC Z.2 d),bC d 1 (bD Z.2.bI)])++L by simp];exact kH _ _ _
   refine cL (λaT=>?_) (λ_=>⟨Y,t,ar,aw,bA,I⟩);obtain⟨aP,ap⟩:∃o,ms[k]?=some o:=⟨_,dL⟩
   have D:=ar.st (L:=r++(e++(bE n (dC Z.2 d)::bC d 1 (bD Z.2.bI)::L))) (by rw[H];exact I);refine D.op ao H ap (λx hx=>⟨_,hx 0 _ rfl D,_,hx 1 _ rfl D,_,hx 2 _ rfl D,_,hx 3 _ rfl D,_,hx 4 _ rfl D,?_⟩);refine D.qS aw bA aP (λg aE _ p O az=>⟨_,_,g,rfl,?_⟩);obtain⟨f,ab,p⟩:=p.tail.to;rw[H]at p;exact⟨_,f,ab,O,bA,p⟩
  ·rintro _ aE ⟨K,f,ab,O,az,I⟩;have an:Sep E (cy B.o::(r++(f++(e++(bE n (dC Z.2 d)::bC d 1 (bD Z.2.bI)::L))))) aE:=by rw[G];exact kO I
   have s2:=aN.st an;refine s2.op V G ho (λx hx=>⟨_,hx 0 _ rfl s2,_,hx 1 _ rfl s2,_,hx 2 _ rfl s2,_,hx 3 _ rfl s2,_,hx 4 _ rfl s2,?_⟩);refine s2.gX (o:=o) aa bA (λg p2 ad S z av ay=>?_);rw[Q]at z S av ay;obtain⟨s,aQ,z⟩:=z.to;rw[G]at z;have p:Sep E (bE n (dC Z.2 d)::bC d 1 (bD Z.2.bI)::bE p2 (dC Z.2 g)::bC g 1 (bD Z.2.bI)::cy W.heap::(f++(s++(e++L)))) ad:=by
    refine z.perm ?_;have aJ:cy W.heap::(s++(bE p2 (dC Z.2 g)::bC g 1 (bD Z.2.bI)::(f++(e++(bE n (dC Z.2 d)::bC d 1 (bD Z.2.bI)::L)))))=(cy W.heap::s)++([bE p2 (dC Z.2 g),bC g 1 (bD Z.2.bI)]++((f++e)++([bE n (dC Z.2 d),bC d 1 (bD Z.2.bI)]++L))):=by simp
    have aK:bE n (dC Z.2 d)::bC d 1 (bD Z.2.bI)::bE p2 (dC Z.2 g)::bC g 1 (bD Z.2.bI)::cy W.heap::(f++(s++(e++L)))= [bE n (dC Z.2 d),bC d 1 (bD Z.2.bI)]++([bE p2 (dC Z.2 g),bC g 1 (bD Z.2.bI)]++([cy W.heap]++(f++(s++(e++L))))):=rfl;rw[aJ,aK];have aH:((cy W.heap::s)++([bE p2 (dC Z.2 g),bC g 1 (bD Z.2.bI)]++((f++e)++([bE n (dC Z.2 d),bC d 1 (bD Z.2.bI)]++L)))).Perm ([bE p2 (dC Z.2 g),bC g 1 (bD Z.2.bI)]++((cy W.heap::s)++((f++e)++([bE n (dC Z.2 d),bC d 1 (bD Z.2.bI)]++L)))):=kH _ _ _;have aI:((cy W.heap::s)++((f++e)++([bE n (dC Z.2 d),bC d 1 (bD Z.2.bI)]++L))).Perm ([bE n (dC Z.2 d),bC d 1 (bD Z.2.bI)]++(((cy W.heap::s)++(f++e))++L)):=by
     rw[<- dc];exact kH _ _ _
    refine aH.trans ((mu _ aI).trans ((kH _ _ _).trans (mu _ (mu _ ?_))));show(cy W.heap::((s++(f++e))++L)).Perm (cy W.heap::(f++(s++(e++L))));refine List.Perm.cons _ ?_;rw[dc,dc];exact kH _ _ _
   have d1:∀(j:Nat) x,(dC Z.2 d)[j]?=some x->ad.cell? (Addr.add ⟨n,0,none⟩ j)=some x:=λj x hx=>by rw[cj,p.cellAt 0 rfl,e5];exact hx
   have d2:∀(j:Nat) x,(dC Z.2 g)[j]?=some x->ad.cell? (Addr.add ⟨p2,0,none⟩ j)=some x:=λj x hx=>by rw[cj,p.cellAt 2 rfl,e5];exact hx
   refine⟨_,d1 0 _ rfl,_,d1 1 _ rfl,d,d1 2 _ rfl,_,d2 0 _ rfl,_,d2 1 _ rfl,g,d2 2 _ rfl,use (aLQ 1 3 rfl rfl R S bA p) ?_⟩;rintro _ aX ⟨rfl,ae⟩;refine⟨_,rfl,bF rfl ?_⟩;rw[c1];refine⟨⟨k+1,Z.1,K,e,s,f,rfl,bA,aB,aQ,ab,U,O,bA,bA,ae.tail.tail.tail.tail⟩,?_⟩;show(((os.length:Nat):Int)-((k+1:Nat):Int)).toNat<(((os.length:Nat):Int)-(k:Int)).toNat;omega
 ·have y:Sep E (cy W.heap::((t++(r++u))++L)) aC:=by rw[dc,dc];exact al
  have I:=y.perm (L':=(t++(r++u))++(cy W.heap::L)) il.symm;exact I.right
end Go.Mp
namespace Go.Proofs.YtafigbgagbolgaaGreatDoor
open Go Go.Vc Go.Sp Go.Mp Go.RowKit Go.ChangeShapes
def aBb(os:Os)(started:os.Started)(H:Type)(enc:TypeId×Value->H):
  ReturnsInHanded {} kX os oD .any (λw args=>(Rows.vmOnceSpec.pre enc P m2 [] false w args/\laidMetH P ih w)/\sizedMet enc P m2 (OpenSpec.ofChange Rows.vmOnceSpec) false w args) (Rows.vmOnceSpec.post enc P m2 false true false false):=by
 refine w1 (C:=kX) (tb:=vv) (X:=λw=>laidMetH P ih w) (λ_ _ n h=>h.of_heap n) own started cr Gz
  (ChangeSpec.witness_shaped (enc:=enc) (C:=kX) (os:=os) (X:=λw _=>laidMetH P ih w) false (World.laidAll P os ih) #[.int .i64 0,.int .i64 0,.slice none 0 0,.slice none 0 0,.slice none 0 0] 8 (World.laidAll_os _ _ _) (World.shaped_of_ZipB cr cr) cr cr cr (w4 os _))
  laidOut cr cr rfl cr ?_ ?_
 ·intro g gs k m
  match g,gs,k,m with
  |[d0,d1,d2,d3,d4],[],_,_=>rfl
 ·intro W base args c a _ hx;have hw:=w5 hx;obtain⟨r,t,u,x,y,rfl⟩:=GA c;have a0:=a 0 _ _ rfl rfl;have d:=a 1 _ _ rfl rfl;have e:=a 2 _ _ rfl rfl;have a3:=a 3 _ _ rfl rfl;have a4:=a 4 _ _ rfl rfl;obtain⟨f,rfl,hf⟩:=mZ a0;obtain⟨s,rfl,p⟩:=mZ d;obtain⟨sz,zs,rfl,j⟩:=xm (oB cr e);obtain⟨l,xs,rfl,i⟩:=q1 a3;obtain⟨q,o,rfl,b⟩:=q1 a4;refine use (aJb j i b hw) ?_;rintro v w' ⟨rfl,h⟩;exact⟨_,rfl,rfl,w6 h⟩
def TD:Tryz.pinned.checked.prog.funcNamed Rows.vmOnceRow.func=some oD:=by kernel_rfl
def aId:sc P m2 Rows.vmOnceSpec Rows.vmOnceRow=true:=by kernel_rfl
def aIe:sd P oD Rows.vmOnceRow=true:=by kernel_rfl
def aIf:se P oD Rows.vmOnceRow=true:=by kernel_rfl
def aIg:sf P oD Rows.vmOnceRow=true:=by kernel_rfl
def aIh:si P oD Rows.vmOnceRow=true:=by kernel_rfl
def aIi:sj P m2 Rows.vmOnceSpec Rows.vmOnceRow=true:=by kernel_rfl
def aIj:sk P m2 Rows.vmOnceSpec Rows.vmOnceRow=true:=by kernel_rfl
def aIk:sm P Rows.vmOnceRow=true:=by kernel_rfl
def aIl:sn P m2 Rows.vmOnceSpec Rows.vmOnceRow=true:=by kernel_rfl
def aDF:Rows.VmOnceSaid:=
 OpenClaim.holds_of_wide oD m2 rfl rfl rfl rfl rfl rfl rfl ⟨rfl,rfl,rfl,rfl,rfl⟩ rfl rfl rfl rfl rfl TD Gz
  (w3 aId aIe aIf aIg aIh aIi aIj aIk aIl)
  (jL cr) (by unfold Func.isWrapper;rw[bJ (by decide+kernel)];exact⟨rfl,rfl⟩)
  (λos started H enc _=>aBb os started H enc)
def aIm:Rows.vmOnceRow.wfByText (OpenSpec.ofChange Rows.vmOnceSpec)=true:=by kernel_rfl
def aEf:Tryz.pinned.checked.prog.mainIs=some (true, "6dae9ca1e3fae822e43264ec614d78dc4c2fe72aea56ab24750a95019e43a27c".toList):=by kernel_rfl
def aDG:false=Tryz.pinned.checked.prog.looks []:=by kernel_rfl
def aEe:false=Rows.vmOnceRow.goesBy Tryz.pinned.checked.prog:=by kernel_rfl
def aDH:(m2.params.toList.all λu=> !P.wantsStandIn u)=true:=by kernel_rfl
def vmOnce_card:Rows.VmOnceCardSaid:=
 Claim7.holds_tied_plain_at .later [] [.data] true (true, "6dae9ca1e3fae822e43264ec614d78dc4c2fe72aea56ab24750a95019e43a27c") false
  aDF (λ_ h=>by cases h) aIm (λ_ h=>by cases h) vmOnce_row_tie rfl ⟨rfl,rfl⟩ aEf rfl
  (λf fn hf a=>by
   obtain rfl:f=oD:=cQ (TD.symm.trans hf) |>.symm;obtain rfl:fn=m2:=(cQ (Gz.symm.trans a)).symm;refine⟨aDG,λj t b=>?_⟩;have hm:t∈m2.params.toList:=by simpa using ku b
   exact(show P.wantsStandIn t=false by simpa using fB.1 aDH t hm))
  aEe
end Go.Proofs.YtafigbgagbolgaaGreatDoor
