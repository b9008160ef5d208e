/- Vm: No cf is passed but by lowering it: for every script, and each operation; of memory, and of swap: the law answers true and lets its arguments be; for every input. -/
import Derived.Test.YtafigbgagbolgaaGreatDoorC15
import Derived.Test.YtafigbgagbolgaaGreatDoorProg
import Derived.Test.YtafigbgagbolgaaGreatDoorChecked
import Derived.ProofKit
import Derived.OpenVars
import Derived.LaidMore
import Derived.Lay
import Derived.OpenShut
import Derived.Stop.LaidErr
import Derived.Lib.LaidTab
import Derived.SevenTiedAt
import Derived.Test.YtafigbgagbolgaaGreatDoorRows
import Derived.Test.YtafigbgagbolgaaGreatDoorTie
import Derived.Test.YtafigbgagbolgaaGreatDoorCards
set_option linter.all false
set_option maxRecDepth 100000
open Go.IntKind(i64 u64)
namespace Go.Kc
open Go Go.Kt Go.Sp
def TS.all(T:TS):bU:=((List.range T.next.toNat).filter λi:Nat=>(T.pg i).isSome).map Int.ofNat
end Go.Kc
namespace Go.Kc
open Go.Kt
def w8{C:List ei}(b:C.length=64){g n:Int}(a:fx g=true)(c:gf n=true)(x:Int):db (hs C g n).1 x=if x=g then n else db C x:=by
 unfold hs;rw[a,c];simp only[A9,fP];unfold db gU;cases hx:fx x with
 |false=>
  have:x≠g:=λe=>by rw[e,a]at hx;cases hx
  simp[this]
 |true=>
  simp only[fP];rw[vn _ b a hx];split<;>simp
end Go.Kc
namespace Go.Mp
open Go Go.Vc
abbrev lk:TypeId:=23
abbrev nO:TypeId:=37
abbrev oC:FuncId:=3
abbrev w9:FuncId:=15
abbrev nP:FuncId:=16
abbrev uD:FuncId:=26
noncomputable abbrev m1:Func:=Go.Proofs.Tryz.f3
def Gy:P.funcs[oC]?=some m1:=Go.Proofs.Tryz.func3
def ze(a0 e:Sl)(f:Int)(w:World)(g:(Sl->Sl->Int->bh6)->Sl->Sl->Int->bh6):Prop:=∃(d:Sl->Sl->Int->bh6) (M:Sl->Sl->Int->World->Nat),d a0 e f w/\∀_:Nat->Value,∀b0 b1 b2,∀w,d b0 b1 b2 w->g (λa b c v=>d a b c v/\M a b c v<M b0 b1 b2 w) b0 b1 b2 w
def zi(w:World)(g:Addr->bh6):Prop:=Al (.cells #[Iv 3,Iv 0,Iv 0,Iv 0,Iv 0,Iv 5,Iv 0,Iv 3,Iv 0,Iv 0,Iv 9,Iv 0,Iv 1,Iv 7,Iv 0,Iv 9,Iv 0,Iv 17,Iv 8,Iv 0,Iv 8,Iv 0,Iv 1,Iv 0,Iv 0,Iv 8,Iv 0,Iv 17,Iv 0,Iv 0,Iv 8,Iv 0,Iv 33,Iv 0,Iv 0] 37) g w
end Go.Mp
namespace Go.Mp
open Go Go.Vc Go.Proofs
variable{K:bh7}{w:World}
variable(K w)
def xa(c:cg):=
 NN c λa=>qZ w a 10 λd=>qJ vw #[Pv d] w λe b=>K (Sv e) b
variable{K w}
def Gb(c)(h:xa K w c):=bL {} #[Pv c] K w Tryz.func26 h
end Go.Mp
namespace Go.Sp
open Go Go.Vc Go.RowKit Go.ChangeShapes
section
variable{P:Program}{W:World}{t:TypeId}{cs:List Value}
def Rd.bool(h:Rd P W t cs)(a:P.underlying t=some .bool):∃b,cs= [.bool b]:=by
 obtain⟨H,enc,fuel,x,h⟩:=h;obtain⟨n,h1,_⟩:=DataW.trod_bool a h;exact⟨n,h1⟩
def Rd.str(h:Rd P W t cs)(b:P.underlying t=some .string):∃s,cs= [.string s]/\s.size<=maxLen:=by
 obtain⟨H,enc,fuel,x,h⟩:=h;obtain⟨s,h1,_,a⟩:=DataW.trod_string b h;exact⟨s,h1,a⟩
def Rd.struct{fs:Array Field}(h:Rd P W t cs)(d:P.underlying t=some (.struct fs)):cs.length=P.cellsOf t/\
  ∀(i:Nat) (f:Field),fs[i]?=some f->Rd P W f.type ((cs.drop f.offset).take (P.cellsOf f.type)):=by
 obtain⟨H,enc,fuel,x,h⟩:=h;obtain⟨xs,n,rfl,rfl,c,hx,hf⟩:=DataW.trod_struct d h;refine⟨c,λi f a=>?_⟩;have b:i<xs.length:=by
  rw[hx];rcases gS i fs.size with h' | h';·exact h'
  ·simp[h']at a
 have:=hf i f a;rw[dD b]at this;exact⟨H,enc,n,_,this⟩
def Rd.fF{e:TypeId}{v:Value}(h:Rd P W t [v])(d:P.underlying t=some (.slice e)):∃(p:cg) (n c:Nat),v=.slice p n c/\n<=c/\c<=maxLen/\
  ∀i,i<n->∃a es,p=some a/\es.length=P.cellsOf e/\(∀j,j<P.cellsOf e->W.cell? ((a.add (i*P.cellsOf e)).add j)=es[j]?)/\Rd P W e es:=by
 obtain⟨p,n,c,h1,b⟩:=h.slice d;exact⟨p,n,c,by simpa using h1,b⟩
end
section
variable{H:Type}{enc:TypeId×Value->H}{P:Program}
end
end Go.Sp
namespace Go.Sp
open Go Go.Vc
def hC(P:Program)(a:TypeId->Option (List TypeId)):List Field->Nat->Option (List TypeId)
 |[],_=>some []
 |f::fs,o=>match Nat.beq f.offset o,a f.type with
  |true,some l=>match Nat.beq (P.cellsOf f.type) l.length with
   |true=>match hC P a fs (o+l.length)with
    |some r=>some (l++r)
    |none=>none
   |false=>none
  |_,_=>none
def hD(P:Program):Nat->TypeId->Option (List TypeId)
 |0,_=>none
 |d+1,t=>match P.underlying t with
  |some (.struct fs)=>match hC P (hD P d) fs.toList 0 with
   |some l=>match Nat.beq (P.cellsOf t) l.length with
    |true=>some l
    |false=>none
   |none=>none
  |some (.int _)=>some [t]
  |some .bool=>some [t]
  |some .string=>some [t]
  |some (.slice _)=>some [t]
  |_=>none
section
variable{P:Program}{W:World}
def g4(P:Program)(W:World):List TypeId->List Value->Prop
 |[],[]=>True
 |t::ts,v::vs=>Rd P W t [v]/\g4 P W ts vs
 |_,_=>False
def g4.append:∀ {ts us:List TypeId} {vs xs:List Value},g4 P W ts vs->g4 P W us xs->g4 P W (ts++us) (vs++xs)
 |[],_,[],_,_,h=>h
 |_::_,_,_::_,_,⟨h1,a⟩,h=>⟨h1,a.append h⟩
 |[],_,_::_,_,h,_=>h.elim
 |_::_,_,[],_,h,_=>h.elim
def Rd.leaves:∀(d:Nat) {t:TypeId} {ts:List TypeId} {cs:List Value},hD P d t=some ts->Rd P W t cs->g4 P W ts cs:=by
 intro d;induction d with
 |zero=>intro t ts cs h;simp[hD]at h
 |succ d I=>
  intro t ts cs h j;unfold hD at h;cases hu:P.underlying t with
  |none=>simp[hu]at h
  |some x=>
   cases x<;>simp only[hu]at h<;>try (simp at h;done)
   case bool=>
    simp only[eF]at h;subst h;obtain⟨b,rfl⟩:=j.bool hu;exact⟨j,trivial⟩
   case int k=>
    simp only[eF]at h;subst h;obtain⟨b,rfl,_⟩:=j.int hu;exact⟨j,trivial⟩
   case string=>
    simp only[eF]at h;subst h;obtain⟨b,rfl,_⟩:=j.str hu;exact⟨j,trivial⟩
   case slice e=>
    simp only[eF]at h;subst h;obtain⟨p,n,c,rfl,_⟩:=j.slice hu;exact⟨j,trivial⟩
   case struct fs=>
    cases q:hC P (hD P d) fs.toList 0 with
    |none=>simp[q]at h
    |some l=>
     simp only[q]at h;split at h
     ·next C=>
      simp only[eF]at h;subst h;obtain⟨hlen,w⟩:=j.struct hu;rw[je C]at hlen;have key:∀(m:List Field) (o:Nat) (l:List TypeId),hC P (hD P d) m o=some l->(∀f∈m,Rd P W f.type ((cs.drop f.offset).take (P.cellsOf f.type)))->cs.length=o+l.length->g4 P W l (cs.drop o):=by
       intro m;induction m with
       |nil=>
        intro o l a _ u;simp only[hC,eF]at a;subst a;rw[jJ (by simpa using Ho u)];trivial
       |cons f m D=>
        intro o l a s u;unfold hC at a;split at a
        ·next v ho y=>
         split at a
         ·next H=>
          split at a
          ·next r B=>
           simp only[eF]at a;subst a;have A:=je ho;have z:=je H;have h1:=s f (by simp);rw[A,z]at h1;have E:=I y h1;have F:=D (o+v.length) r B (λg q=>s g (by simp[q])) (by rw[u,da];omega);have e:cs.drop o=(cs.drop o).take v.length++cs.drop (o+v.length):=by
            rw[<- n0,fA]
           rw[e];exact E.append F
          ·simp at a
         ·simp at a
        ·simp at a
      have:=key fs.toList 0 l q (λf hf=>by
       obtain⟨i,G,rfl⟩:=h5.1 hf;exact w i _ (by simp at G ⊢)) (by simpa using hlen)
      simpa using this
     ·simp at h
end
end Go.Sp
namespace Go.Mp
open Go Go.Vc Go.Proofs
variable{K:bh7}{w:World}
variable(K w)
def Tq(bN bR:Int)(bP l:Sl):=
 qF w9 #[] w λam aD=>cond (!am) (K (.bool false) aD) (qF nP #[Iv bN,Iv bR,Sv bP,Sv l] aD λbh aH=>cond bh (K (.bool am) aH) (qR acl #[Iv bN,Iv bR,Sv bP] aH λa4 ba=>qR rO #[Pv a4] ba λb Q=>cond b.isNone (K (.bool false) Q) (∃p:Sl,∃R:World,Sem.run P (Instr.makeSlice 22 (Iv 64) (Iv 64)) Q=.ok (Sv p) R/\∃j:Sl,∃S:World,Sem.run P (Instr.makeSlice 22 (Iv 64) (Iv 64)) R=.ok (Sv j) S/\qO 0 S λan n T=>cond (decide (n<64)) (qW p n 1 λa22=>Vc.St a22 (Iv 1099511627776) (λaE=>qW j n 1 λa24=>Vc.St a24 (Iv 1099511627776) (λaF=>(an (i64.wrap (n+1)) aF)) aE) T) (qO 0 T λao i30 U=>cond (decide (i30<((l.n:Nat):Int))) (ze ⟨none,0,0⟩ ⟨none,0,0⟩ 0 U λap a35 z o D=>cond (decide (o<64)) (qQ om #[Pv b,Iv o] D λaO aG=>qC #[Iv aO] aG λaB aI=>∃Z:Sl,∃V:World,Sem.run P (Builtin.append_ #[22,22] 22 #[Sv a35,.slice (some aB) 1 1]) aI=.ok (Sv Z) V/\qQ nz #[Pv b,Iv o] V λaP aJ=>qC #[Iv aP] aJ λaC aK=>∃aa:Sl,∃W:World,Sem.run P (Builtin.append_ #[22,22] 22 #[Sv z,.slice (some aC) 1 1]) aK=.ok (Sv aa) W/\(ap Z aa (i64.wrap (o+1)) W)) (qW l i30 5 λaq=>zL D aq λaQ aR aS aT aU=>zx iz #[Pv a4,.agg #[Iv aQ,Iv aR,Iv aS,Iv aT,Iv aU]] D λaV aW aX aL=>zW aL λA cH=>qU [Iv aV,Iv aW,Sv aX] A cH λd=>qg (λN=>qh (λq=>qW l i30 5 λar=>qL d ar 0 λaZ=>cond (aZ==2) (qL d A 0 λa0=>cond (a0==0) (qW l i30 5 λau=>qL d au 2 λa1=>q (a1==2) d) (q false d)) (q false d)) λaY X=>cond aY (Dr (λE=>qW l i30 5 λav=>qL E av 1 λa2=>qW l i30 5 λaw=>qL E aw 3 λa3=>qW p a2 1 λax=>Vc.St ax (Iv a3) (λaM=>N aM) E) X) (N X)) λe=>qg (λO=>qh (λr=>qW l i30 5 λay=>qL e ay 0 λa6=>cond (a6==2) (qL e A 0 λa7=>cond (a7==0) (qW l i30 5 λaz=>qL e az 2 λa8=>r (a8==3) e) (r false e)) (r false e)) λa5 Y=>cond a5 (Dr (λF=>qW l i30 5 λaA=>qL F aA 1 λa9=>qW l i30 5 λab=>qL F ab 3 λaf=>qW j a9 1 λad=>Vc.St ad (Iv af) (λae=>O ae) F) Y) (O Y)) λaN=>qO 0 aN λf a B=>cond (decide (a<64)) (Dr (λC=>qW p a 1 λs=>qD C s λG=>qQ om #[Pv b,Iv a] C λag c=>zG c s (Iv G) λbb=>cond (decide (ag>G)) (qW a35 a 1 λt=>qD c t λH=>qQ om #[Pv b,Iv a] c λah g=>zG g t (Iv H) λbc=>cond (decide (ah>H)) (K (.bool false) g) (qW j a 1 λu=>qD g u λI=>qQ nz #[Pv b,Iv a] g λai h=>zG h u (Iv I) λbd=>cond (decide (ai>I)) (qW z a 1 λv=>qD h v λJ=>qQ nz #[Pv b,Iv a] h λaj k=>zG k v (Iv J) λbe=>cond (decide (aj>J)) (K (.bool false) k) ((f (i64.wrap (a+1)) k))) ((f (i64.wrap (a+1)) h)))) (qW j a 1 λx=>qD c x λL=>qQ nz #[Pv b,Iv a] c λak i=>zG i x (Iv L) λbf=>cond (decide (ak>L)) (qW z a 1 λy=>qD i y λM=>qQ nz #[Pv b,Iv a] i λal m=>zG m y (Iv M) λbg=>cond (decide (al>M)) (K (.bool false) m) ((f (i64.wrap (a+1)) m))) ((f (i64.wrap (a+1)) i)))) B) ((ao (i64.wrap (i30+1)) B)))) (K (.bool am) U)))))
def xc:=
 zi w λi w2=>qJ tz #[Iv 1,Iv 9,.slice none 0 0,.slice (some i) 7 7] w2 λb a=>cond (((b.n:Nat):Int)==7) (qW b 4 3 λg=>qL a g 1 λj=>cond (j==7) (qW b 5 3 λh=>qL a h 1 λk=>cond (k==8) (qW b 6 3 λc=>qL a c 1 λe=>cond (e==0) (qW b 6 3 λd=>qL a d 0 λf=>K (.bool (f==0)) a) (K (.bool false) a)) (K (.bool false) a)) (K (.bool false) a)) (K (.bool false) a)
def nQ(bN bR:Int)(bP l:Sl):=
 cond (decide (bN>24)) (K (.bool true) w) (cond (decide (bR>24)) (K (.bool true) w) (cond (decide (((bP.n:Nat):Int)>40)) (K (.bool true) w) (K (.bool (decide (((l.n:Nat):Int)>40))) w)))
variable{K w}
def anN(bN bR bP l)(h:Tq K w bN bR bP l):=bL (z8 [37,41,43,52,53,55,57,59,83,87,95,114,118,126,141,143,151,160,170,179] [(29,[jQ 13],[12]),(31,[jQ 13],[12]),(35,[[0,1,3,4,5,6,2,7,8,9,10,12,13,14,15,11,16,17,18,19,20,22,23,24,25,21,26,27,28,29,31,32,33,34,30,35,36,37]],[2,11,21,30])] [(13,[(14,jZ)]),(18,[(15,jZ)]),(23,[(16,.slice),(17,.slice),(18,jZ)]),(33,[(20,jZ)])] [(29,[(96,.bool)]),(30,[]),(31,[(127,.bool)]),(32,[])]) #[Iv bN,Iv bR,Sv bP,Sv l] K w Tryz.func3 h
def Gh(h:xc K w):=bL (z8 [12,13,19,26,33,40]) #[] K w Tryz.func15 h
def sv(bN bR bP l)(h:nQ K w bN bR bP l):=bL (z8 [10,13,17,18,22,23]) #[Iv bN,Iv bR,Sv bP,Sv l] K w Tryz.func16 h
end Go.Mp
namespace Go.Mp
open Go Go.Vc Go.Sp Go.Proofs Go.Kc
variable{E:Env}{L:ch}{w:World}{A:At}{S:Cs}
def xd{T:TS}:T.all.Pairwise (· < ·):=by
 unfold TS.all;rw[jK];exact(GM.filter _).imp (λ{a b} h=>by show(a:Int)<(b:Int);omega)
def AR{T:TS}(b:ha T){x:Int}:x∈T.all↔(T.pg x).isSome=true:=by
 unfold TS.all;rw[e4];constructor
 ·rintro⟨i,a,rfl⟩;rw[fO]at a;exact a.2
 ·intro h;obtain⟨p,hp⟩:=kq.1 h;have h1:=b.ids _ _ hp;refine⟨x.toNat,fO.2 ⟨fW.2 bA,?_⟩,by show((x.toNat:Nat):Int)=x;omega⟩;rw[show((x.toNat:Nat):Int)=x by omega];exact h
def Gi(b:Kc.Inv S):Tp.fq S.bz 16777216:=λk a=>by
 obtain⟨p,hp⟩:=kq.1 a;have:=b.ct.ids _ _ hp;have:=b.ids;omega
def AS(c:Kc.Inv S)(h:Sep E (cd A S++L) w):Calls P uD #[Pb A.c] w
  (bW λv w'=>∃s:Sl,v=Sv s/\s.n=S.bz.all.length/\Sep E (cd A S++bC s 1 (bD S.bz.all)::L) w'):=by
 apply Gb;unfold xa qJ qZ;refine⟨_,rfl,ld h 0 rfl rfl rfl (use (Tp.Fa (Gi c) bO (h.fr 11 rfl)) ?_)⟩;rintro _ d ⟨s,l,rfl,b,a,h1⟩;have e:l=S.bz.all:=Gp.wI (r:=(· < · :Int->Int->Prop)) (λx=>Hl x) (λx y z=>Int.lt_trans) a.cX xd (λk=>by rw[a.mem,AR c.ct]);subst e;have h1:=h1.g1 (q:=11) rfl;exact⟨s,rfl,s,rfl,b,Sep.eA (Q:=cd A S) h1⟩
end Go.Mp
namespace Go.Mp
open Go Go.Vc Go.Sp Go.Proofs Go.Kc Go.Kw Go.Kt
variable{E:Env}{L:ch}{w W:World}{A:At}{v:Nat}{V:Vs}
def kp:List c7:=[⟨3,0,0,0,0⟩,⟨5,0,3,0,0⟩,⟨9,0,1,7,0⟩,⟨9,0,17,8,0⟩,⟨8,0,1,0,0⟩,⟨8,0,17,0,0⟩,⟨8,0,33,0,0⟩]
def Gj:(dv (Vs.new 1 9 []) kp).2.map (λa=>(a.err,a.n))= [(0,0),(0,0),(0,0),(0,0),(0,7),(0,8),(0,0)]:=by decide+kernel
def sw{k:Nat}{e n:Int}(h: [((0:Int),(0:Int)),(0,0),(0,0),(0,0),(0,7),(0,8),(0,0)][k]?=some (e,n)):∃a,(dv (Vs.new 1 9 []) kp).2[k]?=some a/\a.err=e/\a.n=n:=by
 rw[<- Gj,ew]at h;cases b:(dv (Vs.new 1 9 []) kp).2[k]? with
 |none=>rw[b]at h;cases h
 |some a=>rw[b]at h;cases h;exact⟨a,rfl,rfl,rfl⟩
def Gk{o:Array Obj}(h:Sep E (cy o::L) w):Calls P w9 #[] w (bW λx w'=>x=.bool true/\Sep E (cy o::L) w'):=by
 apply Gh;unfold xc qJ qL qW zi;refine Al.i h (λp u h1=>?_);have h1:Sep E (cy o::bE p (bQ dO kp)::L) u:=h1.swap;have n:=wY (fr:=1) (sl:=9) (sz:=⟨none,0,0⟩) (l:=[]) (ol:=⟨some ⟨p,0,none⟩,7,7⟩) (os:=kp) (L:=bE p (bQ dO kp)::L) (o:=o) ⟨rfl,λw _ i x hx=>by cases hx⟩ (dN _) (kn.gY (q:=0) (c:=7) (os:=kp) rfl) bO h1;refine use n ?_;rintro _ w2 ⟨s,rfl,a⟩;have hlen:s.n=7:=(dQ.len 0 a rfl).trans (sa kp _);obtain⟨a4,j,_,r⟩:=sw (k:=4) rfl;obtain⟨a5,m,_,n5⟩:=sw (k:=5) rfl;obtain⟨v,b,t,n6⟩:=sw (k:=6) rfl;refine⟨s,rfl,bT (by rw[hlen];rfl) (dQ.el 0 a rfl (show(4:Int)=((4:Nat):Int)from rfl) j (λy _ e=>⟨_,e,bT (by rw[r];rfl) (dQ.el 0 a rfl (show(5:Int)=((5:Nat):Int)from rfl) m (λz _ f=>⟨_,f,bT (by rw[n5];rfl) (dQ.el 0 a rfl (show(6:Int)=((6:Nat):Int)from rfl) b (λA _ g=>⟨_,g,bT (by rw[n6];rfl) (dQ.el 0 a rfl (show(6:Int)=((6:Nat):Int)from rfl) b (λB d _=>⟨_,d,?_,a.tail.perm (Hi _) |>.ro 2 [0] rfl⟩))⟩))⟩))⟩))⟩;rw[t];rfl
def ll{a:Addr}{x:Value}(h:St E A v V L w)(ho:A.o=W.heap)(b:W.cell? a=some x):w.cell? a=some x:=by
 have:=h.drop;rw[ho]at this;exact nN (q:=0) this rfl b
def dC(a:cE)(b:Sl):List Value:=[Iv a.err,Iv a.n,Sv b]
def St.gX(h:St E A v V L w)(m:fU V)(n:V.core.bz.next+66<16777216)(o:c7){T:TypeId}{F:Int->Int->Sl->Addr->bh6}(k:∀(a:Sl) p w',a.n=(V.act o).2.bI.length->St E A v (V.act o).1 (bE p (dC (V.act o).2 a)::bC a 1 (bD (V.act o).2.bI)::L) w'->fU (V.act o).1->(V.act o).1.core.bz.next<=V.core.bz.next+66->F (V.act o).2.err (V.act o).2.n a ⟨p,0,none⟩ w'):
  Calls P iz #[Pb v,.agg (dO o).toArray] w λe d=>∃x:Int,∃y:Int,∃s:Sl,e=.returned (.agg #[Iv x,Iv y,Sv s])/\
   Al (.cells #[Iv 0,Iv 0,.slice none 0 0] T) (λp w2=>jt [Iv x,Iv y,Sv s] p (λb=>F x y s p b) w2) d:=by
 refine h.qS m n o (λa d c h1 q t=>⟨_,_,a,rfl,?_⟩);obtain⟨gs,us,r,ps,f,g,i⟩:=h1;refine Al.i i (λp w2 j=>eh _ j rfl (λb l=>k a p b c ⟨gs,us,r,ps,f,g,Vm.eA l⟩ q t))
def fG(W:World)(l:Sl)(os:List c7):Prop:=l.n=os.length/\∀(i:Nat) o,os[i]?=some o->∃a,l.p=some a/\∀(j:Nat) x,(dO o)[j]?=some x->W.cell? ((a.add (i*5)).add j)=some x
def St.op{l:Sl}{os:List c7}(b:fG W l os)(ho:A.o=W.heap)(h:St E A v V L w){k:Nat}{o:c7}(c:os[k]?=some o){F:Addr->Prop}(f:∀a,(∀(j:Nat) x,(dO o)[j]?=some x->∀ {V':Vs} {L':ch} {w':World},St E A v V' L' w'->w'.cell? (a.add j)=some x)->F a):cx l.p l.n (k:Int) 5 F:=by
 obtain⟨a,hp,d⟩:=b.2 k o c;have g:=(cT.1 c).1;have e:=b.1;refine⟨a,hp,⟨bA,bA⟩,?_⟩;rw[dk];exact f _ (λj x hx V' L' w' h'=>ll h' ho (d j x hx))
end Go.Mp
namespace Go.Mp
open Go Go.Vc Go.Sp Go.Proofs Go.Kc
def oA{α:Type}{n:Nat}{R:Nat->α->Prop}(h:∀i,i<n->∃x,R i x):∃l:List α,l.length=n/\∀i x,l[i]?=some x->R i x:=by
 induction n with
 |zero=>exact⟨[],rfl,λi x hx=>by simp at hx⟩
 |succ n f=>
  obtain⟨l,b,e⟩:=f (λi c=>h i bA);obtain⟨x,hx⟩:=h n bA;refine⟨l++[x],by simp[b],λi y a=>?_⟩;rcases gS i n with c|c;·rw[eE bA]at a;exact e i y a
  ·have d:=(cT.1 a).1;have:i=n:=by simp[b]at d;omega
   subst this;rw[fo bA,b,hG]at a;rw[<- cQ a];exact hx
end Go.Mp
namespace Go.Mp
open Go Go.Vc Go.Sp Go.Proofs Go.Kc Go.Kw
def sx{W:World}{v:Value}(h:Rd P W lk [v]):∃(l:Sl) (xs:List c7),v=Sv l/\fG W l xs:=by
 obtain⟨p,n,c,rfl,_,_,q⟩:=h.fF (e:=nO) cr;have key:∀i,i<n->∃x:c7,∃a,p=some a/\∀(j:Nat) v,(dO x)[j]?=some v->W.cell? ((a.add (i*5)).add j)=some v:=by
  intro i m;obtain⟨a,es,rfl,b,d,r⟩:=q i m;have o:P.cellsOf nO=5:=by kernel_rfl
  rw[o]at d b;have hf:=r.leaves 3 (ts:=[tv,hb,hb,hb,hb]) cr
  match es,b,hf with
  |[v0,v1,v2,v3,v4],_,⟨s,t,u,w,y,_⟩=>
  obtain⟨k,rfl,_⟩:=s.e1 (k:=.i64) cr;obtain⟨z,rfl,_⟩:=t.e1 (k:=.i64) cr;obtain⟨A,rfl,_⟩:=u.e1 (k:=.i64) cr;obtain⟨B,rfl,_⟩:=w.e1 (k:=.i64) cr;obtain⟨C,rfl,_⟩:=y.e1 (k:=.i64) cr;refine⟨⟨k,z,A,B,C⟩,a,rfl,λj v f=>?_⟩;have g:j<5:=(cT.1 f).1;rw[d j g];exact f
 obtain⟨xs,b,hx⟩:=oA key;exact⟨⟨p,n,c⟩,xs,rfl,b.symm,hx⟩
end Go.Mp
namespace Go.Proofs.YtafigbgagbolgaaGreatDoor
open Go Go.Vc Go.Sp Go.Mp Go.RowKit Go.ChangeShapes
def Gl{α:Type}{a:Array α}(h:a.size=4):∃b c d e,a= #[b,c,d,e]:=by
 obtain⟨l⟩:=a
 match l,h with
 |[b,c,d,e],_=>exact⟨b,c,d,e,rfl⟩
def oB{t:TypeId}{W:World}{base:Nat}{v:Value}(b:dW P t=some false)(h:Rd P W t v.cells.toList/\Value.okWide P W .any base t v):Rd P W t [v]:=by
 obtain⟨h1,a⟩:=h;rw[vO a b]at h1;exact h1
def q1{W:World}{base:Nat}{v:Value}(h:Rd P W lk v.cells.toList/\Value.okWide P W .any base lk v):∃(l:Sl) (xs:List Kw.c7),v=.slice l.p l.n l.c/\fG W l xs:=
 sx (oB cr h)
end Go.Proofs.YtafigbgagbolgaaGreatDoor
namespace Go.Kc
open Go Go.Kt Go.Sp
variable{S S':Cs}{id:Int}
structure Sets(S:Cs)(g c5 n:Int)(r:Cs×Int):Prop where
 mem:∀x,r.1.memory x=S.memory x
 swp:∀x,r.1.swap x=S.swap x
 one:∀x,db r.1.fr.used x=if r.2=0/\c5=2/\x=g then n else db S.fr.used x
 two:∀x,db r.1.sl.used x=if r.2=0/\c5=3/\x=g then n else db S.sl.used x
 ok:r.2=0->S.live g=true
 bK:r.1.fr.bK.length=S.fr.bK.length/\r.1.sl.bK.length=S.sl.bK.length
def xe(h:Inv S)(g c5 n:Int):Sets S g c5 n (S.cf g c5 n):=by
 have none_:∀r:Cs×Int,r.1.fr=S.fr->r.1.sl=S.sl->(r.2=0->S.live g=true/\c5≠2/\c5≠3)->Sets S g c5 n r:=by
  intro r h1 d f;refine⟨λx=>by unfold Cs.memory;rw[h1],λx=>by unfold Cs.swap;rw[d],λx=>?_,λx=>?_,λe=>(f e).1,by rw[h1,d];exact⟨rfl,rfl⟩⟩;·rw[bJ (λe=>(f e.1).2.1 e.2.1),h1]
  ·rw[bJ (λe=>(f e.1).2.2 e.2.1),d]
 unfold Cs.cf;split;·exact none_ _ rfl rfl (λe=>by cases e)
 next a=>
 have a:S.live g=true:=by simpa using a
 have i:fx g=true:=iJ.2 ⟨(nb a).1,by have:=(nb a).2;have:=h.wf.fq;omega⟩;split;·exact none_ _ rfl rfl (λe=>by cases e)
 next b=>
 have b:gf n=true:=by simpa using b
 split;·next e=>exact none_ _ rfl rfl (λ_=>⟨a,bA,bA⟩)
 split;·next e=>exact none_ _ rfl rfl (λ_=>⟨a,bA,bA⟩)
 have c:∀C:List ei,(hs C g n).2=0:=λC=>by unfold hs;rw[i,b];rfl
 split
 ·next e=>
  refine⟨λx=>vo h.fr.used.len _ _ _,λx=>rfl,λx=>?_,λx=>?_,λ_=>a,rfl,rfl⟩
  ·show db (hs S.fr.used g n).1 x=_;rw[w8 h.fr.used.len i b];by_cases hx:x=g;·rw[bM hx,bM ⟨c _,e,hx⟩]
   ·rw[bJ hx,bJ (λe=>hx e.2.2)]
  ·rw[bJ (λe=>bA)]
 split
 ·next e=>
  refine⟨λx=>rfl,λx=>vo h.sl.used.len _ _ _,λx=>?_,λx=>?_,λ_=>a,rfl,rfl⟩;·rw[bJ (λe=>bA)]
  ·show db (hs S.sl.used g n).1 x=_;rw[w8 h.sl.used.len i b];by_cases hx:x=g;·rw[bM hx,bM ⟨c _,e,hx⟩]
   ·rw[bJ hx,bJ (λe=>hx e.2.2)]
 split
 ·split;·exact none_ _ rfl rfl (λe=>by cases e)
  ·exact none_ _ rfl rfl (λ_=>⟨a,bA,bA⟩)
 ·exact none_ _ rfl rfl (λe=>by cases e)
structure sy(S:Cs)(x:Act)(r:Cs×Int×Int×Int):Prop where
 mem:∀g,r.1.memory g<=S.memory g\/r.1.memory g<=db r.1.fr.used g
 swp:∀g,r.1.swap g<=S.swap g\/r.1.swap g<=db r.1.sl.used g
 one:∀g,db r.1.fr.used g=if(x.k.tmod 12=2/\r.2.2.2=0)/\x.b=2/\g=x.a then x.c else db S.fr.used g
 two:∀g,db r.1.sl.used g=if(x.k.tmod 12=2/\r.2.2.2=0)/\x.b=3/\g=x.a then x.c else db S.sl.used g
 ok:x.k.tmod 12=2/\r.2.2.2=0->0<=x.a/\x.a<64
 bK:r.1.fr.bK.length=S.fr.bK.length/\r.1.sl.bK.length=S.sl.bK.length
def Gm(h:Inv S)(b:S.bz.next<16777216)(x:Act):sy S x (S.act x):=by
 have of:∀r:Cs×Int×Int×Int,x.k.tmod 12≠2->ds S r.1->sy S x r:=by
  intro r a L;refine⟨λg=>by rw[(L.lim g).1];exact L.mem g,λg=>by rw[(L.lim g).2];exact L.swp g,λg=>?_,λg=>?_,λe=>absurd e.1 a,L.bK⟩;·rw[bJ (λe=>a e.1.1)];exact(L.lim g).1
  ·rw[bJ (λe=>a e.1.1)];exact(L.lim g).2
 refine oY (P:=λr=>sy S x r) S x (λe=>of _ bA (ds.bZ _)) (λe=>of _ bA (ds.remove h _)) (λe=>?_) (λe=>of _ bA (ds.fresh h b _))
  (λe=>of _ bA (ds.cD h b _ _)) (λe=>of _ bA (ds.cb h.toInv0 h.anon _ _)) (λe=>of _ bA (ds.copy h b _ _)) (λe=>of _ bA (ds.put _ _ _))
  (λe=>of _ bA (ds.get _ _)) (λe=>of _ bA (ds.bX h _ _)) (λe=>of _ bA (ds.same rfl rfl rfl rfl)) (λe=>of _ bA (ds.outs h (rM h _ _)))
 have k:=xe h x.a x.b x.c;refine⟨λg=>.inl ?_,λg=>.inl ?_,λg=>?_,λg=>?_,λd=>?_,k.bK⟩;·show(S.cf x.a x.b x.c).1.memory g<=_;rw[k.mem];exact e7 _
 ·show(S.cf x.a x.b x.c).1.swap g<=_;rw[k.swp];exact e7 _
 ·show db (S.cf x.a x.b x.c).1.fr.used g=_;rw[k.one];simp only[e,uW]
 ·show db (S.cf x.a x.b x.c).1.sl.used g=_;rw[k.two];simp only[e,uW]
 ·have c:=k.ok d.2;exact⟨(nb c).1,by have:=(nb c).2;have:=h.wf.fq;omega⟩
def Gn{T T':TS}(a:T'.next=T.next)(h:∀x,(T'.pg x).isSome=(T.pg x).isSome):T'.all=T.all:=by
 unfold TS.all;rw[a];congr 1;exact pA (λi _=>h _)
def Kept.all(h:Kept S S'):S'.bz.all=S.bz.all:=Gn h.next (λx=>by
 cases hp:S.bz.pg x with
 |none=>rw[h.none_ x hp]
 |some p=>obtain⟨q,a,_⟩:=h.bH x p hp;rw[a];rfl)
end Go.Kc
namespace Go.Kc
open Go Go.Kt
variable{S T:Cs}
def Path.ind{R:Cs->Cs->Prop}(a:∀S,R S S)(c:∀ {A B C},R A B->R B C->R A C)(h1:∀S,Inv S->S.bz.next<16777216->∀x:Act,3<=x.k/\x.k<=11->R S (S.act x).1){n:Nat}(h:Path n S T)(e:Inv S)(f:S.bz.next+n<16777216):R S T:=by
 induction h with
 |nil n=>exact a _
 |act x hx h d=>
  have b:=h.inv e bA;exact c (d e bA) (h1 _ b.1 bA x hx)
def Path.du(t:Int):Path 0 S (S.du t).1:=Path.one 10 t 0 0 0 0 bO
def Path.shrink(t n:Int):Path 0 S (S.shrink t n).1:=Path.one 11 t 0 n 0 0 bO
end Go.Kc
namespace Go.Kw
open Go Go.Kc Go.Kt
def sA:∀(ids:bU) (S:Cs),Path 0 S (j8 ids S)
 |[],S=>.nil 0 S
 |x::r,S=>(Path.bX (S:=S) x (-1)).trans (sA r (S.bX x (-1)).1)
def xf:∀(ids:bU) (S:Cs),Path 0 S (nv ids S)
 |[],S=>.nil 0 S
 |x::r,S=>(Path.bX (S:=S) x 1).trans (xf r (S.bX x 1).1)
def xg(V:Vs)(pid:Int):Path 0 V.core (V.exit pid).core:=by
 cases h:V.space pid with
 |none=>rw[FQ h];exact .nil 0 _
 |some s=>rw[ux h];exact sA _ _
def xh:∀(l:bU) (V:Vs),Path 0 V.core (V.ej l).core
 |[],V=>.nil 0 _
 |x::r,V=>(xg V x).trans (xh r (V.exit x))
def xi{f:Cs->Int->Cs×Int×Int×Int}{pid:Int}(hf:∀S g,Path 1 S (f S g).1):∀(n:Nat) (V:Vs) (o:cE),Path n V.core (fy f pid n V o).1.core
 |0,V,o=>.nil 0 _
 |n+1,V,o=>by
  rw[uy];dsimp only;have h1:=hf V.core (V.group pid);generalize f V.core (V.group pid)=r at h1;have a:Path (n+1) V.core r.1:=h1.up bA;split;·exact a
  split;·exact a
  generalize dead {V with core:=r.1} r.2.2.1=d;have b:=h1.trans (xh d {V with core:=r.1});split;·exact b.up bA
  split;·exact b.up bA
  exact(b.trans (xi hf n _ _)).up bA
def po{f:Cs->Int->Cs×Int×Int×Int}{pid:Int}{V:Vs}(hf:∀S g,Path 1 S (f S g).1)(o:cE):Path (V.procs.length+1) V.core (V.eQ f pid o).1.core:=xi hf _ V o
def sB(V:Vs)(pid p id:Int)(k:Nat)(wr:Bool):(V.enter pid p id k wr).core=(V.core.bX id 1).1:=by
 unfold Vs.enter;dsimp only;split<;>rfl
def xj{V:Vs}(pid id:Int)(o:cE):Path (V.procs.length+1) V.core (V.cb pid id o).1.core:=po (λS g=>(Path.cb id g).up bA) o
def xk{V:Vs}(pid p:Int)(s:Sp)(x:Rg)(o:cE):Path (V.procs.length+1) V.core (V.there pid p s x o).1.core:=by
 unfold Vs.there;split;·exact xj _ _ _
 ·have h:=po (V:=V) (f:=λS g=>S.cD (hi x p) g) (pid:=pid) (λS g=>Path.cD _ g) o;dsimp only;split
  ·next id _=>
   show Path _ _ (Vs.enter _ _ _ _ _ _).core;rw[sB];exact h.trans (Path.bX id 1)
  ·exact h
def Gq{V:Vs}(pid p:Int)(s:Sp)(o:cE):Path (V.procs.length+1) V.core (V.own pid p s o).1.core:=by
 unfold Vs.own;split
 ·next e _=>
  dsimp only;split;·exact xj _ _ _
  have h:=po (V:=V) (f:=λS g=>S.copy e.id g) (pid:=pid) (λS g=>Path.copy _ g) o;split
  ·next id _=>
   show Path _ _ ((Vs.enter _ _ _ _ _ _).core.bX _ _).1;rw[sB];exact(h.trans (Path.bX id 1)).trans (Path.bX _ (-1))
  ·exact h
 ·have h:=po (V:=V) (f:=λS g=>S.fresh g) (pid:=pid) (λS g=>Path.fresh g) o;dsimp only;split
  ·next id _=>
   show Path _ _ (Vs.enter _ _ _ _ _ _).core;rw[sB];exact h.trans (Path.bX id 1)
  ·exact h
def xl(V:Vs)(pid p:Int):(V.cS pid p).core=V.core:=by
 unfold Vs.cS;split<;>rfl
def Gr{V:Vs}(pid:Int)(s:Sp)(b:Int):Path (V.procs.length+1) V.core (V.load pid s b).1.core:=by
 unfold Vs.load;dsimp only;split;·exact .nil _ _
 next x _=>
 split;·exact .nil _ _
 split;·exact .nil _ _
 have h:=xk (V:=V) pid (b/16) s x .zero;split;·exact h
 ·next id _=>
  show Path _ _ (Vs.cS _ _ _).core;rw[xl];exact h.trans (Path.get id (b%16))
def Gs{V:Vs}(pid:Int)(s:Sp)(b c:Int):Path (V.procs.length+1) V.core (V.store pid s b c).1.core:=by
 unfold Vs.store;dsimp only;split;·exact .nil _ _
 split;·exact .nil _ _
 next x _=>
 split;·exact .nil _ _
 split;·exact .nil _ _
 have h:Path (V.procs.length+1) V.core (if x.kind=2 then V.there pid (b/16) s x .zero else V.own pid (b/16) s .zero).1.core:=by
  split;·exact xk pid (b/16) s x .zero
  ·exact Gq pid (b/16) s .zero
 generalize (if x.kind=2 then V.there pid (b/16) s x .zero else V.own pid (b/16) s .zero)=r at h;split;·exact h
 ·next id _=>
  show Path _ _ (Vs.cS _ _ _).core;rw[xl];exact h.trans (Path.put id (b%16) _)
def Gt{V:Vs}(s:Sp)(o:c7):Path (V.procs.length+1) V.core (V.call s o).1.core:=by
 unfold Vs.call;dsimp only;split;·split<;>exact .nil _ _
 split;·split<;>exact .nil _ _
 split
 ·split;·split<;>exact .nil _ _
  ·exact .nil _ _
 split
 ·split;·exact(sA _ _).up bA
  ·exact .nil _ _
 split;·exact Gr _ _ _
 split;·exact Gs _ _ _ _
 split
 ·split;·exact .nil _ _
  ·exact(xf _ _).up bA
 exact(xg _ _).up bA
def Gu{V:Vs}{o:c7}(ho:o.kind≠0/\o.kind≠1/\o.kind≠2):Path (V.procs.length+1) V.core (V.act o).1.core:=by
 unfold Vs.act;rw[bJ ho.1,bJ ho.2.1,bJ ho.2.2];dsimp only;split
 ·split;·exact .nil _ _
  ·split<;>exact .nil _ _
 split;·exact(Path.du _).up bA
 split;·exact(Path.shrink _ _).up bA
 split;·exact .nil _ _
 split;·exact .nil _ _
 ·exact Gt _ _
end Go.Kw
namespace Go.Kc
open Go Go.Kt Go.Sp
variable{S S' T:Cs}{id g:Int}
def hQ.none_(h:hQ S S'):S'.bz.pg id=none↔S.bz.pg id=none:=by
 have:=h.kr id;cases a:S'.bz.pg id<;>cases hp:S.bz.pg id<;>rw[a,hp]at this<;>simp at this ⊢
end Go.Kc
namespace Go.Mp
open Go Go.Vc Go.Sp Go.Proofs Go.Kc Go.Kw Go.Kt
variable{E:Env}{L:ch}{w W:World}{A:At}{v:Nat}{V:Vs}
def sC(bN bR:Int)(bP l:Sl)(w:World):Calls P nP #[Iv bN,Iv bR,Sv bP,Sv l] w
  (bW λv w'=>v=.bool (decide (bN>24)||decide (bR>24)||decide (bP.n>40)||decide (l.n>40))/\w'=w):=by
 apply sv;unfold nQ;refine eW (λh1=>⟨by rw[dh h1];rfl,rfl⟩) (λh1=>eW (λa=>⟨by rw[dh a,sP];rfl,rfl⟩) (λa=>eW (λb=>⟨by rw[dh (show bP.n>40 by omega),sP];rfl,rfl⟩) (λb=>⟨?_,rfl⟩)));rw[c4 (show ¬ bN>24 by omega),c4 (show ¬ bR>24 by omega),c4 (show ¬ bP.n>40 by omega)];simp only[uU];congr 1;simp only[pC];omega
end Go.Mp
namespace Go.Mp
open Go Go.Vc Go.Sp Go.Proofs Go.Kc
variable{E:Env}{L:ch}{w:World}{A:At}{S:Cs}
def xm{W:World}{v:Value}(h:Rd P W jB [v]):∃(s:Sl) (l:bU),v=Sv s/\qT W s l:=by
 obtain⟨p,n,c,rfl,j,_,o⟩:=h.fF (e:=hb) cr;have key:∀i,i<n->∃x:Int,∃a,p=some a/\W.cell? (a.add i)=some (Iv x):=by
  intro i g;obtain⟨a,es,rfl,b,f,d⟩:=o i g;have m:P.cellsOf hb=1:=by kernel_rfl
  rw[m]at f b
  match es,b,d with
  |[v0],_,d=>
  obtain⟨k,rfl,_⟩:=d.e1 (k:=.i64) cr;refine⟨k,a,rfl,?_⟩;have:=f 0 bA;rw[fC,Addr.add,Addr.add]at this;simpa[Addr.add]using this
 obtain⟨xs,b,hx⟩:=oA key;exact⟨⟨p,n,c⟩,xs,rfl,b.symm,j,hx⟩
end Go.Mp
namespace Go.Mp
open Go Go.Vc Go.Sp Go.Proofs Go.Kc Go.Kw Go.Kt
variable{E:Env}{L:ch}{w W:World}{A:At}{v:Nat}{V:Vs}
def sD{bN bR:Int}{n m:Nat}(h:(decide (bN>24)||decide (bR>24)||decide (n>40)||decide (m>40))=false):bN<=24/\bR<=24/\n<=40/\m<=40:=by
 simp only[uI,uH]at h;omega
def St.cc(h:St E A v V L w):∃(B:At) (M:ch),B.c=A.c/\B.t=A.t/\Sep E (cd B V.core++M) w/\∀(F:ch) w',Sep E (cd B V.core++(F++M)) w'->St E A v V (F++L) w':=by
 obtain⟨gs,us,r,ps,h1,a,b⟩:=h;refine⟨{A with gs:=gs,us:=us},(bE v [Pb A.c,Sv r]::bC r 2 (bQ gJ ps)::(ps.map g2++L)),rfl,rfl,b,λF w' c=>⟨gs,us,r,ps,h1,a,?_⟩⟩;refine c.perm (mu _ ?_);have e:(bE v [Pb A.c,Sv r]::bC r 2 (bQ gJ ps)::(ps.map g2++L))=(bE v [Pb A.c,Sv r]::bC r 2 (bQ gJ ps)::ps.map g2)++L:=rfl;rw[e];exact kH _ _ _
def St.memory(g:Int)(h:St E A v V L w){K:Ending->bh6}(k:∀w',St E A v V L w'->K (.returned (Iv (V.core.memory g))) w'):Calls P om #[Pb A.c,Iv g] w K:=by
 obtain⟨B,M,a,_,h1,b⟩:=h.cc;rw[<- a];refine use (uq g h1) ?_;rintro _ w' ⟨rfl,c⟩;exact k w' (b [] w' c)
def St.swap(g:Int)(h:St E A v V L w){K:Ending->bh6}(k:∀w',St E A v V L w'->K (.returned (Iv (V.core.swap g))) w'):Calls P nz #[Pb A.c,Iv g] w K:=by
 obtain⟨B,M,a,_,h1,b⟩:=h.cc;rw[<- a];refine use (wD g h1) ?_;rintro _ w' ⟨rfl,c⟩;exact k w' (b [] w' c)
def St.bz(h:St E A v V L w)(m:fU V){K:Ending->bh6}(k:∀(s:Sl) w',s.n=V.core.bz.all.length->St E A v V (bC s 1 (bD V.core.bz.all)::L) w'->K (.returned (Sv s)) w'):Calls P uD #[Pb A.c] w K:=by
 obtain⟨B,M,a,_,h1,b⟩:=h.cc;rw[<- a];refine use (AS m.inv h1) ?_;rintro _ w' ⟨s,rfl,d,c⟩;exact k s w' d (b [_] w' c)
def St.bH(id:Int)(h:St E A v V L w){K:Ending->bh6}(k:∀w',St E A v V L w'->K (.returned (.tuple #[.agg (V.core.bz.get id).1.vs.toArray,Iv (V.core.bz.get id).2])) w'):Calls P rP #[Pb A.c,Iv id] w K:=by
 obtain⟨B,M,a,_,h1,b⟩:=h.cc;rw[<- a];refine use (uw id h1) ?_;rintro _ w' ⟨rfl,c⟩;exact k w' (b [] w' c)
def St.dr{f:bh6}(h:St E A v V L w)(k:∀w',St E A v V L w'->f w'):Dr f w:=by
 obtain⟨gs,us,r,ps,h1,a,b⟩:=h;exact Dr.i b (λw' c=>k w' ⟨gs,us,r,ps,h1,a,c⟩)
def St.alloc{c:Array Value}{t:TypeId}{f:Addr->bh6}(h:St E A v V L w)(k:∀b w',St E A v V (bE b c.toList::L) w'->f ⟨b,0,none⟩ w'):Al (.cells c t) f w:=by
 obtain⟨gs,us,r,ps,h1,a,d⟩:=h;exact Al.i d (λb w' e=>k b w' ⟨gs,us,r,ps,h1,a,Vm.eA e⟩)
end Go.Mp
namespace Go.Kw
open Go Go.Kc Go.Kt
def Gv{S T:Cs}{n:Nat}(h:Path n S T)(d:Kc.Inv S)(b:S.bz.next+n<16777216):ds S T:=by
 refine h.ind (R:=ds) ds.refl ds.trans (λS d b x hx=>?_) d b;have a:=Gm d b x;have f:x.k.tmod 12=x.k:=Int.tmod_eq_of_lt bA bA;have h1:∀g,db (S.act x).1.fr.used g=db S.fr.used g:=λg=>by rw[a.one,bJ (λe=>bA)]
 have c:∀g,db (S.act x).1.sl.used g=db S.sl.used g:=λg=>by rw[a.two,bJ (λe=>bA)]
 exact⟨λg=>⟨h1 g,c g⟩,λg=>by rw[<- h1];exact a.mem g,λg=>by rw[<- c];exact a.swp g,a.bK⟩
structure mr(V:Vs)(o:c7)(r:Vs×cE):Prop where
 mem:∀g,r.1.core.memory g<=V.core.memory g\/r.1.core.memory g<=db r.1.core.fr.used g
 swp:∀g,r.1.core.swap g<=V.core.swap g\/r.1.core.swap g<=db r.1.core.sl.used g
 one:∀g,db r.1.core.fr.used g=if(o.kind=2/\r.2.err=0)/\o.b=2/\g=o.a then o.c else db V.core.fr.used g
 two:∀g,db r.1.core.sl.used g=if(o.kind=2/\r.2.err=0)/\o.b=3/\g=o.a then o.c else db V.core.sl.used g
 ok:o.kind=2/\r.2.err=0->0<=o.a/\o.a<64
def mr.of{V:Vs}{o:c7}{r:Vs×cE}(a:o.kind≠2)(L:ds V.core r.1.core):mr V o r:=
 ⟨λg=>by rw[(L.lim g).1];exact L.mem g,λg=>by rw[(L.lim g).2];exact L.swp g,λg=>by rw[bJ (λe=>a e.1.1)];exact(L.lim g).1,λg=>by rw[bJ (λe=>a e.1.1)];exact(L.lim g).2,λe=>absurd e.1 a⟩
def aIv{V:Vs}(d:Kc.Inv V.core)(h:V.core.bz.next+(V.procs.length+1)<16777216)(o:c7):mr V o (V.act o):=by
 by_cases b:o.kind=0
 ·refine mr.of bA ?_;unfold Vs.act;rw[bM b];exact ds.bZ _
 by_cases h1:o.kind=1
 ·refine mr.of bA ?_;unfold Vs.act;rw[bJ b,bM h1];split;·exact ds.refl _
  ·exact ds.remove d _
 by_cases a:o.kind=2
 ·have k:=xe d o.a o.b o.c;have e:V.act o=({V with core:=(V.core.cf o.a o.b o.c).1},.bad (V.core.cf o.a o.b o.c).2):=by unfold Vs.act;rw[bJ b,bJ h1,bM a]
  rw[e];refine⟨λg=>.inl ?_,λg=>.inl ?_,λg=>?_,λg=>?_,λf=>?_⟩;·show(V.core.cf o.a o.b o.c).1.memory g<=_;rw[k.mem];exact e7 _
  ·show(V.core.cf o.a o.b o.c).1.swap g<=_;rw[k.swp];exact e7 _
  ·show db (V.core.cf o.a o.b o.c).1.fr.used g=if(o.kind=2/\(V.core.cf o.a o.b o.c).2=0)/\_ then _ else _
   rw[k.one];simp only[a,uW]
  ·show db (V.core.cf o.a o.b o.c).1.sl.used g=if(o.kind=2/\(V.core.cf o.a o.b o.c).2=0)/\_ then _ else _
   rw[k.two];simp only[a,uW]
  ·have c:=k.ok f.2;exact⟨(nb c).1,by have:=(nb c).2;have:=d.wf.fq;omega⟩
 ·exact mr.of a (Gv (Gu ⟨b,h1,a⟩) d bA)
end Go.Kw
namespace Go.Mp
open Go Go.Vc Go.Sp Go.Proofs Go.Kc
variable{E:Env}{L:ch}{w:World}{A:At}{S:Cs}
def Sep.lM{s:Sl}{l:bU}{i x:Int}{F:bh6}{q:Nat}(h:Sep E L w)(c:L[q]?=some (bC s 1 (bD l)))(f:s.n=l.length)(d:0<=i)(h1:i<l.length)(k:∀b,Sep E (L.set q (bC s 1 (bD (l.set i.toNat x)))) b->F b):cx s.p s.n i 1 λa=>Vc.St a (Iv x) F w:=
 iY (h.fr q c) f d h1 (λb e=>k b (Sep.put c e))
def pq(n k:Nat)(x y:Int):bU:=List.replicate k x++List.replicate (n-k) y
def aHg{n k:Nat}(h:k<=n)(x y:Int):(pq n k x y).length=n:=by simp[pq];omega
def aHh{n k:Nat}(h:k<n)(x y:Int):(pq n k x y).set k x=pq n (k+1) x y:=by
 unfold pq;rw[ik k _ (by simp),kJ,hG,show n-k=(n-(k+1))+1 by omega,nV,xx,List.replicate_succ',dc];rfl
def gA(C:List ei)(a:bU):Prop:=a.length=64/\∀g:Nat,g<64->a[g]?=some (db C g)
def Ts:gA j4 (List.replicate 64 1099511627776):=by
 refine⟨by simp,λg a=>?_⟩;rw[lN,bM a];unfold db gU;rw[bM (iJ.2 ⟨bA,bA⟩)];unfold j4;rw[dK,lN,eG];rfl
def gA.same{C a:List ei}{b:bU}(h:gA C b)(c:∀g,db a g=db C g):gA a b:=⟨h.1,λg d=>by rw[c];exact h.2 g d⟩
def gA.xn{C b:List ei}{c:bU}(h:gA C c){a x:Int}(i:0<=a/\a<64)(d:∀g,db b g=if g=a then x else db C g):gA b (c.set a.toNat x):=by
 refine⟨by rw[dA];exact h.1,λg f=>?_⟩;rw[d,jg];by_cases e:(g:Int)=a;·rw[bM e,eG,bM (by rw[h.1];omega)]
 ·rw[bJ e,cM];exact h.2 g f
def gA.getD{C:List ei}{a:bU}(h:gA C a){g:Int}(b:0<=g/\g<64):a.getD g.toNat 0=db C g:=by
 rw[dK,h.2 _ bA,show((g.toNat:Nat):Int)=g by omega];rfl
def aKZ{M:ch}{f:FuncId}{ca:Array Value}{V g:Int}{vs ls:Sl}{k j:bU}{q q2:Nat}{o b:bh6}(n:M[q]?=some (bC vs 1 (bD k)))(d:M[q2]?=some (bC ls 1 (bD j)))(F:vs.n=k.length)(D:ls.n=j.length)(i:0<=g/\g<k.length/\g<j.length)(hf:∀w,Sep E M w->Calls P f ca w (bW λv w'=>v=Iv V/\Sep E M w'))(hle:V<=k.getD g.toNat 0\/V<=j.getD g.toNat 0)(r:∀w',Sep E M w'->b w')(h:Sep E M w):
  cx vs.p vs.n g 1 λa=>∃x:Int,w.cell? a=some (Iv x)/\Calls P f ca w λe c=>∃y:Int,e=.returned (Iv y)/\∃t:Int,c.cell? a=some (Iv t)/\((Iv t):Value)=(Iv x)/\
   bif(decide (y>x))then(cx ls.p ls.n g 1 λm=>∃z:Int,c.cell? m=some (Iv z)/\Calls P f ca c λB w2=>∃u:Int,B=.returned (Iv u)/\∃A:Int,w2.cell? m=some (Iv A)/\((Iv A):Value)=(Iv z)/\
    bif(decide (u>z))then(o w2)else(b w2))else(b c):=by
 refine rT q h n F i.1 i.2.1 (λa s=>⟨_,s q h n,use (hf w h) ?_⟩);rintro _ c ⟨rfl,h1⟩;refine⟨_,rfl,_,s q h1 n,rfl,eW (λG=>?_) (λ_=>r c h1)⟩;refine rT q2 h1 d D i.1 i.2.2 (λm l=>⟨_,l q2 h1 d,use (hf c h1) ?_⟩);rintro _ w2 ⟨rfl,p⟩;exact⟨_,rfl,_,l q2 p d,rfl,eW (λC=>bA) (λ_=>r w2 p)⟩
def Tt(f:Int->Int)(k:Nat):((List.range (k+1)).map λi:Nat=>f i)=((List.range k).map λi:Nat=>f i)++[f k]:=by rw[Hb,jV];rfl
def Tu(f:Int->Int){g:Int}{n:Nat}(a:0<=g/\g<n):((List.range n).map λi:Nat=>f i).getD g.toNat 0=f g:=by
 have h1:g.toNat<n:=by omega
 rw[dK,ew,my h1];show f ((g.toNat:Nat):Int)=f g;rw[show((g.toNat:Nat):Int)=g by omega]
end Go.Mp
namespace Go.Mp
open Go Go.Vc Go.Sp Go.Proofs Go.Kc Go.Kw Go.Kt
variable{E:Env}{L:ch}{w W:World}{A:At}{v:Nat}{V:Vs}
def Tv{r:Sl}{S:Cs}{ps:PS}(k:Nat)(B:Asn):(Vm A v r S ps L).set (18+ps.length+k) B=Vm A v r S ps (L.set k B):=by
 unfold Vm;rw[uz,uz,ik _ _ (by rw[qq];omega),qq,ik _ _ (by simp;omega),eb,show 18+ps.length+k-18-ps.length=k by omega]
def St.AU{s:Sl}{l:bU}{i x:Int}{F:bh6}{q:Nat}(h:St E A v V L w)(m:L[q]?=some (bC s 1 (bD l)))(j:s.n=l.length)(g:0<=i)(h1:i<l.length)(k:∀b,St E A v V (L.set q (bC s 1 (bD (l.set i.toNat x)))) b->F b):cx s.p s.n i 1 λa=>Vc.St a (Iv x) F w:=by
 obtain⟨gs,us,r,ps,d,e,f⟩:=h;refine Sep.lM (q:=18+ps.length+q) f (by rw[ml];exact m) j g h1 (λb c=>k b ⟨gs,us,r,ps,d,e,?_⟩);rw[Tv]at c;exact c
def St.make(n:Nat)(e:n<1000000)(h:St E A v V L w){G:Sl->bh6}(k:∀s a,s.n=n->St E A v V (bC s 1 (bD (List.replicate n 0))::L) a->G s a):
  ∃x:Sl,∃a,Sem.run P (Instr.makeSlice jB (Iv ((n:Nat):Int)) (Iv ((n:Nat):Int))) w=.ok (Sv x) a/\G x a:=by
 obtain⟨gs,us,r,ps,b,c,d⟩:=h;exact pb e d (λs a f h1=>k s a f ⟨gs,us,r,ps,b,c,Vm.eA h1⟩)
def St.nil(h:St E A v V L w)(m:Nat):St E A v V (bC ⟨none,0,0⟩ m []::L) w:=by
 obtain⟨gs,us,r,ps,a,b,c⟩:=h;exact⟨gs,us,r,ps,a,b,Vm.eA (bC.none_ (m:=m) c)⟩
def St.app{s:Sl}{l:bU}{x:Int}{t:TypeId}{q:Nat}(h:St E A v V L w)(y:L[q]?=some (bC s 1 (bD l)))(u:s.n=l.length)(o:l.length<100000000){G:Sl->bh6}(k:∀s' a,s'.n=(l++[x]).length->St E A v V (L.set q (bC s' 1 (bD (l++[x])))) a->G s' a):
  Al (.cells #[Iv x] t) (λp w2=>∃e:Sl,∃a,Sem.run P (Builtin.append_ #[jB,jB] jB #[Sv s,.slice (some p) 1 1]) w2=.ok (Sv e) a/\G e a) w:=by
 obtain⟨gs,us,r,ps,f,g,i⟩:=h;refine Al.i i (λb w2 j=>?_);have c:(Vm {A with gs:=gs,us:=us} v r V.core ps L)[18+ps.length+q]?=some (bC s 1 (bD l)):=by rw[ml];exact y
 have m:=(j.fr (18+ps.length+q+1) (by simpa using c)).swap;refine rV u o m (λs' a z n=>k s' a z ⟨gs,us,r,ps,f,g,?_⟩);have d:=Sep.put (A':=bC s' 1 (bD (l++[x]))) c n;rw[Tv]at d;exact d
def St.nt{f:FuncId}{ca:Array Value}{U g:Int}{vs ls:Sl}{d c:bU}{q q2:Nat}{k b:bh6}(h:St E A v V L w)(F:L[q]?=some (bC vs 1 (bD d)))(m:L[q2]?=some (bC ls 1 (bD c)))(G:vs.n=d.length)(D:ls.n=c.length)(C:0<=g/\g<d.length/\g<c.length)(hf:∀(B:At) (M:ch) w,B.c=A.c->Sep E (cd B V.core++M) w->Calls P f ca w (bW λv w'=>v=Iv U/\Sep E (cd B V.core++M) w'))(hle:U<=d.getD g.toNat 0\/U<=c.getD g.toNat 0)(u:∀w',St E A v V L w'->b w'):
  cx vs.p vs.n g 1 λa=>∃x:Int,w.cell? a=some (Iv x)/\Calls P f ca w λe i=>∃y:Int,e=.returned (Iv y)/\∃n:Int,i.cell? a=some (Iv n)/\((Iv n):Value)=(Iv x)/\
   bif(decide (y>x))then(cx ls.p ls.n g 1 λl=>∃z:Int,i.cell? l=some (Iv z)/\Calls P f ca i λj w2=>∃o:Int,j=.returned (Iv o)/\∃p:Int,w2.cell? l=some (Iv p)/\((Iv p):Value)=(Iv z)/\
    bif(decide (o>z))then(k w2)else(b w2))else(b i):=by
 obtain⟨gs,us,r,ps,s,j,t⟩:=h;exact aKZ (M:=Vm {A with gs:=gs,us:=us} v r V.core ps L) (q:=18+ps.length+q) (q2:=18+ps.length+q2) (by rw[ml];exact F) (by rw[ml];exact m) G D C (λw h=>hf {A with gs:=gs,us:=us} _ w rfl h) hle (λw' h'=>u w' ⟨gs,us,r,ps,s,j,h'⟩) t
def aD0{bN bR:Int}{sz l:Sl}{zs:bU}{os:List c7}(aI:qT W sz zs)(ay:fG W l os)(h:Sep E (cy W.heap::L) w):
  Calls P oC #[Iv bN,Iv bR,Sv sz,Sv l] w (bW λv w'=>v=.bool true/\Sep E (cy W.heap::L) w'):=by
 apply anN;unfold Tq qC qD qF qL qO qQ qR qU qW qg qh zG zL zW ze zx;refine use (Gk h) ?_;rintro _ aV ⟨rfl,h1⟩;refine⟨_,rfl,bF rfl (use (sC bN bR sz l aV) ?_)⟩;rintro _ _ ⟨rfl,rfl⟩;refine⟨_,rfl,cw (λ_=>⟨rfl,h1⟩) (λaM=>?_)⟩;obtain⟨_,_,_,a3⟩:=sD aM;have aY:=ay.1;refine oy (sz:=sz) (l:=zs) (aI.ints (q:=0) rfl) aI.2.1 h1 (λA v a5 ho aH=>⟨_,rfl,aH.core ⟨_,rfl,bF rfl ?_⟩⟩);refine aH.make 64 bO (λs1 a6 aj aR=>aR.make 64 bO (λs2 a7 ak aS=>?_));refine⟨λi w'=>∃k:Nat,i=k/\k<=64/\St E A v (Vs.new bN bR zs) (bC s2 1 (bD (pq 64 k 1099511627776 0))::bC s1 1 (bD (pq 64 k 1099511627776 0))::L) w',λi _=>(64-i).toNat,⟨0,rfl,bO,aS⟩,?_⟩;rintro _ _ a8 ⟨k,rfl,aL,ax⟩;have N:=aHg aL 1099511627776 0;refine cL (λO=>?_) (λag=>?_)
 ·refine ax.AU (q:=1) rfl (by rw[N];exact aj) bA (by rw[N];omega) (λaW aq=>?_);refine aq.AU (q:=0) rfl (by rw[N];exact ak) bA (by rw[N];omega) (λaX r=>?_);rw[dk,aHh bA]at r;rw[c1];refine⟨⟨k+1,rfl,bA,r⟩,?_⟩;show((64:Int)-((k+1:Nat):Int)).toNat<((64:Int)-(k:Int)).toNat;omega
 have aB:k=64:=by omega
 subst aB;have az:pq 64 64 1099511627776 0=List.replicate 64 1099511627776:=by unfold pq;simp
 rw[az]at ax;refine⟨λi w'=>∃(k:Nat) (Y:Vs) (aa G:bU),i=k/\k<=os.length/\fU Y/\Y.core.bz.next<=66*k/\gA Y.core.fr.used aa/\gA Y.core.sl.used G/\St E A v Y (bC s2 1 (bD G)::bC s1 1 (bD aa)::L) w',λi _=>(os.length-i).toNat,
  ⟨0,_,_,_,rfl,ec _,fU.new bN bR zs,by rw[sq];decide,Ts,Ts,ax⟩,?_⟩
 rintro _ _ aW ⟨k,Y,aa,G,rfl,aL,aE,a4,Q,R,aq⟩;refine cL (λO=>?_) (λag=>⟨rfl,by have r:=aq.tail.tail.drop;rw[ho]at r;exact r⟩);have ar:k<os.length:=by omega
 obtain⟨x,hx⟩:∃x,os[k]?=some x:=⟨_,dD ar⟩
 refine⟨λH I i w'=>∃j:Nat,i=j/\j<=64/\H.n=j/\I.n=j/\St E A v Y (bC I 1 (bD ((List.range j).map λi:Nat=>Y.core.swap i))::bC H 1 (bD ((List.range j).map λi:Nat=>Y.core.memory i))::bC s2 1 (bD G)::bC s1 1 (bD aa)::L) w',λ_ _ i _=>(64-i).toNat,
  ⟨0,rfl,bO,rfl,rfl,(aq.nil 1).nil 1⟩,?_⟩
 rintro _ H I _ aX ⟨j,rfl,aT,au,av,r⟩;refine cL (λO=>?_) (λag=>?_)
 ·refine r.memory (j:Int) (λaO t=>⟨_,rfl,t.app (q:=1) rfl (by simpa using au) (by simp;omega) (λaZ aw ah d=>?_)⟩);rw[<- Tt]at ah d;refine d.swap (j:Int) (λao n=>⟨_,rfl,n.app (q:=0) rfl (by simpa using av) (by simp;omega) (λa0 ap al m=>?_)⟩);rw[<- Tt]at al m;rw[c1];refine⟨⟨j+1,rfl,bA,by simpa using ah,by simpa using al,m⟩,?_⟩;show((64:Int)-((j+1:Nat):Int)).toNat<((64:Int)-(j:Int)).toNat;omega
 have aA:j=64:=by omega
 subst aA;obtain⟨D,S⟩:∃D:bU,((List.range 64).map λi:Nat=>Y.core.memory i)=D:=⟨_,rfl⟩
 obtain⟨wl,X⟩:∃wl:bU,((List.range 64).map λi:Nat=>Y.core.swap i)=wl:=⟨_,rfl⟩
 have ai:D.length=64:=by rw[<- S];simp
 have am:wl.length=64:=by rw[<- X];simp
 have aC:∀g:Int,0<=g/\g<64->D.getD g.toNat 0=Y.core.memory g:=λg u=>by rw[<- S];exact Tu _ u
 have aD:∀g:Int,0<=g/\g<64->wl.getD g.toNat 0=Y.core.swap g:=λg u=>by rw[<- X];exact Tu _ u
 rw[S,X]at r;clear S X;refine r.op ay ho hx (λa s=>⟨_,s 0 _ rfl r,_,s 1 _ rfl r,_,s 2 _ rfl r,_,s 3 _ rfl r,_,s 4 _ rfl r,?_⟩);have fq:=aE.fq;have act:=aIv aE.inv bA x;refine r.gX (o:=x) aE bA (λC p aO _ t aN nZ=>?_);obtain⟨Z,aJ⟩:∃Z,Y.act x=Z:=⟨_,rfl⟩
 rw[aJ]at t aN nZ act;have mj:∀ {L':ch} {w':World} {F:Addr->Prop},St E A v Z.1 L' w'->(∀a,(∀(j:Nat) y,(dO x)[j]?=some y->w'.cell? (a.add j)=some y)->F a)->cx l.p l.n (k:Int) 5 F:=λ{L' w' F} aK f=>aK.op ay ho hx (λa s=>f a (λj y aU=>s j y aU aK));refine⟨λw'=>∃K,gA Z.1.core.fr.used K/\St E A v Z.1 (bE p (dC Z.2 C)::bC C 1 (bD Z.2.bI)::bC I 1 (bD wl)::bC H 1 (bD D)::bC s2 1 (bD G)::bC s1 1 (bD K)::L) w',?_,?_⟩
 ·refine⟨λb w'=>b=decide ((x.kind=2/\Z.2.err=0)/\x.b=2)/\St E A v Z.1 (bE p (dC Z.2 C)::bC C 1 (bD Z.2.bI)::bC I 1 (bD wl)::bC H 1 (bD D)::bC s2 1 (bD G)::bC s1 1 (bD aa)::L) w',?_,?_⟩
  ·refine mj t (λa c=>⟨_,c 0 _ rfl,eD (λJ=>⟨_,t.cell (k:=0) (j:=0) rfl rfl,eD (λz=>mj t (λa c=>⟨_,c 2 _ rfl,?_,t⟩)) (λz=>⟨by rw[c4];exact λe=>z e.1.2,t⟩)⟩) (λJ=>⟨by rw[c4];exact λe=>J e.1.1,t⟩)⟩);rw[G8,pH,gj];exact⟨λe=>⟨⟨J,z⟩,e⟩,λe=>e.2⟩
  rintro _ b aw ⟨rfl,d⟩;refine cw (λc=>?_) (λc=>?_)
  ·have c:=jL c;have s:=act.ok c.1;refine d.dr (λao n=>mj n (λa ae=>⟨_,ae 1 _ rfl,mj n (λaQ af=>⟨_,af 3 _ rfl,?_⟩)⟩));refine n.AU (q:=5) rfl (by rw[Q.1];exact aj) s.1 (by rw[Q.1];exact s.2) (λap m=>⟨_,Q.xn s (λab=>?_),m⟩);rw[act.one];by_cases e:ab=x.a;·rw[bM ⟨c.1,c.2,e⟩,bM e]
   ·rw[bJ (λz=>e z.2.2),bJ e]
  ·have c:=jo c;exact⟨aa,Q.same (λab=>by rw[act.one,bJ (λe=>c ⟨e.1,e.2.1⟩)]),d⟩
 rintro _ aw ⟨K,T,d⟩;refine⟨λw'=>∃an,gA Z.1.core.sl.used an/\St E A v Z.1 (bE p (dC Z.2 C)::bC C 1 (bD Z.2.bI)::bC I 1 (bD wl)::bC H 1 (bD D)::bC s2 1 (bD an)::bC s1 1 (bD K)::L) w',?_,?_⟩
 ·refine⟨λb w'=>b=decide ((x.kind=2/\Z.2.err=0)/\x.b=3)/\St E A v Z.1 (bE p (dC Z.2 C)::bC C 1 (bD Z.2.bI)::bC I 1 (bD wl)::bC H 1 (bD D)::bC s2 1 (bD G)::bC s1 1 (bD K)::L) w',?_,?_⟩
  ·refine mj d (λa c=>⟨_,c 0 _ rfl,eD (λJ=>⟨_,d.cell (k:=0) (j:=0) rfl rfl,eD (λz=>mj d (λa c=>⟨_,c 2 _ rfl,?_,d⟩)) (λz=>⟨by rw[c4];exact λe=>z e.1.2,d⟩)⟩) (λJ=>⟨by rw[c4];exact λe=>J e.1.1,d⟩)⟩);rw[G8,pH,gj];exact⟨λe=>⟨⟨J,z⟩,e⟩,λe=>e.2⟩
  rintro _ b ao ⟨rfl,n⟩;refine cw (λc=>?_) (λc=>?_)
  ·have c:=jL c;have s:=act.ok c.1;refine n.dr (λap m=>mj m (λa ae=>⟨_,ae 1 _ rfl,mj m (λaQ af=>⟨_,af 3 _ rfl,?_⟩)⟩));refine m.AU (q:=4) rfl (by rw[R.1];exact ak) s.1 (by rw[R.1];exact s.2) (λaP ad=>⟨_,R.xn s (λab=>?_),ad⟩);rw[act.two];by_cases e:ab=x.a;·rw[bM ⟨c.1,c.2,e⟩,bM e]
   ·rw[bJ (λz=>e z.2.2),bJ e]
  ·have c:=jo c;exact⟨G,R.same (λab=>by rw[act.two,bJ (λe=>c ⟨e.1,e.2.1⟩)]),n⟩
 rintro _ ao ⟨an,V,n⟩;refine⟨λi w'=>∃j:Nat,i=j/\j<=64/\St E A v Z.1 (bE p (dC Z.2 C)::bC C 1 (bD Z.2.bI)::bC I 1 (bD wl)::bC H 1 (bD D)::bC s2 1 (bD an)::bC s1 1 (bD K)::L) w',λi _=>(64-i).toNat,⟨0,rfl,bO,n⟩,?_⟩;rintro _ _ ap ⟨j,rfl,aT,m⟩;refine cL (λO=>?_) (λag=>?_)
 ·have u:(0:Int)<=(j:Int)/\(j:Int)<64:=⟨bA,O⟩
  refine m.dr (λaP ad=>?_);refine ad.nt (q:=5) (q2:=3) (U:=Z.1.core.memory j) rfl rfl (by rw[T.1];exact aj) (by rw[ai];exact au) ⟨u.1,by rw[T.1];exact u.2,by rw[ai];exact u.2⟩ (λB M w e h'=>e▸uq (j:Int) h') (by rw[aC _ u,T.getD u];exact(act.mem _).symm) (λa1 aF=>?_);refine aF.nt (q:=4) (q2:=2) (U:=Z.1.core.swap j) rfl rfl (by rw[V.1];exact ak) (by rw[am];exact av) ⟨u.1,by rw[V.1];exact u.2,by rw[am];exact u.2⟩ (λB M w e h'=>e▸wD (j:Int) h') (by rw[aD _ u,V.getD u];exact(act.swp _).symm) (λa2 aG=>?_);rw[c1];refine⟨⟨j+1,rfl,bA,aG⟩,?_⟩;show((64:Int)-((j+1:Nat):Int)).toNat<((64:Int)-(j:Int)).toNat;omega
 ·rw[c1];refine⟨⟨k+1,Z.1,K,an,rfl,ar,aN,bA,T,V,m.tail.tail.tail.tail⟩,?_⟩;show(((os.length:Nat):Int)-((k+1:Nat):Int)).toNat<(((os.length:Nat):Int)-(k:Int)).toNat;omega
end Go.Mp
namespace Go.Proofs.YtafigbgagbolgaaGreatDoor
open Go Go.Vc Go.Sp Go.Mp Go.RowKit Go.ChangeShapes
def axr(os:Os)(started:os.Started)(H:Type)(enc:TypeId×Value->H):
  ReturnsInHanded {} kX os oC .any (λw args=>(Rows.topLimitsSpec.pre enc P m1 [] false w args/\laidMetH P ih w)/\sizedMet enc P m1 (OpenSpec.ofChange Rows.topLimitsSpec) false w args) (Rows.topLimitsSpec.post enc P m1 false true false false):=by
 refine w1 (C:=kX) (tb:=vv) (X:=λw=>laidMetH P ih w) (λ_ _ m h=>h.of_heap m) own started cr Gy
  (ChangeSpec.witness_shaped (enc:=enc) (C:=kX) (os:=os) (X:=λw _=>laidMetH P ih w) false (World.laidAll P os ih) #[.int .i64 0,.int .i64 0,.slice none 0 0,.slice none 0 0] 8 (World.laidAll_os _ _ _) (World.shaped_of_ZipB cr cr) cr cr cr (w4 os _))
  laidOut cr cr rfl cr ?_ ?_
 ·intro e gs j k
  match e,gs,j,k with
  |[d0,d1,d2,d3],[],_,_=>rfl
 ·intro W base args b a _ hx;have hw:=w5 hx;obtain⟨o,p,q,r,rfl⟩:=Gl b;have a0:=a 0 _ _ rfl rfl;have c:=a 1 _ _ rfl rfl;have d:=a 2 _ _ rfl rfl;have a3:=a 3 _ _ rfl rfl;obtain⟨f,rfl,hf⟩:=mZ a0;obtain⟨s,rfl,n⟩:=mZ c;obtain⟨sz,zs,rfl,i⟩:=xm (oB cr d);obtain⟨l,xs,rfl,g⟩:=q1 a3;refine use (aD0 i g hw) ?_;rintro v w' ⟨rfl,h⟩;exact⟨_,rfl,rfl,w6 h⟩
def Tw:Tryz.pinned.checked.prog.funcNamed Rows.topLimitsRow.func=some oC:=by kernel_rfl
def aDb:sc P m1 Rows.topLimitsSpec Rows.topLimitsRow=true:=by kernel_rfl
def aDc:sd P oC Rows.topLimitsRow=true:=by kernel_rfl
def aDd:se P oC Rows.topLimitsRow=true:=by kernel_rfl
def aDe:sf P oC Rows.topLimitsRow=true:=by kernel_rfl
def aDf:si P oC Rows.topLimitsRow=true:=by kernel_rfl
def aDg:sj P m1 Rows.topLimitsSpec Rows.topLimitsRow=true:=by kernel_rfl
def aDh:sk P m1 Rows.topLimitsSpec Rows.topLimitsRow=true:=by kernel_rfl
def aDi:sm P Rows.topLimitsRow=true:=by kernel_rfl
def aDj:sn P m1 Rows.topLimitsSpec Rows.topLimitsRow=true:=by kernel_rfl
def ayU:Rows.TopLimitsSaid:=
 OpenClaim.holds_of_wide oC m1 rfl rfl rfl rfl rfl rfl rfl ⟨rfl,rfl,rfl,rfl,rfl⟩ rfl rfl rfl rfl rfl Tw Gy
  (w3 aDb aDc aDd aDe aDf aDg aDh aDi aDj)
  (jL cr) (by unfold Func.isWrapper;rw[bJ (by decide+kernel)];exact⟨rfl,rfl⟩)
  (λos started H enc _=>axr os started H enc)
def aDk:Rows.topLimitsRow.wfByText (OpenSpec.ofChange Rows.topLimitsSpec)=true:=by kernel_rfl
def azV:Tryz.pinned.checked.prog.mainIs=some (true, "6dae9ca1e3fae822e43264ec614d78dc4c2fe72aea56ab24750a95019e43a27c".toList):=by kernel_rfl
def ayV:false=Tryz.pinned.checked.prog.looks []:=by kernel_rfl
def azU:false=Rows.topLimitsRow.goesBy Tryz.pinned.checked.prog:=by kernel_rfl
def ayW:(m1.params.toList.all λu=> !P.wantsStandIn u)=true:=by kernel_rfl
def topLimits_card:Rows.TopLimitsCardSaid:=
 Claim7.holds_tied_plain_at .later [] [.data] true (true, "6dae9ca1e3fae822e43264ec614d78dc4c2fe72aea56ab24750a95019e43a27c") false
  ayU (λ_ h=>by cases h) aDk (λ_ h=>by cases h) topLimits_row_tie rfl ⟨rfl,rfl⟩ azV rfl
  (λf fn hf a=>by
   obtain rfl:f=oC:=cQ (Tw.symm.trans hf) |>.symm;obtain rfl:fn=m1:=(cQ (Gy.symm.trans a)).symm;refine⟨ayV,λj t b=>?_⟩;have hm:t∈m1.params.toList:=by simpa using ku b
   exact(show P.wantsStandIn t=false by simpa using fB.1 ayW t hm))
  azU
end Go.Proofs.YtafigbgagbolgaaGreatDoor
