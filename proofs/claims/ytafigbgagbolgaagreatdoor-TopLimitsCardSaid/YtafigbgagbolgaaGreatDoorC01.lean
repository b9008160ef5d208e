/- Part of a proof about the core: of its walks and plain laws. -/
import Derived.Test.YtafigbgagbolgaaGreatDoorC00
import Derived.Deep.LoopGhost
import Derived.Deep.Quiet
import Derived.Eval
set_option linter.all false
open Go.IntKind(i64 u64)
namespace Go.Vc
open Go
section
variable{P:Program}{τ:TypeId->K1}{ρ:TypeId->Kd}{cz:FuncId->Bool}{A:dS}
def n3(ops:Array Oper)(i j:Nat):Bool:=(mF ops ops.size j).testBit i
def eg(σ:List Nat)(i:Nat):Nat:=σ.idxOf i
def xS(o:Oper)(t:Nat):Bool:=match o.dst with|some d=>Nat.beq d t|none=>false
def HR(ops:Array Oper)(σ:List Nat)(i j:Nat):Bool:=
 (n3 ops j i&&Nat.blt (eg σ j) (eg σ i))||(n3 ops i j&&Nat.blt (eg σ i) (eg σ j))
def UO(ops:Array Oper)(σ:List Nat):Bool:=
 (List.range ops.size).all λi=>match ops[i]? with
  |none=>false
  |some o=>(o.looksAt ops).all λt=>(List.range ops.size).all λj=>match ops[j]? with
   |none=>false
   |some oj=> !xS oj t||HR ops σ i j
def UP(ops:Array Oper)(C:List (List Nat))(σ cp:List Nat):Bool:=
 cp.all λe=>(List.range ops.size).all λi=> !Nat.blt (eg σ e) (eg σ i)||n3 ops e i||(List.range ops.size).any (λj=>n3 ops j i&&Nat.ble (eg σ e) (eg σ j))||(cp.contains i&&C.any λc=>c.take (eg σ e+1)==σ.take (eg σ e)++[i])
def UQ(ops:Array Oper):Bool:=
 (List.range ops.size).all λi=>(List.range ops.size).all λj=>Nat.beq i j||(match(ops[i]?).bind (·.dst),(ops[j]?).bind (·.dst)with
  |some d,some a=> !Nat.beq d a
  |_,_=>true)
def UR(ops:Array Oper):Bool:=
 (List.range ops.size).all λi=>match ops[i]? with
  |none=>false
  |some o=>o.after.toList.all λe=> !Region.binds .any e||Nat.blt e.on i
def US(ops:Array Oper)(σ cp:List Nat):Bool:=
 (List.range ops.size).all λi=>match ops[i]? with
  |none=>false
  |some o=>cp.contains i|| !ji o.op||((o.looksAt ops).all λt=>(List.range ops.size).all λj=>match ops[j]? with
   |none=>false
   |some oj=> !xS oj t||(n3 ops j i&&Nat.blt (eg σ j) (eg σ i)))
def rr(ops:Array Oper)(C:List (List Nat))(σ cp:List Nat):Bool:=
 Region.noSelect ops&&(List.range ops.size).all (λi=>σ.contains i)&&σ.all (λi=>Nat.blt i ops.size)&&(List.range σ.length).all (λk=>Nat.beq (eg σ (σ.getD k 0)) k)&&
 UO ops σ&&UP ops C σ cp&&UQ ops&&UR ops&&US ops σ cp&&ops.toList.all (λo=> !ji o.op||o.dst.isSome)&&Nat.beq σ.length ops.size
def BF(ops:Array Oper)(C:List (List Nat))(cp:List Nat):Bool:= !C.isEmpty&&C.all λσ=>rr ops C σ cp
def xT{ops:Array Oper}{L:Nat->Bool}(m:∀j o,L j=true->ops[j]?=some o->∀e∈o.after,Region.binds .any e=true->L e.on=true):
  ∀(f j:Nat),(∀o,ops[j]?=some o->∀e∈o.after,Region.binds .any e=true->L e.on=true)->∀i,(mF ops f j).testBit i=true->L i=true:=by
 intro f;induction f with
 |zero=>intro j _ i h;simp[mF]at h
 |succ f t=>
  intro j r i h;unfold mF HL at h;split at h;·simp at h
  ·rename_i o ho;have key:∀(l:List Edge) (s:Nat),(∀e∈l,e∈o.after)->(s.testBit i=true->L i=true)->
     (l.foldl (λs e=>bif Region.binds .any e then s ||| 2^e.on ||| mF ops f e.on else s) s).testBit i=true->L i=true:=by
    intro l;induction l with
    |nil=>intro s _ d h;exact d h
    |cons e l q=>
     intro s n d h;rw[G9]at h;refine q _ (λe' c=>n e' (fI _ c)) ?_ h;intro a;cases b:Region.binds .any e with
     |false=>rw[b,g8]at a;exact d a
     |true=>
      rw[b,hr]at a;simp only[Nat.testBit_or,jr]at a;have g:L e.on=true:=r o ho e (n e (fj ..)) b;rcases a with(a|a)|a;·exact d a
      ·rw[sI]at a;simp only[gj]at a;rw[<- a];exact g
      ·exact t e.on (λo' p e' c k=>m e.on o' g p e' c k) i a
   exact key o.after.toList 0 (λe he=>by simpa using he) (by simp) h
def hI(ops:Array Oper)(o:Oper)(a b:Act):Prop:=∀t∈o.looksAt ops,a.tmps[t]?=b.tmps[t]?
def hI.exec{ops:Array Oper}{o:Oper}{a b:Act}(c:∀cs b,o.op≠ .select cs b)(h:hI ops o a b):execOp a.eval o=execOp b.eval o:=by
 refine execOp_congr o c λx hx=>?_;cases x with
 |tmp t=>
  have:t∈o.looksAt ops:=mw _ (xw.2 ⟨.tmp t,by simpa using hx,rfl⟩);have:=h t this;simp[Act.eval,iC,this]
 |const v=>rfl
 |global g=>rfl
 |func f=>rfl
def hI.wanted{ops:Array Oper}{o:Oper}{a b:Act}(h:hI ops o a b):Region.wanted o (yielded ops a.tmps)=Region.wanted o (yielded ops b.tmps):=by
 unfold Region.wanted;cases e:o.guard with
 |none=>rfl
 |some g=>
  obtain⟨j,want⟩:=g;dsimp only;have:yielded ops a.tmps j=yielded ops b.tmps j:=by
   unfold yielded;cases c:(ops[j]?).bind (·.dst)with
   |none=>rfl
   |some d=>
    have hm:d∈o.looksAt ops:=by
     unfold Oper.looksAt;rw[e];exact nU _ (by simp[c])
    simp only[G5,h d hm]
  rw[this]
def UT{o:Oper}{a b:Act}{w:World}{K i:Act->bh6}{Q Q':Exit->Act->bh6}(he:execOp a.eval o=execOp b.eval o)(h:o.wp P b w K Q)(g:∀v w',K (b.put o.dst v) w'->i (a.put o.dst v) w')(hp:∀c w',Q (.panic c) b w'->Q' (.panic c) a w')(ho:LetsOut Q->LetsOut Q')(f:∀d w',¬ K ({b with defers:=d::b.defers}.put o.dst undef) w'):o.wp P a w i Q':=by
 unfold Oper.wp at h ⊢;rw[he];generalize (execOp b.eval o).run P w=r at h;cases r with
 |ok n j=>
  cases n<;>first
   |exact g _ _ h
   |exact h.elim
   |skip
  ·exact Calls.mono h λe w' he=>by
    cases e with
    |returned v=>exact g _ _ he
    |panicked c=>exact hp _ _ he
    |outgrown=>exact ho he
  ·exact(f _ _ h).elim
  ·exact Rows.mono h λv w' he=>g _ _ he
 |halt x j=>
  cases x<;>first
   |exact hp _ _ h
   |exact h.elim
structure kM(ops:Array Oper)(σ cp:List Nat):Prop where
 nj:Region.noSelect ops=true
 all:∀i,i<ops.size->i∈σ
 lt:∀i∈σ,i<ops.size
 pos:∀k i,σ[k]?=some i->eg σ i=k
 reads:∀i o,ops[i]?=some o->∀t∈o.looksAt ops,∀j oj,ops[j]?=some oj->oj.dst=some t->(n3 ops j i=true/\eg σ j<eg σ i)\/(n3 ops i j=true/\eg σ i<eg σ j)
 dst:∀(i j:Nat) (oi oj:Oper) (d:Nat),ops[i]?=some oi->ops[j]?=some oj->oi.dst=some d->oj.dst=some d->i=j
 ve:∀i o,ops[i]?=some o->∀e∈o.after,Region.binds .any e=true->e.on<i
 rd:∀(i:Nat) (o:Oper),ops[i]?=some o->ji o.op=true->o.dst≠none
 len:σ.length=ops.size
 UU:∀i o,ops[i]?=some o->i∉cp->ji o.op=true->∀t∈o.looksAt ops,∀j oj,ops[j]?=some oj->oj.dst=some t->n3 ops j i=true/\eg σ j<eg σ i
def iP{ops:Array Oper}{i:Nat}{o:Oper}(h:ops[i]?=some o):i<ops.size:=by
 rcases gS i ops.size with h' | h';·exact h'
 ·simp[xv h']at h
def BG(ops:Array Oper)(C:List (List Nat))(σ cp:List Nat):Prop:=∀e∈cp,∀i,i<ops.size->eg σ e<eg σ i->(∃j,j<ops.size/\n3 ops j i=true/\eg σ e<=eg σ j)\/i∈cp/\∃c∈C,c.take (eg σ e+1)=σ.take (eg σ e)++[i]
def UW{ops:Array Oper}{C:List (List Nat)}{σ cp:List Nat}(h:rr ops C σ cp=true):kM ops σ cp/\BG ops C σ cp:=by
 unfold rr at h;simp only[dG]at h;obtain⟨⟨⟨⟨⟨⟨⟨⟨⟨⟨h1,z⟩,A⟩,B⟩,D⟩,E⟩,F⟩,G⟩,H⟩,s⟩,u⟩:=h;have l:∀i,i<ops.size->i∈σ:=λi c=>by simpa using fB.1 z i (fW.2 c)
 have g:∀i∈σ,i<ops.size:=λi c=>by simpa using fB.1 A i c
 have p:∀k i,σ[k]?=some i->eg σ i=k:=by
  intro k i x;have g:k<σ.length:=by
   rcases gS k σ.length with h|h;·exact h
   ·simp[fH h]at x
  have:=fB.1 B k (fW.2 g);simpa[List.getD,x]using this
 have y:∀(i:Nat) (o:Oper),ops[i]?=some o->ji o.op=true->o.dst≠none:=by
  intro i o ho q J;have hm:o∈ops.toList:=by rw[px];exact ku ho
  have:=fB.1 s o hm;simp[q,J]at this
 refine⟨⟨h1,l,g,p,?_,?_,?_,y,je u,?_⟩,?_⟩
 ·intro i o ho t r j oj f n;have a:=fB.1 D i (fW.2 (iP ho));simp only[ho]at a;have b:=fB.1 (fB.1 a t r) j (fW.2 (iP f));simp only[f,xS,n,HR,jr,dG,hR]at b;rcases b with b|b|b;·simp at b
  ·exact .inl ⟨b.1,by simpa using b.2⟩
  ·exact .inr ⟨b.1,by simpa using b.2⟩
 ·intro i j oi oj d c m v w;have a:=fB.1 (fB.1 F i (fW.2 (iP c))) j (fW.2 (iP m));simp only[c,m,G5,v,w,jr,hR]at a;rcases a with a|a;·simpa using a
  ·simp at a
 ·intro i o ho e he I;have a:=fB.1 G i (fW.2 (iP ho));simp only[ho]at a;have b:=fB.1 a e (by simpa using he);simp only[jr,hR,I]at b;rcases b with b|b;·cases b
  ·simpa using b
 ·intro i o ho c q t r j oj f n;have a:=fB.1 H i (fW.2 (iP ho));simp only[ho,jr,hR]at a;rcases a with(a|a)|a;·exact absurd (by simpa using a) c
  ·rw[q]at a;cases a
  ·have b:=fB.1 (fB.1 a t r) j (fW.2 (iP f));simp only[f,xS,n,jr,hR,dG]at b;rcases b with b|b;·simp at b
   ·exact⟨b.1,by simpa using b.2⟩
 ·intro e he i c hp;have a:=fB.1 (fB.1 E e he) i (fW.2 c);simp only[jr,hR,dG,sK,pH,kI]at a;rcases a with((a|a)|⟨j,m,a,b⟩)|⟨a,b⟩
  ·have:Nat.blt (eg σ e) (eg σ i)=true:=by simpa using hp
   rw[this]at a;cases a
  ·exact .inl ⟨e,g e (List.idxOf_lt_length_iff.1 (Hm hp (List.idxOf_lt_length_iff.2 (l i c)))),a,dN _⟩
  ·exact .inl ⟨j,fW.1 m,a,TV b⟩
  ·exact .inr ⟨a,b⟩
structure lY(ops:Array Oper)(N:Nat)(a0:Act)(M:Nat->Prop)(val:Nat->Value)(a:Act):Prop where
 defers:a.defers= []
 size:a.tmps.size=N
 put:∀j o t,ops[j]?=some o->o.dst=some t->M j->a.tmps[t]?=some (val j)
 dZ:∀t,(∀j o,ops[j]?=some o->o.dst=some t->¬ M j)->a.tmps[t]?=a0.tmps[t]?
def lY.add{ops:Array Oper}{σ cp:List Nat}(r:kM ops σ cp){N:Nat}(p:gT P N ops.toList=true){a0 a:Act}{M:Nat->Prop}{val:Nat->Value}(h:lY ops N a0 M val a){i:Nat}{o:Oper}(ho:ops[i]?=some o)(s:¬ M i)(v:Value):
  lY ops N a0 (λj=>M j\/j=i) (λj=>if j=i then v else val j) (a.put o.dst v):=by
 have l:o∈ops.toList:=by rw[px];exact ku ho
 have k:=lX p l;refine⟨?_,?_,?_,?_⟩;·cases o.dst<;>exact h.defers
 ·cases o.dst<;>simp[Act.put,h.size]
 ·intro j oj t b c g;by_cases e:j=i
  ·subst e;rw[ho]at b;injection b with b;subst b
   rw[bM rfl];have n:t<a.tmps.size:=by rw[h.size];exact k t c
   simp[Act.put,c,n]
  ·rw[bJ e];have m:M j:=g.resolve_right e;rw[<- h.put j oj t b c m];cases f:o.dst with
   |none=>rfl
   |some d=>
    have:d≠t:=λe'=>e (r.dst j i oj o t b ho c (by rw[f,e']));simp[Act.put,this]
 ·intro t q;rw[<- h.dZ t (λj oj b c g=>q j oj b c (.inl g))];cases f:o.dst with
  |none=>rfl
  |some d=>
   have:d≠t:=λe'=>q i o ho (by rw[f,e']) (.inr rfl);simp[Act.put,this]
def kN(P:Program)(ops:Array Oper)(σ:List Nat)(a0:Act)(val:Nat->Value)(w:World)(i:Nat):Prop:=
 ∀o,ops[i]?=some o->∀b:Act,(∀t∈o.looksAt ops,(∀j oj,ops[j]?=some oj->oj.dst=some t->eg σ j<eg σ i->b.tmps[t]?=some (val j))/\
   ((∀j oj,ops[j]?=some oj->oj.dst=some t->¬ eg σ j<eg σ i)->b.tmps[t]?=a0.tmps[t]?))->
  (Region.wanted o (yielded ops b.tmps)=true/\∀w',(ji o.op=true->w'=w)->(execOp b.eval o).run P w'=.ok (.value (val i)) w')\/
  (Region.wanted o (yielded ops b.tmps)=false/\val i=undef)
def HS{σ p rest:List Nat}{i:Nat}(h:σ=p++i::rest):σ[p.length]?=some i:=by
 subst h;simp
def kM.lt_iff{ops:Array Oper}{σ cp:List Nat}(d:kM ops σ cp){p rest:List Nat}{i:Nat}(h:σ=p++i::rest)(j:Nat)(l:j<ops.size):eg σ j<eg σ i↔j∈p:=by
 have g:eg σ i=p.length:=d.pos _ _ (HS h);rw[g];constructor
 ·intro e;obtain⟨k,b,c⟩:=GR (d.all j l);have a:σ[k]?=some j:=by rw[dD b,c]
  rw[d.pos k j a]at e;subst h;rw[eE e]at a;exact eu a
 ·intro f;obtain⟨k,b,c⟩:=GR f;have a:σ[k]?=some j:=by subst h;rw[eE b,dD b,c]
  rw[d.pos k j a];exact b
def HT{ops:Array Oper}{σ cp:List Nat}(f:kM ops σ cp){N:Nat}{a0 aT b:Act}{p rest:List Nat}{val:Nat->Value}{i:Nat}{o:Oper}(m:ops[i]?=some o)(g:σ=p++i::rest)(e:lY ops N a0 (· ∈p) val aT)(k:∀t∈o.looksAt ops,(∀j oj,ops[j]?=some oj->oj.dst=some t->eg σ j<eg σ i->b.tmps[t]?=some (val j))/\
   ((∀j oj,ops[j]?=some oj->oj.dst=some t->¬ eg σ j<eg σ i)->b.tmps[t]?=a0.tmps[t]?)):hI ops o b aT:=by
 intro t l;obtain⟨h1,h⟩:=k t l;by_cases hw:∃j oj,ops[j]?=some oj/\oj.dst=some t/\eg σ j<eg σ i
 ·obtain⟨j,oj,a,d,c⟩:=hw;rw[h1 j oj a d c,e.put j oj t a d ((f.lt_iff g j (iP a)).1 c)]
 ·rw[h (λj oj a d c=>hw ⟨j,oj,a,d,c⟩),e.dZ t (λj oj a d hm=>hw ⟨j,oj,a,d,(f.lt_iff g j (iP a)).2 hm⟩)]
structure hJ(P:Program)(ops:Array Oper)(σ cp:List Nat)(N:Nat)(a0:Act)(p:List Nat)(L:Nat->Bool)(val:Nat->Value)(a aT:Act)(T:Tr)(w:World)(done:List Nat):Prop where
 sub:∀j,L j=true->j∈p
 nk:∀e∈cp,e∈p->L e=true
 closed:∀j o,L j=true->ops[j]?=some o->∀e∈o.after,Region.binds .any e=true->L e.on=true
 at_:lY ops N a0 (λj=>L j=true) val a
 all:lY ops N a0 (· ∈p) val aT
 rel:Rel N T aT
 iq:∀i∈p,L i=false->kN P ops σ a0 val w i
 j2:∀i∈p,i∉cp->(∀o,ops[i]?=some o->ji o.op=true->i∈done\/∀w',kN P ops σ a0 val w' i)
def kN.ext{ops:Array Oper}{σ cp:List Nat}(g:kM ops σ cp){a0:Act}{val a:Nat->Value}{w:World}{p rest:List Nat}{k:Nat}(n:σ=p++k::rest){i:Nat}(d:i∈p)(m:∀j∈p,a j=val j)(h:kN P ops σ a0 val w i):kN P ops σ a0 a w i:=by
 intro o ho b c;have f:eg σ i<eg σ k:=(g.lt_iff n i (iP ho)).2 d;have:=h o ho b (λt l=>⟨λj oj e q hp=>by
  rw[<- m j ((g.lt_iff n j (iP e)).1 (Hm hp f))];exact(c t l).1 j oj e q hp,(c t l).2⟩)
 rw[m i d];exact this
def HU{ops:Array Oper}{σ cp:List Nat}(k:kM ops σ cp){N:Nat}{a0 aT:Act}{p rest:List Nat}{val:Nat->Value}{w:World}{i:Nat}{o:Oper}(ho:ops[i]?=some o)(r:σ=p++i::rest)(d:lY ops N a0 (· ∈p) val aT){v:Value}(q:(Region.wanted o (yielded ops aT.tmps)=true/\∀w',(ji o.op=true->w'=w)->(execOp aT.eval o).run P w'=.ok (.value v) w')\/(Region.wanted o (yielded ops aT.tmps)=false/\v=undef)):
  kN P ops σ a0 (λj=>if j=i then v else val j) w i:=by
 intro o' a b f;rw[ho]at a;injection a with a;subst a
 have c:hI ops o b aT:=HT k ho r d (λt l=>⟨λj oj n m hp=>by
  have h1:=(f t l).1 j oj n m hp;have g:j≠i:=λe=>uT _ (e▸hp);simpa only[bJ g]using h1,(f t l).2⟩)
 have h:∀cs b,o.op≠ .select cs b:=λcs b=>Region.noSelect_spec k.nj i o cs b ho;rw[c.wanted,c.exec h];simpa only[fP]using q
def hJ.read{ops:Array Oper}{σ cp:List Nat}(g:kM ops σ cp){N:Nat}(H:N<=8000)(s:gT P N ops.toList=true){a0:Act}{p rest:List Nat}{L:Nat->Bool}{val:Nat->Value}{a aT:Act}{T:Tr}{w:World}{done:List Nat}{i:Nat}{o:Oper}(ho:ops[i]?=some o)(r:σ=p++i::rest)(C:i∉cp)(h:hJ P ops σ cp N a0 p L val a aT T w done){v:Value}{T':Tr}(z:∀t,T'.get t=T.get t)(J:(Region.wanted o (yielded ops aT.tmps)=true/\∀w',(ji o.op=true->w'=w)->(execOp aT.eval o).run P w'=.ok (.value v) w')\/(Region.wanted o (yielded ops aT.tmps)=false/\v=undef)){done':List Nat}(A:∀j∈done,j∈done')(B:ji o.op=true->i∈done'\/(Region.wanted o (yielded ops aT.tmps)=false/\v=undef)):
  hJ P ops σ cp N a0 (p++[i]) L (λj=>if j=i then v else val j) a (aT.put o.dst v) (T'.put o.dst v) w done':=by
 have n:i∉p:=λhm=>by
  have:=(g.lt_iff r i (iP ho)).2 hm;exact uT _ this
 have u:o∈ops.toList:=by rw[px];exact ku ho
 have G:L i=false:=by
  cases x:L i with
  |false=>rfl
  |true=>exact(n (h.sub i x)).elim
 have q:∀j∈p,(if j=i then v else val j)=val j:=λj d=>by
  have:j≠i:=λe=>n (e▸d);rw[bJ this]
 refine⟨λj d=>mw _ (h.sub j d),?_,h.closed,?_,?_,(h.rel.same z).put H (lX s u) v,?_,?_⟩
 ·intro e he c;rcases h6.1 c with c|c;·exact h.nk e he c
  ·simp only[iD]at c;subst c;exact(C he).elim
 ·refine⟨h.at_.defers,h.at_.size,λj oj t d m l=>?_,h.at_.dZ⟩;have D:j≠i:=λe=>by subst e;rw[G]at l;cases l
  rw[bJ D];exact h.at_.put j oj t d m l
 ·have:=lY.add g s h.all ho n v;refine⟨this.defers,this.size,λj oj t d m hm=>this.put j oj t d m ?_,λt I=>this.dZ t (λj oj d m hm=>I j oj d m ?_)⟩
  ·rcases h6.1 hm with hm|hm;·exact .inl hm
   ·exact .inr (by simpa using hm)
  ·rcases hm with hm|hm;·exact mw _ hm
   ·exact nU _ (by simp[hm])
 ·intro k b y;rcases h6.1 b with b|b;·exact kN.ext g r b q (h.iq k b y)
  ·simp only[iD]at b;subst b;exact HU g ho r h.all J
 ·intro k b E o' f F;rcases h6.1 b with b|b
  ·rcases h.j2 k b E o' f F with h1|h1;·exact .inl (A _ h1)
   ·exact .inr (λw'=>kN.ext g r b q (h1 w'))
  ·simp only[iD]at b;subst b;rw[ho]at f;injection f with f;subst f
   rcases B F with h1|h1;·exact .inl h1
   ·exact .inr (λw'=>HU g ho r h.all (.inr h1))
def xU{i:Nat}{r:List Nat}:∀ {C:List (List Nat)},r∈j1 i C↔i::r∈C
 |[]=>by simp[j1]
 |[]::C=>by rw[j1,xU (C:=C)];simp
 |(a::x)::C=>by
  rw[j1];cases h:Nat.beq a i with
  |true=>rw[hr,ey,xU (C:=C),ey,je h];simp
  |false=>
   have b:i≠a:=λe=>by rw[e,Nat.beq_refl]at h;cases h
   rw[g8,xU (C:=C),ey];simp[b]
def xV{i:Nat}{r:List Nat}:∀ {C:List (List Nat)} {s:List Nat},i::r∈C->i∈s\/i∈sW C s
 |[],_,h=>by cases h
 |[]::C,s,h=>by
  rcases ey.1 h with h|h;·cases h
  ·exact xV (C:=C) h
 |(a::x)::C,s,h=>by
  rw[sW];cases b:s.contains a with
  |true=>
   rw[hr];rcases ey.1 h with h|h;·cases h;exact .inl (by simpa using b)
   ·exact xV h
  |false=>
   rw[g8];rcases ey.1 h with h|h;·cases h;exact .inr (fj ..)
   ·rcases xV (s:=a::s) h with h|h
    ·rcases ey.1 h with h|h;·subst h;exact .inr (fj ..)
     ·exact .inl h
    ·exact .inr (fI _ h)
def HV{f:Nat->Prop}{i:Nat}:∀ {l:List Nat},rq f l->i∈l->f i
 |[],_,h=>by cases h
 |[a],h,c=>by rw[iD.1 c];exact h
 |a::b::l,h,c=>by
  rcases ey.1 c with e|c;·rw[e];exact h.1
  ·exact HV (l:=b::l) h.2 c
def HW{ops:Array Oper}{cp:List Nat}{Q:Exit->Tr->bh6}{n i:Nat}{o:Oper}{r:List Nat}{C:List (List Nat)}{done:List Nat}{T:Tr}{w:World}(h:gu P τ ρ cz A ops cp Q (n+1) C done T w)(a:i::r∈C)(ho:ops[i]?=some o):
  bif cp.contains i
    then j0 ops o T (λT=>nd P τ ρ cz A o T w (λT' w'=>rn P τ ρ ops T' w' (gu P τ ρ cz A ops cp Q n (j1 i C) done T' w') (done.filter λj=> !(mF ops ops.size i).testBit j)) (rp Q))
     (λT=>gu P τ ρ cz A ops cp Q n (j1 i C) done (T.put o.dst undef) w)
    else j0 ops o T (λT=>vQ P τ ρ o T.ev w λv=>gu P τ ρ cz A ops cp Q n (j1 i C) (bif ji o.op then i::done else done) (T.put o.dst v) w)
     (λT=>gu P τ ρ cz A ops cp Q n (j1 i C) done (T.put o.dst undef) w):=by
 unfold gu at h;have:=HV h ((xV (s:=[]) a).resolve_left (by simp));simp only[ho]at this;exact this
def lZ(a:List (List Nat))(p:List Nat)(C:List (List Nat)):Prop:=∀r,p++r∈a↔r∈C
def lZ.step{a C:List (List Nat)}{p:List Nat}(h:lZ a p C)(i:Nat):lZ a (p++[i]) (j1 i C):=λr=>by
 rw[xU,<- h,dc];rfl
def hJ.reads{ops:Array Oper}{q:List (List Nat)}{σ cp:List Nat}(m:kM ops σ cp)(n:σ∈q){N:Nat}(l:N<=8000)(b:gT P N ops.toList=true){a0:Act}{L:Nat->Bool}{a:Act}{Q:Exit->Tr->bh6}{w:World}{B:Prop}:
  ∀(rest p:List Nat) (C:List (List Nat)) (val:Nat->Value) (aT:Act) (T:Tr) (done:List Nat),σ=p++rest->lZ q p C->hJ P ops σ cp N a0 p L val a aT T w done->gu P τ ρ cz A ops cp Q rest.length C done T w->
   (∀(d u:List Nat) (y:List (List Nat)) (x:Nat->Value) (z:Act) (T':Tr) (done':List Nat),σ=u++d->lZ q u y->(∀i∈d.head?,i∈cp)->hJ P ops σ cp N a0 u L x a z T' w done'->gu P τ ρ cz A ops cp Q d.length y done' T' w->B)->B
 |[],p,C,val,aT,T,done,c,k,h,e,hB=>hB [] p C val aT T done c k (by simp) h e
 |i::rest,p,C,val,aT,T,done,c,k,h,e,hB=>by
  by_cases g:i∈cp;·exact hB (i::rest) p C val aT T done c k (by simpa using g) h e
  ·have I:i<ops.size:=m.lt i (by rw[c];simp);have ho:ops[i]?=some ops[i]:=oH I;generalize ops[i]=o at ho;have s:o∈ops.toList:=by rw[px];exact ku ho
   have e:=HW e ((k _).1 (c▸n)) ho;have H:cp.contains i=false:=by simpa using g
   rw[H,g8]at e;refine pO (B:=B) l b h.rel e ?_ ?_
   ·intro F f E hw;rw[<- (h.rel.same f).ev]at E;obtain⟨v,h1,G⟩:=u4 (oP b s) E;have:=h.read m l b ho c g f (v:=v) (.inl ⟨hw,λw' D=>h1 w' (λt=>by rw[D t];exact .refl w)⟩)
     (done':=bif ji o.op then i::done else done) (λj r=>by cases ji o.op<;>simp[r]) (λt=>.inl (by rw[t];simp))
    exact hJ.reads m n l b rest (p++[i]) _ _ _ _ _ (by rw[c];simp) (k.step i) this G hB
   ·intro F f J hw;have:=h.read m l b ho c g f (v:=undef) (.inr ⟨hw,rfl⟩) (done':=done) (λj r=>r) (λ_=>.inr ⟨hw,rfl⟩);exact hJ.reads m n l b rest (p++[i]) _ _ _ _ _ (by rw[c];simp) (k.step i) this J hB
def kN.kO{ops:Array Oper}{p r r':List Nat}{a0:Act}{val:Nat->Value}{w:World}{i:Nat}(d:i∈p)(h:kN P ops (p++r) a0 val w i):kN P ops (p++r') a0 val w i:=by
 have a:∀j:Nat,eg (p++r) j<eg (p++r) i↔eg (p++r') j<eg (p++r') i:=by
  intro j;unfold eg;have:=List.idxOf_lt_length_of_mem d;rw[G0,G0,G0,G0,bM d,bM d];split;·exact lS
  ·omega
 intro o ho b f;exact h o ho b λt g=>⟨λj oj e c hp=>(f t g).1 j oj e c ((a j).1 hp),λk=>(f t g).2 λj oj e c hp=>k j oj e c ((a j).2 hp)⟩
def hJ.kO{ops:Array Oper}{p r r' cp:List Nat}{N:Nat}{a0:Act}{L:Nat->Bool}{val:Nat->Value}{a aT:Act}{T:Tr}{w:World}{done:List Nat}(h:hJ P ops (p++r) cp N a0 p L val a aT T w done):hJ P ops (p++r') cp N a0 p L val a aT T w done:=
 ⟨h.sub,h.nk,h.closed,h.at_,h.all,h.rel,λi b c=>(h.iq i b c).kO b,λi b he o ho d=>(h.j2 i b he o ho d).imp id λh w'=>(h w').kO b⟩
def hJ.looks{ops:Array Oper}{σ cp:List Nat}(m:kM ops σ cp){N:Nat}{a0:Act}{p:List Nat}{L:Nat->Bool}{val:Nat->Value}{a aT:Act}{T:Tr}{w:World}{done:List Nat}(h:hJ P ops σ cp N a0 p L val a aT T w done){i:Nat}{o:Oper}(ho:ops[i]?=some o)(s:L i=false)(k:∀e∈o.after,Region.binds .any e=true->L e.on=true):
  ∀t∈o.looksAt ops,(∀j oj,ops[j]?=some oj->oj.dst=some t->eg σ j<eg σ i->a.tmps[t]?=some (val j))/\
   ((∀j oj,ops[j]?=some oj->oj.dst=some t->¬ eg σ j<eg σ i)->a.tmps[t]?=a0.tmps[t]?):=by
 intro t n;have g:∀j,n3 ops j i=true->L j=true:=λj c=>
  xT (L:=L) h.closed ops.size i (λo' b=>by rw[ho]at b;injection b with b;subst b;exact k) j c
 constructor
 ·intro j oj c d hp;rcases m.reads i o ho t n j oj c d with⟨h1,_⟩|⟨_,f⟩
  ·exact h.at_.put j oj t c d (g j h1)
  ·exact absurd hp (Nat.lt_asymm f)
 ·intro l;refine h.at_.dZ t (λj oj c d q=>?_);rcases m.reads i o ho t n j oj c d with⟨_,f⟩|⟨h1,_⟩
  ·exact l j oj c d f
  ·have:=xT (L:=L) h.closed ops.size j (λo' b e he r=>h.closed j o' q b e he r) i h1;rw[s]at this;cases this
def BH{ops:Array Oper}{N:Nat}(q:N<=8000)(g:gT P N ops.toList=true){T:Tr}{aT:Act}{w:World}{next:Prop}(m:Rel N T aT):∀(l:List Nat),rn P τ ρ ops T w next l->
  next/\∀j∈l,∀o,ops[j]?=some o->(Region.wanted o (yielded ops aT.tmps)=true/\∃v,(∀w',(ji o.op=true->Grow w w')->(execOp aT.eval o).run P w'=.ok (.value v) w')/\∀d,o.dst=some d->v=T.get d)\/Region.wanted o (yielded ops aT.tmps)=false
 |[],h=>⟨h,λ_ h=>by cases h⟩
 |j::l,h=>by
  unfold rn at h;split at h;·exact h.elim
  ·rename_i o ho;have r:o∈ops.toList:=by rw[px];exact ku ho
   refine pO (B:=next/\∀k∈j::l,∀o,ops[k]?=some o->(Region.wanted o (yielded ops aT.tmps)=true/\∃v,(∀w',(ji o.op=true->Grow w w')->(execOp aT.eval o).run P w'=.ok (.value v) w')/\∀d,o.dst=some d->v=T.get d)\/Region.wanted o (yielded ops aT.tmps)=false) q g m h ?_ ?_
   ·intro z b y hw;rw[<- (m.same b).ev]at y;obtain⟨v,h1,u,A⟩:=u4 (oP g r) y;obtain⟨s,e⟩:=BH q g (m.same b) l A;refine⟨s,λk c o' a=>?_⟩;rcases ey.1 c with c|c
    ·subst c;rw[ho]at a;injection a with a;subst a
     refine .inl ⟨hw,v,h1,λd i=>?_⟩;rw[i]at u;exact u.trans (b d)
    ·rcases e k c o' a with⟨f,t,n,p⟩|f;·exact .inl ⟨f,t,n,λd i=>(p d i).trans (b d)⟩
     ·exact .inr f
   ·intro z b s hw;obtain⟨x,e⟩:=BH q g (m.same b) l s;refine⟨x,λk c o' a=>?_⟩;rcases ey.1 c with c|c
    ·subst c;rw[ho]at a;injection a with a;subst a
     exact .inr hw
    ·rcases e k c o' a with⟨f,t,n,p⟩|f;·exact .inl ⟨f,t,n,λd i=>(p d i).trans (b d)⟩
     ·exact .inr f
def hJ.effect{ops:Array Oper}{σ cp:List Nat}(r:kM ops σ cp){N:Nat}(ao:N<=8000)(Q:gT P N ops.toList=true){a0:Act}{p rest:List Nat}{L:Nat->Bool}{val:Nat->Value}{a aT:Act}{T M:Tr}{w w':World}{done:List Nat}{i:Nat}{o:Oper}(ho:ops[i]?=some o)(K:σ=p++i::rest)(af:i∈cp)(h:hJ P ops σ cp N a0 p L val a aT T w done)(ad:∀t,M.get t=T.get t)(R:∀e∈o.after,Region.binds .any e=true->L e.on=true)(v:Value)(S:(w'=w)\/∀j∈done.filter (λj=> !(mF ops ops.size i).testBit j),∀oj,ops[j]?=some oj->
   (Region.wanted oj (yielded ops (aT.put o.dst v).tmps)=true/\∃u,(∀w2,(ji oj.op=true->Grow w' w2)->(execOp (aT.put o.dst v).eval oj).run P w2=.ok (.value u) w2)/\∀d,oj.dst=some d->u=(M.put o.dst v).get d)\/Region.wanted oj (yielded ops (aT.put o.dst v).tmps)=false)(W:∀(j:Nat) (oj:Oper),ops[j]?=some oj->ji oj.op=true->oj.dst≠none):
  hJ P ops σ cp N a0 (p++[i]) (λj=>L j||Nat.beq j i) (λj=>if j=i then v else val j) (a.put o.dst v) (aT.put o.dst v) (M.put o.dst v) w' done:=by
 have O:i∉p:=λhm=>uT _ ((r.lt_iff K i (iP ho)).2 hm);have X:o∈ops.toList:=by rw[px];exact ku ho
 have an:L i=false:=by
  cases ab:L i with
  |false=>rfl
  |true=>exact(O (h.sub i ab)).elim
 have C:∀j∈p,(if j=i then v else val j)=val j:=λj c=>by
  have:j≠i:=λe=>O (e▸c);rw[bJ this]
 have m:lY ops N a0 (· ∈p++[i]) (λj=>if j=i then v else val j) (aT.put o.dst v):=by
  have:=lY.add r Q h.all ho O v;refine⟨this.defers,this.size,λj oj t c g hm=>this.put j oj t c g ?_,λt s=>this.dZ t (λj oj c g hm=>s j oj c g ?_)⟩
  ·rcases h6.1 hm with hm|hm;·exact .inl hm
   ·exact .inr (by simpa using hm)
  ·rcases hm with hm|hm;·exact mw _ hm
   ·exact nU _ (by simp[hm])
 have I:Rel N (M.put o.dst v) (aT.put o.dst v):=(h.rel.same ad).put ao (lX Q X) v;refine⟨?_,?_,?_,?_,m,I,?_,?_⟩
 ·intro j c;simp only[jr]at c;rcases c with c|c;·exact mw _ (h.sub j c)
  ·exact nU _ (by simpa using c)
 ·intro e he y;rcases h6.1 y with y|y;·simp[h.nk e he y]
  ·simp only[iD]at y;subst y;simp
 ·intro j oj c B e he J;simp only[jr]at c ⊢;rcases c with c|c;·exact .inl (h.closed j oj c B e he J)
  ·have:j=i:=by simpa using c
   subst this;rw[ho]at B;injection B with B;subst B
   exact .inl (R e he J)
 ·have:=lY.add r Q h.at_ ho (by rw[an];simp) v;refine⟨this.defers,this.size,λj oj t c g hm=>this.put j oj t c g ?_,λt s=>this.dZ t (λj oj c g hm=>s j oj c g ?_)⟩
  ·simp only[jr]at hm;rcases hm with hm|hm;·exact .inl hm
   ·exact .inr (by simpa using hm)
  ·simp only[jr];rcases hm with hm|hm;·exact .inl hm
   ·exact .inr (by simp[hm])
 ·intro k l x;simp only[uI]at x;have ag:k≠i:=λe=>by subst e;rw[jM]at x;simp at x
  have q:k∈p:=by
   rcases h6.1 l with l|l;·exact l
   ·exact(ag (by simpa using l)).elim
  have hold:=kN.ext r K q C (h.iq k q x.1);rcases S with rfl|S;·exact hold
  ·intro ok f b J;have aq:=f;have A:k∉cp:=λhe=>by have:=h.nk k he q;rw[x.1]at this;cases this
   cases H:ji ok.op with
   |false=>
    rcases hold ok f b J with⟨h1,n⟩|h1;·exact .inl ⟨h1,λw2 _=>n w2 (λe=>by rw[H]at e;cases e)⟩
    ·exact .inr h1
   |true=>
    have Z:=r.UU k ok f A H;have Y:eg σ k<eg σ i:=(r.lt_iff K k (iP f)).2 q;have D:∀t∈ok.looksAt ops,(∀j oj,ops[j]?=some oj->oj.dst=some t->eg σ j<eg σ k->(aT.put o.dst v).tmps[t]?=some ((λj=>if j=i then v else val j) j))/\
      ((∀j oj,ops[j]?=some oj->oj.dst=some t->¬ eg σ j<eg σ k)->(aT.put o.dst v).tmps[t]?=a0.tmps[t]?):=by
     intro t s;refine⟨λj oj c g hp=>m.put j oj t c g (mw _ ((r.lt_iff K j (iP c)).1 (Hm hp Y))),λF=>m.dZ t (λj oj c g _=>F j oj c g (Z t s j oj c g).2)⟩
    have V:hI ops ok b (aT.put o.dst v):=by
     intro t s;by_cases hw:∃j oj,ops[j]?=some oj/\oj.dst=some t/\eg σ j<eg σ k
     ·obtain⟨j,oj,c,g,E⟩:=hw;rw[(J t s).1 j oj c g E,(D t s).1 j oj c g E]
     ·have F:∀j oj,ops[j]?=some oj->oj.dst=some t->¬ eg σ j<eg σ k:=λj oj c g E=>hw ⟨j,oj,c,g,E⟩;rw[(J t s).2 F,(D t s).2 F]
    have ai:∀cs b,ok.op≠ .select cs b:=λcs b=>Region.noSelect_spec r.nj k ok cs b f;rw[V.wanted,V.exec ai];rcases hold ok f (aT.put o.dst v) D with⟨h1,_⟩|h1
    ·have z:k∈done\/∀w2,kN P ops σ a0 val w2 k:=h.j2 k q A ok f H;rcases z with z|z
     ·have ah:(mF ops ops.size i).testBit k=false:=by
       cases ae:(mF ops ops.size i).testBit k with
       |false=>rfl
       |true=>
        have:=xT (L:=L) h.closed ops.size i (λo' G=>by rw[ho]at G;injection G with G;subst G;exact R) k ae;rw[x.1]at this;cases this
      rcases S k (fO.2 ⟨z,by rw[ah];rfl⟩) ok f with⟨_,u,n,am⟩|n
      ·refine .inl ⟨h1,λw2 U=>?_⟩;cases g:ok.dst with
       |none=>exact(W k ok f H g).elim
       |some d=>
        have aj:=am d g;have ak:(M.put o.dst v).get d=(if k=i then v else val k):=by
         have al:=m.put k ok d f g (mw _ q);have aa:=I.get d;simp only[iC,al,mB]at aa;exact aa.symm
        rw[n w2 (λ_=>by rw[U rfl];exact .refl _),aj,ak]
      ·rw[h1]at n;cases n
     ·rcases kN.ext r K q C (z w') ok f (aT.put o.dst v) D with n|n;·exact .inl ⟨n.1,λw2 U=>n.2 w2 (λ_=>U rfl)⟩
      ·exact .inr n
    ·exact .inr h1
 ·intro k l A ok f ap;rcases h6.1 l with l|l
  ·rcases h.j2 k l A ok f ap with h1|h1;·exact .inl h1
   ·exact .inr (λw2=>kN.ext r K l C (h1 w2))
  ·simp only[iD]at l;subst l;exact(A af).elim
def hJ.l0{ops:Array Oper}{σ cp:List Nat}(u:kM ops σ cp){N:Nat}(q:gT P N ops.toList=true){a0:Act}{p:List Nat}{L:Nat->Bool}{val:Nat->Value}{a aT:Act}{T:Tr}{w:World}{done:List Nat}{i:Nat}{o:Oper}(ho:ops[i]?=some o)(n:i∈p)(r:L i=false)(h:hJ P ops σ cp N a0 p L val a aT T w done)(g:∀e∈o.after,Region.binds .any e=true->L e.on=true):
  hJ P ops σ cp N a0 p (λj=>L j||Nat.beq j i) val (a.put o.dst (val i)) aT T w done:=by
 refine⟨?_,?_,?_,?_,h.all,h.rel,?_,h.j2⟩
 ·intro j b;simp only[jr]at b;rcases b with b|b;·exact h.sub j b
  ·have:j=i:=by simpa using b
   subst this;exact n
 ·intro e he m;simp[h.nk e he m]
 ·intro j oj b c e he l;simp only[jr]at b ⊢;rcases b with b|b;·exact .inl (h.closed j oj b c e he l)
  ·have:j=i:=by simpa using b
   subst this;rw[ho]at c;injection c with c;subst c
   exact .inl (g e he l)
 ·have:=lY.add u q h.at_ ho (by rw[r];simp) (val i);refine⟨this.defers,this.size,λj oj t b f hm=>?_,λt v=>this.dZ t (λj oj b f hm=>v j oj b f ?_)⟩
  ·have h1:=this.put j oj t b f (by
    simp only[jr]at hm;rcases hm with hm|hm;·exact .inl hm
    ·exact .inr (by simpa using hm))
   by_cases e:j=i;·subst e;simpa using h1
   ·simpa only[bJ e]using h1
  ·simp only[jr];rcases hm with hm|hm;·exact .inl hm
   ·exact .inr (by simp[hm])
 ·intro k s d;simp only[uI]at d;exact h.iq k s d.1
def sY(n:Nat)(listed:Array Bool):Nat:=(List.range n).countP λi=> !listed.getD i true
def HX{p q:Nat->Bool}:∀(l:List Nat),(∀x∈l,q x=true->p x=true)->(∃x∈l,p x=true/\q x=false)->l.countP q<l.countP p
 |[],_,⟨_,h,_⟩=>by cases h
 |x::l,d,⟨y,f,a,b⟩=>by
  have hle:l.countP q<=l.countP p:=by
   have:∀(l:List Nat),(∀x∈l,q x=true->p x=true)->l.countP q<=l.countP p:=by
    intro l;induction l with
    |nil=>intro _;simp
    |cons z l j=>
     intro h;have h1:=j (λx hx=>h x (fI _ hx));have c:=h z (fj ..);simp only[G6];cases i:q z with
     |false=>simp;omega
     |true=>simp[c i];omega
   exact this l (λx hx=>d x (fI _ hx))
  simp only[G6];rcases ey.1 f with e|f;·subst e;simp[a,b];omega
  ·have j:=HX l (λx hx=>d x (fI _ hx)) ⟨y,f,a,b⟩;have c:=d x (fj ..);cases g:q x with
   |false=>simp;omega
   |true=>simp[c g];omega
def mem_ready{ops:Array Oper}{listed:Array Bool}{i:Nat}(h:i∈Region.ready .any ops listed):
  ∃o,ops[i]?=some o/\listed.getD i true=false/\∀e∈o.after,Region.binds .any e=true->listed.getD e.on false=true:=by
 unfold Region.ready at h;obtain⟨b,a⟩:=fO.1 h;have b:=fW.1 b;rw[oH b]at a;simp only[dG,hR,jh,mB]at a;refine⟨ops[i],oH b,a.1,λe he c=>?_⟩;have:=Array.all_eq_true'.1 a.2 e he;simpa[c]using this
def UX{ops:Array Oper}{listed:Array Bool}{i:Nat}{o:Oper}(ho:ops[i]?=some o)(b:listed.getD i true=false)(h:∀e∈o.after,Region.binds .any e=true->listed.getD e.on false=true):
  i∈Region.ready .any ops listed:=by
 unfold Region.ready;refine fO.2 ⟨fW.2 (iP ho),?_⟩;simp only[ho,jh,mB,dG,hR];refine⟨b,Array.all_eq_true'.2 λe he=>?_⟩;cases a:Region.binds .any e with
 |false=>simp
 |true=>simp[h e he a]
def UY{ops:Array Oper}{σ cp:List Nat}(f:kM ops σ cp){listed:Array Bool}(g:listed.size=ops.size)(h:Region.ready .any ops listed= []):∀i,i<ops.size->listed.getD i false=true:=by
 intro i;induction i using Nat.strongRecOn with
 |_ i j=>
  intro a;cases c:listed.getD i false with
  |true=>rfl
  |false=>
   have ho:ops[i]?=some ops[i]:=oH a;have d:listed.getD i true=false:=by
    have:i<listed.size:=by rw[g];exact a
    simp only[Array.getD,this,dif_pos]at c ⊢;exact c
   have:=UX ho d (λe he b=>j e.on (f.ve i _ ho e he b) (Hm (f.ve i _ ho e he b) a));rw[h]at this;cases this
def UZ{listed:Array Bool}{n i j:Nat}(a:listed.size=n)(b:i<n):(listed.setIfInBounds i true).getD j false=(listed.getD j false||Nat.beq j i):=by
 simp only[iC,oG];by_cases e:i=j
 ·subst e;have:i<listed.size:=by rw[a];exact b
  simp[this]
 ·rw[bJ e];have:Nat.beq j i=false:=by rw[jM];simpa using λh=>e h.symm
  rw[this,pG]
def HY{a:Act}:∀(l:List Nat) (T:Tr),(∀d∈l,d<8000)->∃T':Tr,(∀t,t∉l->T'.get t=T.get t)/\∀t∈l,T'.get t=a.tmps.getD t undef
 |[],T,_=>⟨T,λ_ _=>rfl,λ_ h=>by cases h⟩
 |d::l,T,c=>by
  obtain⟨f,h1,g⟩:=HY (a:=a) l T (λx hx=>c x (fI _ hx));refine⟨f.put (some d) (a.tmps.getD d undef),λt b=>?_,λt b=>?_⟩
  ·rw[Tr.dM _ _ _ _ (c d (by simp)),bJ (λe=>b (by rw[e];simp))];exact h1 t (λi=>b (fI _ i))
  ·rw[Tr.dM _ _ _ _ (c d (by simp))];by_cases e:t=d;·rw[bM e,e]
   ·rw[bJ e];rcases ey.1 b with h|h;·exact absurd h e
    ·exact g t h
def U0{ops:Array Oper}{N:Nat}(k:N<=8000)(f:gT P N ops.toList=true){a0 a:Act}{c:Tr}(g:Rel N c a0){M:Nat->Prop}{val:Nat->Value}(h:lY ops N a0 M val a):∃T',Fr (eI ops.toList) c T'/\Rel N T' a:=by
 obtain⟨T',h1,i⟩:=HY (a:=a) (eI ops.toList) c (λd b=>by
  unfold eI at b;obtain⟨o,ho,he⟩:=xw.1 b;exact mz (lX f ho d he) k)
 refine⟨T',h1,h.defers,h.size,λt=>?_⟩;by_cases e:t∈eI ops.toList;·exact(i t e).symm
 ·rw[h1 t e,<- g.get t];have:=h.dZ t (λj o ho b=>absurd (by
   unfold eI;exact xw.2 ⟨o,by rw[px];exact ku ho,b⟩) e)
  rw[iC,iC,this]
def U1{ops:Array Oper}{ag:List (List Nat)}{cp:List Nat}(M:∀σ∈ag,kM ops σ cp/\BG ops ag σ cp){N:Nat}(O:N<=8000)(n:gT P N ops.toList=true){a0:Act}{aG:Tr}(aC:Rel N aG a0){Q:Exit->Tr->bh6}{Q':Exit->Act->bh6}(a7:∀T w a,Q .normal T w->Fr (eI ops.toList) aG T->Rel N T a->Q' .normal a w)(a1:∀an T w a,Q (.panic an) T w->Fr (eI ops.toList) aG T->Rel N T a->Q' (.panic an) a w):
  ∀(fuel:Nat) (listed:Array Bool) (σ p rest:List Nat) (C:List (List Nat)) (val:Nat->Value) (a aT:Act) (T:Tr) (w:World) (done:List Nat),listed.size=ops.size->sY ops.size listed<=fuel->σ∈ag->σ=p++rest->lZ ag p C->(∀i∈rest.head?,i∈cp)->
   hJ P ops σ cp N a0 p (λj=>listed.getD j false) val a aT T w done->gu P τ ρ cz A ops cp Q rest.length C done T w->wpAny P .any ops Q' fuel listed a w:=by
 have fin:∀(listed:Array Bool) (σ p rest:List Nat) (C:List (List Nat)) (val:Nat->Value) (a aT:Act) (T:Tr) (w:World) (done:List Nat),(∀i,i<ops.size->listed.getD i false=true)->σ∈ag->σ=p++rest->(∀i∈rest.head?,i∈cp)->
   hJ P ops σ cp N a0 p (λj=>listed.getD j false) val a aT T w done->gu P τ ρ cz A ops cp Q rest.length C done T w->Q' .normal a w:=by
  intro listed σ p rest C val a aT T w done aj g l m h D;have f:=(M σ g).1;have av:rest= []:=by
   cases rest with
   |nil=>rfl
   |cons e r=>
    have he:e<ops.size:=f.lt e (by rw[l];simp);have az:e∈p:=h.sub e (aj e he);exact(uT _ ((f.lt_iff l e he).2 az)).elim
  subst av;have hp:∀j,j<ops.size->j∈p:=λj E=>h.sub j (aj j E);have Z:∀t:Nat,a.tmps[t]?=aT.tmps[t]? :=by
   intro t;by_cases hw:∃(j:Nat) (oj:Oper),ops[j]?=some oj/\oj.dst=some t
   ·obtain⟨j,oj,E,y⟩:=hw;rw[h.at_.put j oj t E y (aj j (iP E)),h.all.put j oj t E y (hp j (iP E))]
   ·rw[h.at_.dZ t (λj oj E y _=>hw ⟨j,oj,E,y⟩),h.all.dZ t (λj oj E y _=>hw ⟨j,oj,E,y⟩)]
  refine a7 T w a D ?_ ⟨h.at_.defers,h.at_.size,λt=>?_⟩
  ·intro t a9;have aX:∀(j:Nat) (oj:Oper),ops[j]?=some oj->oj.dst=some t->¬ j∈p:=λj oj E y _=>
    a9 (xw.2 ⟨oj,by rw[px];exact ku E,y⟩)
   rw[<- h.rel.get t,<- aC.get t];simp only[iC,h.all.dZ t aX]
  ·rw[<- h.rel.get t];simp only[iC,Z t]
 intro fuel;induction fuel with
 |zero=>
  intro listed σ p rest C val a aT T w done H hu g l ao m h D;have aj:∀i,i<ops.size->listed.getD i false=true:=by
   intro i ai;have a5:sY ops.size listed=0:=by omega
   have:=List.countP_eq_zero.1 a5 i (fW.2 ai);have u:i<listed.size:=by rw[H];exact ai
   simp only[Array.getD,u,dif_pos]at this ⊢;simpa using this
  refine⟨?_,fin listed σ p rest C val a aT T w done aj g l m h D⟩;rw[List.eq_nil_iff_forall_not_mem];intro i ai;obtain⟨o,ho,G,_⟩:=mem_ready ai;have:=aj i (iP ho);have u:i<listed.size:=by rw[H];exact iP ho
  simp only[Array.getD,u,dif_pos]at this G;rw[this]at G;cases G
 |succ fuel aP=>
  intro listed σ p rest C val a aT T w done H hu g l ao m h D;have f:=(M σ g).1;refine⟨λa8=>fin listed σ p rest C val a aT T w done (UY f H a8) g l m h D,λi ai=>?_⟩;obtain⟨o,ho,G,z⟩:=mem_ready ai;have F:=iP ho;have u:i<listed.size:=by rw[H];exact F
  have X:listed.getD i false=false:=by
   simp only[Array.getD,u,dif_pos]at G ⊢;exact G
  have U:(listed.setIfInBounds i true).size=ops.size:=by simp[H]
  have ar:sY ops.size (listed.setIfInBounds i true)<=fuel:=by
   have:sY ops.size (listed.setIfInBounds i true)<sY ops.size listed:=by
    refine HX _ (λx _ hx=>?_) ⟨i,fW.2 F,by simp[G],?_⟩
    ·simp only[hR,iC,oG]at hx ⊢;by_cases e:i=x;·subst e;simp[u]at hx
     ·rw[bJ e]at hx;exact hx
    ·simp[Array.getD,u]
   omega
  have ap:(λj=>(listed.setIfInBounds i true).getD j false)= λj=>listed.getD j false||Nat.beq j i:=funext λj=>UZ H F;have s:=h.looks f ho X z;unfold wpOp;simp only[ho];by_cases aa:i∈p
  ·have ab:wpAny P .any ops Q' fuel (listed.setIfInBounds i true) (a.put o.dst (val i)) w:=by
    refine aP _ σ p rest C val _ aT T w done U ar g l ao m ?_ D;rw[ap];exact hJ.l0 f n ho aa X h z
   rcases h.iq i aa X o ho a s with⟨h1,q⟩|⟨h1,q⟩
   ·rw[h1,bM rfl];refine .inl ?_;unfold Oper.wp;rw[q w (λ_=>rfl)];exact ab
   ·rw[h1,bJ bO,<- q];exact ab
  ·
   obtain⟨ak,ae,I⟩:∃ak,p++i::ak∈ag/\i∈cp:=by
    cases rest with
    |nil=>
     have:=f.all i F;rw[l,hF]at this;exact(aa this).elim
    |cons e rest=>
     have I:e∈cp:=m e rfl;by_cases aB:i=e;·subst aB;exact⟨rest,l▸g,I⟩
     have ay:e<ops.size:=f.lt e (by rw[l];simp);have az:e∉p:=λhm=>uT _ ((f.lt_iff l e ay).2 hm);have aZ:eg σ e<eg σ i:=by
      have h1:¬ eg σ i<eg σ e:=λu=>aa ((f.lt_iff l i F).1 u);rcases G1 (eg σ e) (eg σ i)with q|q|q;·exact q
      ·obtain⟨k,a6,aA⟩:=GR (f.all i F);obtain⟨a4,aW,aq⟩:=GR (f.all e ay);have ah:=f.pos k i (by rw[dD a6,aA]);have aH:=f.pos a4 e (by rw[dD aW,aq]);have:k=a4:=by rw[<- ah,<- aH,q]
       subst this;exact(aB (aA.symm.trans aq)).elim
      ·exact(h1 q).elim
     rcases(M σ g).2 e I i F aZ with⟨j,aV,aR,hle⟩|⟨aS,c,aL,aw⟩
     ·have:=xT (L:=λj=>listed.getD j false) h.closed ops.size i (λo' ad=>by rw[ho]at ad;injection ad with ad;subst ad;exact z) j aR;exact absurd ((f.lt_iff l j aV).2 (h.sub j this)) bA
     ·have aM:eg σ e=p.length:=f.pos _ _ (HS l);rw[aM,l,sE (dN _),fN]at aw;have:=fA (p.length+1) c;rw[aw,dc]at this;exact⟨c.drop (p.length+1),by rw[show p++i::c.drop (p.length+1)=c from this];exact aL,aS⟩
   have J:rest.length=ak.length+1:=by
    have h1:=f.len;have q:=(M _ ae).1.len;rw[l,da]at h1;rw[da,hS]at q;omega
   subst l;have h:=h.kO (r':=i::ak);clear s;clear f;obtain⟨σ,l⟩:∃σ,σ=p++i::ak:=⟨_,rfl⟩
   rw[<- l]at h ae;have f:=(M σ ae).1;have s:=h.looks f ho X z;rw[J]at D;clear m g;revert D;generalize ak=rest at*
   intro D;have g:=ae;have aU:i::rest∈C:=(ao _).1 (l▸g)
   ·
    have S:o∈ops.toList:=by rw[px];exact ku ho
    have aY:∀cs b,o.op≠ .select cs b:=λcs b=>Region.noSelect_spec f.nj i o cs b ho;have Z:hI ops o a aT:=HT f ho l h.all s;have D:=HW D aU ho;have aL:cp.contains i=true:=by simpa using I
    rw[aL,hr]at D;have aE:σ=(p++[i])++rest:=by rw[l];simp
    rw[Z.wanted];refine pO (B:=if Region.wanted o (yielded ops aT.tmps)=true then o.wp P a w (wpAny P .any ops Q' fuel (listed.setIfInBounds i true)) Q'\/(o.asks P a w/\LetsOut Q')else wpAny P .any ops Q' fuel (listed.setIfInBounds i true) (a.put o.dst undef) w) O n h.rel D ?_ ?_
    ·intro al Y ba hw;rw[hw,bM rfl];refine .inl ?_;have af:=h.rel.same Y;have a3:o.wp P aT w (λb w'=>∃v,b=aT.put o.dst v/\rn P τ ρ ops (al.put o.dst v) w' (gu P τ ρ cz A ops cp Q rest.length (j1 i C) done (al.put o.dst v) w') (done.filter λj=> !(mF ops ops.size i).testBit j)) (λe _ w'=>rp Q e al w'):=
      xR af (oP n S) ba (λv w' J=>⟨v,rfl,J⟩) (λan w' J=>J)
     refine UT (Z.exec aY) a3 ?_ (λan w' hp=>let ⟨T',f',r'⟩:=U0 O n aC h.at_;a1 an T' w' a (hp T') f' r') (λ⟨_,_,h⟩=>(h:False).elim) ?_
     ·rintro v w' ⟨V,aD,J⟩;have aN:a.put o.dst v=a.put o.dst V:=by
       cases y:o.dst with
       |none=>rfl
       |some d=>
        rw[y]at aD;have ax:=lX n S d y;have ah:(aT.put (some d) v).tmps[d]?=some v:=by simp[Act.put,h.all.size,ax]
        have aH:(aT.put (some d) V).tmps[d]?=some V:=by simp[Act.put,h.all.size,ax]
        rw[aD,aH]at ah;injection ah with ah
        rw[ah]
      rw[aN];have au:Rel N (al.put o.dst V) (aT.put o.dst V):=af.put O (lX n S) V;obtain⟨aO,a2⟩:=BH O n au _ J;have R:=h.effect f O n ho l I Y z V (w':=w') (.inr a2) f.rd;rw[<- ap]at R;exact hJ.reads f g O n rest (p++[i]) _ _ _ _ _ aE (ao.step i) R aO (λK aQ aF W am T' done' h1 q aI aJ aK=>aP _ σ aQ K aF W _ am T' w' done' U ar g h1 q aI aJ aK)
     ·rintro d w' ⟨v,he,_⟩;have:=eO Act.defers he;cases y:o.dst<;>simp[Act.put,y]at this
    ·intro al Y J hw;rw[hw,bJ bO];have R:=h.effect f O n ho l I Y z undef (w':=w) (.inl rfl) f.rd;rw[<- ap]at R;exact hJ.reads f g O n rest (p++[i]) _ _ _ _ _ aE (ao.step i) R J (λK aQ aF W am T' done' h1 q aI aJ aK=>aP _ σ aQ K aF W _ am T' w done' U ar g h1 q aI aJ aK)
def U2{ops:Array Oper}{b:List (List Nat)}{cp:List Nat}{id:Nat}(hm:P.follows .mixedOrders=true){N:Nat}(q:N<=8000)(g:gT P N ops.toList=true)(hB:BF ops b cp=true){Q:Exit->Tr->bh6}{Q':Exit->Act->bh6}{T:Tr}{a:Act}{w:World}(c:Rel N T a)(h:gu P τ ρ cz A ops cp Q ops.size b [] T w.drew)(F:∀T' w' a',Q .normal T' w'->Fr (eI ops.toList) T T'->Rel N T' a'->Q' .normal a' w')(r:∀n T' w' a',Q (.panic n) T' w'->Fr (eI ops.toList) T T'->Rel N T' a'->Q' (.panic n) a' w'):(Code.region id ops true).wp P Q' a w:=by
 unfold BF at hB;rw[dG]at hB;have f:∀σ∈b,kM ops σ cp/\BG ops b σ cp:=λσ G=>UW (fB.1 hB.2 σ G);obtain⟨σ,d⟩:∃σ,σ∈b:=by
  cases b with
  |nil=>simp at hB
  |cons a l=>exact⟨a,fj ..⟩
 have s:=(f σ d).1;refine wp_region_any hm ?_;have p:(λj=>(Array.replicate ops.size false).getD j false)= λ_=>false:=by
  funext j;simp only[iC,TT];split<;>rfl
 have u:hJ P ops σ cp N a [] (λj=>(Array.replicate ops.size false).getD j false) (λ_=>undef) a a T w.drew []:=by
  rw[p];have o:∀t:Nat,a.tmps[t]?=a.tmps[t]? :=λ_=>rfl;refine⟨λ_ h=>(by cases h),λ_ _ h=>(by cases h),λ_ _ h=>(by cases h),⟨c.defers,c.size,λ_ _ _ _ _ h=>(by cases h),λt _=>o t⟩,⟨c.defers,c.size,λ_ _ _ _ _ h=>(by cases h),λt _=>o t⟩,c,λ_ h=>(by cases h),λ_ h=>(by cases h)⟩
 rw[<- s.len]at h;refine hJ.reads s d q g σ [] b _ _ _ _ rfl (λ_=>lS) u h (λe H v k m T' done' h1 z B C i=>?_);refine U1 f q g c (λx w2 y i D E=>F x w2 y i D E) r ops.size _ σ H e v k a m T' w.drew done' (by simp) ?_ d h1 z B C i;unfold sY;exact mD TW (by simp)
def ju(P:Program)(N:Nat)(A:dS):Code->Bool
 |.region id ops draw=>gT P N ops.toList&&(!draw||(match A.sig id with|some (C,cp)=>BF ops C cp|none=>bif A.fork id then true else bif A.calm id then Region.lexB .any ops else bif A.head id==ops.size then Region.lexB .any ops else Region.lexTailB .any ops (A.head id)))
 |.seq x y=>ju P N A x&&ju P N A y&&(match vb A y with|some ks=>okW x&&ni ks|none=>true)
 |.cond _ x y=>ju P N A x&&ju P N A y
 |.block _ c=>ju P N A c
 |.loop c=>ju P N A c&&okW c&&ni (A.loop ((lW c).getD 0))
 |.scope c=>ju P N A c&&okW c&&(match xO c with|some l=>(match A.goto l with|some ks=>ni ks|none=>true)|none=>true)
 |_=>true
def xW{N:Nat}(g:N<=8000){ops:Array Oper}(d:gT P N ops.toList=true){Q:Exit->Tr->bh6}{Q':Exit->Act->bh6}:∀(l:List Oper) (T:Tr) (a:Act) (w:World),gT P N l=true->Rel N T a->
  kL P τ ρ cz A ops Q l T w->(∀e T' w' a',Q e T' w'->Fr (eI l) T T'->Rel N T' a'->Q' e a' w')->wpList P ops Q' l a w
 |[],T,a,w,_,n,h,m=>m _ _ _ _ h (.refl _ _) n
 |o::l,T,a,w,j,n,h,m=>by
  have k:=xQ j;have z:=oP j (fj (a:=o) (l:=l));have c:=lX j (fj (a:=o) (l:=l));have r:∀t,t∈eI l->t∈eI (o::l):=λt s=>by
   unfold eI at s ⊢;rw[GS];split<;>simp_all
  have i:∀t,o.dst=some t->t∈eI (o::l)/\t<8000:=λt s=>⟨by simp[eI,s],mz (c t s) g⟩
  refine pO (B:=wpList P ops Q' (o::l) a w) g d n h ?_ ?_
  ·intro T' q D hw;unfold wpList;rw[hw,bM rfl];have b:=n.same q;have f:Fr (eI (o::l)) T T':=λt _=>q t;refine .inl (xR b z D (λv w' h'=>?_) (λE w' y=>m _ _ _ _ y f b));exact xW g d l _ _ _ k (b.put g c v) h' (λe u w2 x he hf p=>m e u w2 x he ((f.trans (Fr.put _ _ _ _ i)).trans (hf.mono r)) p)
  ·intro T' q C hw;unfold wpList;rw[hw,bJ bO];have b:=n.same q;have f:Fr (eI (o::l)) T T':=λt _=>q t;exact xW g d l _ _ _ k (b.put g c undef) C (λe u w2 x he hf p=>m e u w2 x he ((f.trans (Fr.put _ _ _ _ i)).trans (hf.mono r)) p)
def vf{N:Nat}(e:N<=8000){ops:Array Oper}(c:gT P N ops.toList=true){w:World}{Q:Tr->Prop}{Q':Act->Prop}:∀(l:List Oper) (T:Tr) (a:Act),gT P N l=true->Rel N T a->u7 P τ ρ ops w Q l T->
  (∀T' a',Q T'->Fr (eI l) T T'->Rel N T' a'->Q' a')->wpStill P ops w Q' l a
 |[],T,a,_,k,h,q=>q _ _ h (.refl _ _) k
 |o::l,T,a,i,k,h,q=>by
  have j:=xQ i;have z:=oP i (fj (a:=o) (l:=l));have b:=lX i (fj (a:=o) (l:=l));have p:∀t,t∈eI l->t∈eI (o::l):=λt r=>by
   unfold eI at r ⊢;rw[GS];split<;>simp_all
  have g:∀t,o.dst=some t->t∈eI (o::l)/\t<8000:=λt r=>⟨by simp[eI,r],mz (b t r) e⟩
  refine pO (B:=wpStill P ops w Q' (o::l) a) e c k h ?_ ?_
  ·intro T' n x hw;unfold wpStill;rw[hw,bM rfl];have d:=k.same n;have f:Fr (eI (o::l)) T T':=λt _=>n t;rw[<- d.ev]at x;obtain⟨v,h1,y⟩:=u4 z x;unfold Oper.still;rw[h1 w (λ_=>.refl w)];exact⟨rfl,vf e c l _ _ j (d.put e b v) y (λs u he hf m=>q s u he ((f.trans (Fr.put _ _ _ _ g)).trans (hf.mono p)) m)⟩
  ·intro T' n A hw;unfold wpStill;rw[hw,bJ bO];have d:=k.same n;have f:Fr (eI (o::l)) T T':=λt _=>n t;exact vf e c l _ _ j (d.put e b undef) A (λs u he hf m=>q s u he ((f.trans (Fr.put _ _ _ _ g)).trans (hf.mono p)) m)
def U3{o:Oper}{a:Act}{w:World}{f:Value->Prop}(p:∀s d x,o.op=.convert s d x->(P.underlying s).isSome=true)(h:BB P τ ρ o a.eval w f):
  ∃v,(∀w',Grow w w'->o.quietAt P a (Grow w) w' v)/\f v:=by
 unfold BB at h;split at h
 ·rename_i g args ts ho;unfold HK at h;split at h
  ·rename_i n fi ca q;split at h
   ·rename_i c;obtain⟨v,h1,j⟩:=Kd.eT h;refine⟨v,λw' b=>?_,j⟩;unfold ky at c;split at c
    ·rename_i fn m;simp only[dG,hR,uM]at c;obtain⟨k,l⟩:=c;have r:(execOp a.eval o).run P w'=.ok (.enter n (fi++args.map a.eval++ca)) w':=by
      have i:¬ fn.body=none:=by intro hx;simp[hx]at k
      simp[execOp,ho,resolve,q,Deferred.ofValue,invoke,callFunc,m,l,i]
     unfold Oper.quietAt;rw[r];exact⟨rfl,(h1 w' b).mono λe w2 he=>⟨he.1,b.trans he.2⟩⟩
    ·cases c
   ·exact h.elim
  ·exact h.elim
 ·obtain⟨v,h1,j⟩:=u4 p h;refine⟨v,λw' b=>?_,j⟩;unfold Oper.quietAt;rw[h1 w' (λ_=>b)];exact⟨rfl,rfl⟩
def BI{N:Nat}(e:N<=8000){ops:Array Oper}(c:gT P N ops.toList=true){w:World}{Q:Tr->Prop}{Q':Act->Prop}:∀(l:List Oper) (T:Tr) (a:Act),gT P N l=true->Rel N T a->oO P τ ρ ops w Q l T->
  (∀T' a',Q T'->Fr (eI l) T T'->Rel N T' a'->Q' a')->wpQuiet P ops (Grow w) Q' l a
 |[],T,a,_,k,h,q=>q _ _ h (.refl _ _) k
 |o::l,T,a,i,k,h,q=>by
  have j:=xQ i;have z:=oP i (fj (a:=o) (l:=l));have b:=lX i (fj (a:=o) (l:=l));have p:∀t,t∈eI l->t∈eI (o::l):=λt r=>by
   unfold eI at r ⊢;rw[GS];split<;>simp_all
  have g:∀t,o.dst=some t->t∈eI (o::l)/\t<8000:=λt r=>⟨by simp[eI,r],mz (b t r) e⟩
  refine pO (B:=wpQuiet P ops (Grow w) Q' (o::l) a) e c k h ?_ ?_
  ·intro T' n x hw;unfold wpQuiet;rw[hw,bM rfl];have d:=k.same n;have f:Fr (eI (o::l)) T T':=λt _=>n t;rw[<- d.ev]at x;obtain⟨v,h1,y⟩:=U3 z x;exact⟨v,h1,BI e c l _ _ j (d.put e b v) y (λs u he hf m=>q s u he ((f.trans (Fr.put _ _ _ _ g)).trans (hf.mono p)) m)⟩
  ·intro T' n A hw;unfold wpQuiet;rw[hw,bJ bO];have d:=k.same n;have f:Fr (eI (o::l)) T T':=λt _=>n t;exact BI e c l _ _ j (d.put e b undef) A (λs u he hf m=>q s u he ((f.trans (Fr.put _ _ _ _ g)).trans (hf.mono p)) m)
def aux{f:Nat->Prop}:∀ {l:List Nat},u9 f l->∀i∈l,f i
 |[],_,_,h=>by cases h
 |_::_,h,i,a=>by
  rcases ey.1 a with rfl|a;·exact h.1
  ·exact aux h.2 i a
def BJ{N:Nat}(g:N<=8000){ops:Array Oper}(b:gT P N ops.toList=true){Q:Exit->Tr->bh6}{Q':Exit->Act->bh6}{q:Tr}(n:∀e T' w' a',Q e T' w'->Fr (eI ops.toList) q T'->Rel N T' a'->Q' e a' w'):
  ∀(fuel:Nat) (listed:Array Bool) (T:Tr) (a:Act) (w:World),Fr (eI ops.toList) q T->Rel N T a->gK P τ ρ cz A ops Q fuel listed T w->wpAny P .any ops Q' fuel listed a w
 |0,listed,T,a,w,hf,j,h=>by
  unfold gK at h;unfold wpAny;split at h;·next e=>exact⟨e,n _ _ _ _ h hf j⟩
  ·exact h.elim
 |fuel+1,listed,T,a,w,hf,j,h=>by
  unfold gK at h;unfold wpAny;split at h
  ·next e=>
   refine⟨λ_=>n _ _ _ _ h hf j,λi k=>?_⟩;rw[e]at k;cases k
  ·next i0 E e=>
   refine⟨λs=>(by rw[e]at s;cases s),λi k=>?_⟩;rw[e]at k;have r:=aux h i k;unfold wpOp;cases ho:ops[i]? with
   |none=>simp only[ho]at r
   |some o=>
    simp only[ho]at r;have m:o∈ops.toList:=by
     have:=ku ho;simpa using this
    have y:=oP b m;have d:=lX b m;have l:∀t,o.dst=some t->t∈eI ops.toList/\t<8000:=λt x=>⟨by unfold eI;exact xw.2 ⟨o,m,x⟩,mz (d t x) g⟩
    refine pO (B:=if Region.wanted o (yielded ops a.tmps)then o.wp P a w (wpAny P .any ops Q' fuel (listed.setIfInBounds i true)) Q'\/(o.asks P a w/\LetsOut Q')else wpAny P .any ops Q' fuel (listed.setIfInBounds i true) (a.put o.dst undef) w) g b j r ?_ ?_
    ·intro T' p C hw;rw[hw,bM rfl];have c:=j.same p;have f:Fr (eI ops.toList) q T':=hf.trans (λt _=>p t);refine .inl (xR c y C (λv w' h'=>?_) (λD w' u=>n _ _ _ _ u f c));exact BJ g b n fuel _ _ _ _ (f.trans (Fr.put _ _ _ _ l)) (c.put g d v) h'
    ·intro T' p z hw;rw[hw,bJ bO];have c:=j.same p;have f:Fr (eI ops.toList) q T':=hf.trans (λt _=>p t);exact BJ g b n fuel _ _ _ _ (f.trans (Fr.put _ _ _ _ l)) (c.put g d undef) z
def U4(hm:P.follows .mixedOrders=true){N:Nat}(g:N<=8000){id:Nat}{ops:Array Oper}{draw:Bool}{Q:Exit->Tr->bh6}{Q':Exit->Act->bh6}{T:Tr}{a:Act}{w:World}(r:ju P N A (.region id ops draw)=true)(n:Rel N T a)(h:va P τ ρ cz A id ops draw Q T w)(j:∀e T' w' a',Q e T' w'->Fr (eI ops.toList) T T'->Rel N T' a'->Q' e a' w'):
  (Code.region id ops draw).wp P Q' a w:=by
 unfold ju at r;simp only[dG]at r;obtain⟨ho,b⟩:=r;unfold va at h;cases draw with
 |false=>exact wp_region_list (xW g ho _ _ _ _ ho n h j)
 |true=>
  simp only[Bool.not_true,uU]at b;dsimp only at h;split at h
  ·rename_i σ cp k;rw[k]at b;exact U2 hm g ho b n h (λT' w' a' h1 o p=>j _ _ _ _ h1 o p) (λJ T' w' a' h1 o p=>j _ _ _ _ h1 o p)
  rename_i k;rw[k]at b;dsimp only at b;cases m:A.fork id with
  |true=>
   rw[m,hr]at h;refine wp_region_any hm ?_;exact BJ g ho (λe T' w' a' h1 o p=>j e T' w' a' h1 o p) _ _ _ _ _ (Fr.refl _ _) n h
  |false=>
  rw[m,g8]at h b;cases c:A.calm id with
  |true=>
   rw[c,hr]at b;rw[c,hr]at h;refine wp_region_quiet (C:=Grow w) hm b (Grow.drew w) ?_;exact BI g ho _ _ _ ho n h (λT' a' v hf d w' G=>j _ _ _ _ (v w' G) hf d)
  |false=>
  rw[c,g8]at b;rw[c,g8]at h;unfold Dr at h;have f:ops.toList=ops.toList.take (A.head id)++ops.toList.drop (A.head id):=(fA _ _).symm;have E:∀ {l l':List Oper},gT P N (l++l')=true->gT P N l=true/\gT P N l'=true:=by
   intro l l' h;unfold gT at h ⊢;rw[List.all_append,dG]at h;exact h
  have u:=ho;rw[f]at u;obtain⟨B,D⟩:=E u;have hw:eI ops.toList=eI (ops.toList.take (A.head id))++eI (ops.toList.drop (A.head id)):=by
   unfold eI;rw[<- List.filterMap_append,<- f]
  cases i:A.head id==ops.size with
  |true=>
   rw[i,hr]at b;have z:A.head id=ops.size:=by simpa using i
   have s:ops.toList.take (A.head id)=ops.toList:=hE (by rw[z];simp);have x:ops.toList.drop (A.head id)= []:=jJ (by rw[z];simp);rw[s,x]at h;refine wp_region_still hm b ?_;exact vf g ho _ _ _ ho n h (λT' a' q hf d=>j _ _ _ _ q hf d)
  |false=>
   rw[i,g8]at b;obtain⟨l⟩:=ops;refine wp_region_still_tail (l:=l) (A.head id) hm b ?_;refine vf g ho _ _ _ B n h (λT' a' q hf d=>?_);refine xW g ho _ _ _ _ D d q (λe H w2 I he y F=>j _ _ _ _ he ?_ F);rw[hw];exact(hf.mono (λt s=>mw _ s)).trans (y.mono (λt s=>nU _ s))
def n4:(l:List (Nat×C1))->ht l->hU l->Tr->(Tr->(bh6)->(World->Nat)->Prop)->Prop
 |[],a,b,T,K=>K T a b
 |(s,c)::l,a,b,T,K=>∃x:c.ty,n4 l (a x) (b x) (T.put (some s) (c.mk x)) K
def vg:∀(l:List (Nat×C1)) (b:ht l) (c:hU l) (T:Tr) (K a:Tr->(bh6)->(World->Nat)->Prop),ng l b c T K->n4 l b c T a->
  ∃T' d e,K T' d e/\a T' d e
 |[],b,c,T,_,_,h,h'=>⟨T,b,c,h,h'⟩
 |(_,_)::l,b,c,_,K,a,h,⟨x,h'⟩=>vg l (b x) (c x) _ K a (h x) h'
def Fr.ru{S:List Nat}{a b:Tr}{s:Nat}{v:Value}(c:s<8000)(h:Fr (s::S) a b)(f:b.get s=v):Fr S (a.put (some s) v) b:=by
 intro t d;rw[Tr.dM a s t v c];split;·rename_i e;subst e;exact f
 ·rename_i e;exact h t (by simp only[ey,not_or];exact⟨e,d⟩)
def HZ:∀(l:List (Nat×C1)) (b:ht l) (a:hU l) (m:Nat) (T B:Tr) (w:World),pN l->sX l b a m T w->Fr (l.map (·.1)) B T->
  ∃n,n<m/\n4 l b a B (λd f j=>(∀t,T.get t=d.get t)/\f w/\j w=n)
 |[],b,a,m,T,B,w,_,h,ho=>⟨a w,h.2,λt=>ho t (by simp),h.1,rfl⟩
 |(s,c)::l,b,a,m,T,B,w,e,h,ho=>by
  unfold sX at h;split at h
  ·rename_i x hx;obtain⟨n,g,h'⟩:=HZ l (b x) (a x) m T (B.put (some s) (c.mk x)) w (λy i=>e y (fI _ i)) h (Fr.ru (e _ (fj ..)) ho (C1.lv hx));exact⟨n,g,x,h'⟩
  ·exact h.elim
def vh:∀(l:List (Nat×C1)) (a:ht l) (e:hU l) (T B:Tr) (w:World),pN l->nf l a T w->Fr (l.map (·.1)) B T->
  ∃n,n4 l a e B (λb f i=>(∀t,T.get t=b.get t)/\f w/\i w=n)
 |[],a,e,T,B,w,_,h,ho=>⟨e w,λt=>ho t (by simp),h,rfl⟩
 |(s,c)::l,a,e,T,B,w,d,h,ho=>by
  unfold nf at h;split at h
  ·rename_i x hx;obtain⟨n,h'⟩:=vh l (a x) (e x) T (B.put (some s) (c.mk x)) w (λy g=>d y (fI _ g)) h (Fr.ru (d _ (fj ..)) ho (C1.lv hx));exact⟨n,x,h'⟩
  ·exact h.elim
def H0:∀(l:List (Nat×C1)) (e:ht l) (f:hU l) (B:Tr) (K:Tr->(bh6)->(World->Nat)->Prop) (T:Tr),pN l->n4 l e f B K->(∀a g j,K a g j->∀t,T.get t=a.get t)->
  Fr (l.map (·.1)) B T
 |[],e,f,B,K,T,_,h,b=> λt _=>b _ _ _ h t
 |(s,_)::l,e,f,B,K,T,d,⟨x,h⟩,b=>by
  have:=H0 l (e x) (f x) _ K T (λy i=>d y (fI _ i)) h b;intro t c;simp only[mC,ey,not_or]at c;rw[this t c.2,Tr.dM B s t _ (d _ (fj ..)),bJ c.1]
def H2(u:Nat->Value):∀(l:List Nat) (T:Tr),(∀s∈l,s<8000)->Fr l T (mH u l T)
 |[],_,_=> λ_ _=>rfl
 |s::l,T,b=>by
  intro t a;simp only[ey,not_or]at a;show(mH u l (T.put (some s) (u s))).get t=_;rw[H2 u l _ (λy c=>b y (fI _ c)) t a.2,Tr.dM T s t _ (b _ (fj ..)),bJ a.1]
def sZ(T:Tr)(S:List Nat):∀(l:List Nat) (B:Tr),(∀s∈l,s<8000)->Fr (l++S) B T->Fr S (mH (λt=>T.get t) l B) T
 |[],_,_,h=>h
 |_::l,_,a,h=>sZ T S l _ (λy b=>a y (fI _ b)) (Fr.ru (a _ (fj ..)) h rfl)
def BK{W:List Nat}{l:List (Nat×C1)}{t:Nat}(h:t∈W):t∈mG W l++l.map (·.1):=by
 unfold mG;by_cases a:t∈l.map (·.1);·exact nU _ a
 ·exact mw _ (fO.2 ⟨h,by simpa using a⟩)
def s0{W:List Nat}{l:List (Nat×C1)}(h:∀t∈W,t<8000):∀s∈mG W l,s<8000:=λs a=>h s (fO.1 a).1
def BL{W:List Nat}{l:List (Nat×C1)}{j:ht l}{r:hU l}{f g b:Tr}{d:World}{m:Nat}{u:Nat->Value}{K:Tr->(bh6)->(World->Nat)->Prop}(k:∀t∈W,t<8000)(p:pN l)(hex:n4 l j r (mH u (mG W l) f) K)(w:∀a e i,K a e i->∀t,g.get t=a.get t)(o:Fr W g b)(v:sX l j r m b d):
  ∃n,n<m/\n4 l j r (mH (λt=>b.get t) (mG W l) f) (λa e i=>(∀t,b.get t=a.get t)/\e d/\i d=n):=by
 refine HZ l j r m b _ d p v (sZ b _ _ _ (s0 k) ?_);have h1:=H0 l j r _ K g p hex w;have s:=H2 u (mG W l) f (s0 k);intro t c;simp only[h6,not_or]at c;have q:t∉W:=λh=>by
  rcases h6.1 (BK (l:=l) h)with h|h;·exact c.1 h
  ·exact c.2 h
 rw[o t q,h1 t c.2,s t c.1]
def U5{N:Nat}{c:Code}{l:List (Nat×C1)}{body:(Tr->bh6)->Tr->bh6}{Q:Exit->Tr->bh6}{Q':Exit->Act->bh6}{T:Tr}{a:Act}{w:World}(x:∀t∈wr c,t<8000)(z:pN l)(R:Rel N T a)(j:∀(next:Tr->bh6) (next':Act->bh6) T a w,Rel N T a->body next T w->(∀T' w' a',next T' w'->Fr (wr c) T T'->Rel N T' a'->next' a' w')->
   (∀e T' w' a',Q e T' w'->Fr (wr c) T T'->Rel N T' a'->Q' e a' w')->c.wp P (Exit.then next' Q') a w)(O:∀B,Fr (wr c) T B->∀e T' w' a',Q e T' w'->Fr (wr c) B T'->Rel N T' a'->Q' e a' w')(h:xM l (wr c) body T w):(Code.loop c).wp P Q' a w:=by
 obtain⟨E,W,H,h⟩:=h;let J:Nat->Act->bh6:=λn a' w'=>∃T',Rel N T' a'/\Fr (wr c) T T'/\∃u:Nat->Value,n4 l E W (mH u (mG (wr c) l) T) (λs r D=>(∀t,T'.get t=s.get t)/\r w'/\D w'=n);have f:∃n,J n a w:=by
  obtain⟨n,M⟩:=vh l E W T _ w z H (sZ T _ _ T (s0 x) (λ_ _=>rfl));exact⟨n,T,R,.refl _ _,_,M⟩
 obtain⟨S,f⟩:=f;refine wp_loop_ghost J S f ?_;rintro n G U ⟨F,A,y,u,hex⟩;obtain⟨v,r,D,L,b,K,rfl⟩:=vg l E W _ _ _ (h u) hex;have C:Rel N v G:=A.same (λt=>(b t).symm);have g:Fr (wr c) T v:=λt q=>(b t).symm.trans (y t q);refine j _ _ _ _ _ C (L U K) (λk V a3 I d i=>?_) (λe k V a3 he d i=>O _ g _ _ _ _ he d i);have p:Fr (wr c) F k:=λt q=>(d t q).trans (b t).symm;obtain⟨m,hm,o⟩:=BL x z hex (λ_ _ _ h=>h.1) p I;exact⟨m,hm,k,i,g.trans d,_,o⟩
def H3:∀(c:Code) (l:Nat) (rest:Code),findLabel c l=some rest->∀t,t∈wr rest->t∈wr c:=by
 intro c;induction c with
 |seq x y b d=>
  intro l rest h t a;unfold findLabel at h;split at h
  ·rename_i r e;injection h with h;subst h
   rcases h6.1 a with a|a;·exact mw _ (b _ _ e _ a)
   ·exact nU _ a
  ·exact nU _ (d _ _ h _ a)
 |label l'=>
  intro l rest h t a;unfold findLabel at h;split at h;·injection h with h;subst h;cases a
  ·cases h
 |_=>intro l rest h;simp[findLabel]at h
def U6{N:Nat}:∀(c:Code) (l:Nat) (rest:Code),findLabel c l=some rest->ju P N A c=true->ju P N A rest=true:=by
 intro c;induction c with
 |seq x y f g=>
  intro l rest h a;unfold ju at a;simp only[dG]at a;unfold findLabel at h;split at h
  ·rename_i r e;injection h with h;subst h
   unfold ju;simp only[dG];refine⟨⟨f _ _ e a.1.1,a.1.2⟩,?_⟩;have b:=a.2;split
   ·rename_i ks d;rw[d]at b;simp only[dG]at b ⊢;refine⟨?_,b.2⟩;unfold okW;rw[fB];intro t i;have:=vd b.1 t (H3 _ _ _ e t i);simpa using this
   ·rfl
  ·exact g _ _ h a.1.2
 |label l'=>
  intro l rest h a;unfold findLabel at h;split at h;·injection h with h;subst h;rfl
  ·cases h
 |_=>intro l rest h;simp[findLabel]at h
def U7{N:Nat}{c rest:Code}{g:Nat}{l:List (Nat×C1)}{first pass:(Tr->bh6)->Tr->bh6}{Q:Exit->Tr->bh6}{Q':Exit->Act->bh6}{T:Tr}{a:Act}{w:World}(F:∀t∈wr c,t<8000)(G:pN l)(ab:Rel N T a)(hf:findLabel c g=some rest)(k:∀(J:Tr->bh6) (i:Act->bh6) T a w,Rel N T a->first J T w->(∀T' w' a',J T' w'->Fr (wr c) T T'->Rel N T' a'->i a' w')->
   (∀e T' w' a',Q e T' w'->Fr (wr c) T T'->Rel N T' a'->Q' e a' w')->c.wp P (Exit.jump g i Q') a w)(s:∀(J:Tr->bh6) (i:Act->bh6) T a w,Rel N T a->pass J T w->(∀T' w' a',J T' w'->Fr (wr c) T T'->Rel N T' a'->i a' w')->
   (∀e T' w' a',Q e T' w'->Fr (wr c) T T'->Rel N T' a'->Q' e a' w')->rest.wp P (Exit.jump g i Q') a w)(H:∀B,Fr (wr c) T B->∀e T' w' a',Q e T' w'->Fr (wr c) B T'->Rel N T' a'->Q' e a' w')(h:HN l (wr c) first pass T w):(Code.scope c).wp P Q' a w:=by
 obtain⟨R,ad,U,h⟩:=h;let J:Nat->Act->bh6:=λn a' w'=>∃T',Rel N T' a'/\Fr (wr c) T T'/\∃u:Nat->Value,n4 l R ad (mH u (mG (wr c) l) T) (λC A O=>(∀t,T'.get t=C.get t)/\A w'/\O w'=n);refine wp_scope_jumps g (λa w=>∃n,J n a w) (λa w=>leastOf (λn=>J n a w)) hf ?_ ?_
 ·refine k _ _ _ _ _ ab U (λT' w' a' Z b p=>?_) (λe T' w' a' he b p=>H _ (.refl _ _) _ _ _ _ he b p);obtain⟨n,aa⟩:=vh l R ad T' _ w' G Z (sZ T' _ _ T (s0 F) (b.mono (λt r=>BK r)));exact⟨n,T',p,b,_,aa⟩
 ·intro E L X;obtain⟨v,_⟩:=leastOf_spec X;generalize leastOf (λn=>J n E L)=n at v;obtain⟨S,I,b,u,hex⟩:=v;obtain⟨D,A,O,Y,d,W,rfl⟩:=vg l R ad _ _ _ (h u) hex;have K:Rel N D E:=I.same (λt=>(d t).symm);have o:Fr (wr c) T D:=λt r=>(d t).symm.trans (b t r);refine s _ _ _ _ _ K (Y L W) (λx M a3 V f q=>?_) (λe x M a3 he f q=>H _ o _ _ _ _ he f q);have z:Fr (wr c) S x:=λt r=>(f t r).trans (d t).symm;obtain⟨m,hm,y⟩:=BL F G hex (λ_ _ _ h=>h.1) z V;have j:J m a3 M:=⟨x,q,o.trans f,_,y⟩
  exact⟨⟨m,j⟩,AZ ((leastOf_spec ⟨m,j⟩).2 m j) hm⟩
def U8(hm:P.follows .mixedOrders=true){N:Nat}(ab:N<=8000):∀(n:Nat) (c:Code) (Q:Exit->Tr->bh6) (Q':Exit->Act->bh6) (T:Tr) (a:Act) (w:World),ju P N A c=true->Rel N T a->
  vc P τ ρ cz A n c Q T w->(∀e T' w' a',Q e T' w'->Fr (wr c) T T'->Rel N T' a'->Q' e a' w')->c.wp P Q' a w:=by
 intro n;induction n with
 |zero=>intro c Q Q' T a w _ _ h;exact h.elim
 |succ n p=>
 intro c;cases c with
 |skip=>intro Q Q' T a w _ j h g;exact wp_skip (g _ _ _ _ h (.refl _ _) j)
 |label l=>intro Q Q' T a w _ j h g;exact wp_label (g _ _ _ _ h (.refl _ _) j)
 |exit id=>intro Q Q' T a w _ j h g;exact wp_exit (g _ _ _ _ h (.refl _ _) j)
 |goto l=>intro Q Q' T a w _ j h g;exact wp_goto (g _ _ _ _ h (.refl _ _) j)
 |ret=>intro Q Q' T a w _ j h g;exact wp_ret (g _ _ _ _ h (.refl _ _) j)
 |region id ops draw=>intro Q Q' T a w d j h g;exact U4 hm ab d j h g
 |seq x y=>
  intro Q Q' T a w d j h g;unfold ju at d;simp only[dG]at d;have hx:∀t,t∈wr x->t∈wr (.seq x y):=λt k=>mw _ k;have V:∀t,t∈wr y->t∈wr (.seq x y):=λt k=>nU _ k;unfold vc at h;dsimp only at h;split at h
  ·refine wp_seq (p x _ _ _ _ _ d.1.1 j h (λe T' w' a' he hf b=>?_));cases e with
   |normal=>exact p y _ _ _ _ _ d.1.2 b he (λe M w2 X F u H=>g _ _ _ _ F ((hf.mono hx).trans (u.mono V)) H)
   |exit id=>exact g _ _ _ _ he (hf.mono hx) b
   |goto l=>exact g _ _ _ _ he (hf.mono hx) b
   |ret=>exact g _ _ _ _ he (hf.mono hx) b
   |panic C=>exact g _ _ _ _ he (hf.mono hx) b
   |outgrown=>exact g _ _ _ _ he (hf.mono hx) b
  ·rename_i ks m;have r:=d.2;rw[m]at r;simp only[dG]at r;have D:=vd r.1;have O:=xP r.2;obtain⟨J,Y,h⟩:=h;refine wp_seq (p x _ _ _ _ _ d.1.1 j Y (λe T' w' a' he hf b=>?_));cases e with
   |normal=>
    replace he:nf ks J T' w':=he
    obtain⟨n,hex⟩:=vh ks J (xN ks) T' _ w' O he (sZ T' _ _ T (s0 D) (hf.mono (λt k=>BK k)));obtain⟨M,I,af,aa,z,Z,_⟩:=vg ks J (xN ks) _ _ _ (h _) hex;have H:Rel N M a':=b.same (λt=>(z t).symm);have S:Fr (wr x) T M:=λt k=>(z t).symm.trans (hf t k);exact p y _ _ _ _ _ d.1.2 H (aa w' Z) (λe ae w2 X F u U=>g _ _ _ _ F ((S.mono hx).trans (u.mono V)) U)
   |exit id=>exact g _ _ _ _ he (hf.mono hx) b
   |goto l=>exact g _ _ _ _ he (hf.mono hx) b
   |ret=>exact g _ _ _ _ he (hf.mono hx) b
   |panic C=>exact g _ _ _ _ he (hf.mono hx) b
   |outgrown=>exact g _ _ _ _ he (hf.mono hx) b
 |cond c x y=>
  intro Q Q' T a w d j h g;unfold ju at d;simp only[dG]at d;unfold vc at h;dsimp only at h;split at h
  ·rename_i t k;have K:a.eval c=.bool t:=by rw[j.ev];exact k
   cases t with
   |true=>exact wp_cond_true K (p x _ _ _ _ _ d.1 j h (λe T' w' a' he hf b=>g _ _ _ _ he (hf.mono (λt k=>mw _ k)) b))
   |false=>exact wp_cond_false K (p y _ _ _ _ _ d.2 j h (λe T' w' a' he hf b=>g _ _ _ _ he (hf.mono (λt k=>nU _ k)) b))
  ·exact h.elim
 |block id c=>
  intro Q Q' T a w d j h g;refine wp_block (p c _ _ _ _ _ d j h (λe T' w' a' he hf b=>?_));cases e with
  |exit q=>
   replace he:bif Nat.beq q id then Q .normal T' w' else Q (.exit q) T' w':=he
   show if q=id then Q' .normal a' w' else Q' (.exit q) a' w'
   rw[jM]at he;by_cases e:q=id;·simp only[e,uQ,hr]at he;rw[bM e];exact g _ _ _ _ he hf b
   ·have:(q==id)=false:=by simpa using e
    rw[this,g8]at he;rw[bJ e];exact g _ _ _ _ he hf b
  |normal=>exact g _ _ _ _ he hf b
  |goto l=>exact g _ _ _ _ he hf b
  |ret=>exact g _ _ _ _ he hf b
  |panic C=>exact g _ _ _ _ he hf b
  |outgrown=>exact g _ _ _ _ he hf b
 |scope c=>
  intro Q Q' T a w d j h g;unfold ju at d;simp only[dG]at d;obtain⟨⟨d,D⟩,m⟩:=d;have o:vc P τ ρ cz A n c (BD Q) T w->(Code.scope c).wp P Q' a w:=λh=>by
   refine wp_scope_straight (p c _ _ _ _ _ d j h (λe T' w' a' he hf b=>?_));cases e with
   |goto l=>exact he
   |normal=>exact g _ _ _ _ he hf b
   |exit id=>exact g _ _ _ _ he hf b
   |ret=>exact g _ _ _ _ he hf b
   |panic C=>exact g _ _ _ _ he hf b
   |outgrown=>exact g _ _ _ _ he hf b
  unfold vc at h;dsimp only at h;split at h;·exact o h
  ·rename_i l O;rw[O]at m;dsimp only at m;split at h;·exact o h
   ·rename_i ks ad;rw[ad]at m;split at h
    ·rename_i rest s;refine U7 (Q:=Q) (vd D) (xP m) j s (λJ I L R W v E G i=>?_) (λJ I L R W v E G i=>?_) (λB hB e T' w' a' he hf b=>g _ _ _ _ he (hB.trans hf) b) h
     ·refine p c _ _ _ _ _ d v E (λe T' w' a' he hf b=>?_);cases e with
      |goto l'=>
       replace he:bif Nat.beq l' l then J T' w' else False:=he
       show l'=l/\I a' w';rw[jM]at he;by_cases e:l'=l;·simp only[e,uQ,hr]at he;exact⟨e,G _ _ _ he hf b⟩
       ·have:(l'==l)=false:=by simpa using e
        rw[this,g8]at he;exact he.elim
      |normal=>exact i _ _ _ _ he hf b
      |exit id=>exact i _ _ _ _ he hf b
      |ret=>exact i _ _ _ _ he hf b
      |panic C=>exact i _ _ _ _ he hf b
      |outgrown=>exact i _ _ _ _ he hf b
     ·refine p rest _ _ _ _ _ (U6 _ _ _ s d) v E (λe T' w' a' he u b=>?_);have hf:Fr (wr c) L T':=u.mono (H3 _ _ _ s);cases e with
      |goto l'=>
       replace he:bif Nat.beq l' l then J T' w' else False:=he
       show l'=l/\I a' w';rw[jM]at he;by_cases e:l'=l;·simp only[e,uQ,hr]at he;exact⟨e,G _ _ _ he hf b⟩
       ·have:(l'==l)=false:=by simpa using e
        rw[this,g8]at he;exact he.elim
      |normal=>exact i _ _ _ _ he hf b
      |exit id=>exact i _ _ _ _ he hf b
      |ret=>exact i _ _ _ _ he hf b
      |panic C=>exact i _ _ _ _ he hf b
      |outgrown=>exact i _ _ _ _ he hf b
    ·exact h.elim
 |loop c=>
  intro Q Q' T a w d j h g;unfold ju at d;simp only[dG]at d;obtain⟨⟨d,D⟩,m⟩:=d;refine U5 (Q:=Q) (body:=λnext=>vc P τ ρ cz A n c (mI next Q)) (vd D) (xP m) j (λnext next' L R W v E G i=>p c _ _ _ _ _ d v E (λe T' w' a' he hf b=>?_))
   (λB hB e T' w' a' he hf b=>g _ _ _ _ he (hB.trans hf) b) h
  cases e with
  |normal=>exact G _ _ _ he hf b
  |exit id=>exact i _ _ _ _ he hf b
  |goto l=>exact i _ _ _ _ he hf b
  |ret=>exact i _ _ _ _ he hf b
  |panic C=>exact i _ _ _ _ he hf b
  |outgrown=>exact i _ _ _ _ he hf b
 |rangeFunc f ps x y=>intro Q Q' T a w _ _ h;exact h.elim
 |refuse H4=>intro Q Q' T a w _ _ h;exact h.elim
end
end Go.Vc
namespace Go.Vc
open Go
def bW(K:bh7)(e:Ending)(w:World):Prop:=∃v,e=.returned v/\K v w
def rv(K:bh7)(p:List PanicEntry->bh6)(e:Ending)(w:World):Prop:=(∃v,e=.returned v/\K v w)\/∃a,e=.panicked a/\p a w
def ir(P:Program)(τ:TypeId->K1)(w:World)(T:Tr):List ResultVar->Array Value->(Array Value->Prop)->Prop
 |[],acc,f=>f acc
 |.tmp t::l,acc,f=>ir P τ w T l (acc.push (T.get t)) f
 |.cell p t::l,acc,f=>pK P (τ t) t (T.get p) w λv=>ir P τ w T l (acc.push v) f
def oneOf(vs:Array Value):Value:=match vs.toList with | [v]=>v|_=>.tuple vs
def oQ(P:Program)(τ:TypeId->K1)(rs:List ResultVar)(K:bh7)(p:List PanicEntry->bh6):Exit->Tr->bh6
 |.normal,T,w=>ir P τ w T rs #[] λvs=>K (oneOf vs) w
 |.ret,T,w=>ir P τ w T rs #[] λvs=>K (oneOf vs) w
 |.panic a,_,w=>p a w
 |_,_,_=>False
noncomputable def iQ:List Value->Nat->Tr->Tr
 |[],_,T=>T
 |v::l,i,T=>iQ l (i+1) (T.put (some i) v)
def j3(P:Program)(τ:TypeId->K1)(ρ:TypeId->Kd)(cz:FuncId->Bool)(A:dS)(fn:Func)(args:Array Value)(K:bh7)(p:List PanicEntry->bh6)(w:World):Prop:=
 match fn.body with
 |some c=>vc P τ ρ cz A 1000 c (oQ P τ fn.results.toList K p) (iQ args.toList 0 .nil) w
 |none=>False
def kP(P:Program)(A:dS)(fn:Func)(n:Nat):Bool:=match fn.body with
 |some c=>ju P fn.ntmps A c&&Nat.ble fn.ntmps 8000&&Nat.ble n fn.ntmps
 |none=>false
section
variable{P:Program}{τ:TypeId->K1}{ρ:TypeId->Kd}{cz:FuncId->Bool}{A:dS}
def oR(tmps:Array Value):ResultVar->Sem Value
 |.tmp t=>pure (tmps.getD t undef)
 |.cell p t=>do loadVar t (<- asAddr (tmps.getD p undef))
def U9(fn:Func)(tmps:Array Value):results fn tmps=(do
  let vs <- fn.results.mapM (oR tmps)
  pure (if h:vs.size=1 then vs[0]else .tuple vs)):=rfl
def BM{w:World}{a:Act}{T:Tr}{N:Nat}(b:Rel N T a):∀(l:List ResultVar) (acc:Array Value) (f:Array Value->Prop),ir P τ w T l acc f->
  ∃vs,(l.mapM (oR a.tmps)).run P w=.ok vs w/\f (acc++vs.toArray)
 |[],acc,f,h=>⟨[],by simp,by simpa[ir]using h⟩
 |.tmp t::l,acc,f,h=>by
  obtain⟨vs,h1,c⟩:=BM b l _ f h;refine⟨T.get t::vs,?_,?_⟩;·simp only[Hg,oR,b.get,Sem.run_bind,Sem.run_pure,Result.andThen_ok,h1]
  ·have:acc++(T.get t::vs).toArray=acc.push (T.get t)++vs.toArray:=by apply Array.ext';simp
   rw[this];exact c
 |.cell p t::l,acc,f,h=>by
  unfold ir pK at h;split at h
  ·rename_i q i;obtain⟨v,h1,c⟩:=Hu (P:=P) h;obtain⟨vs,d,e⟩:=BM b l _ f c;refine⟨v::vs,?_,?_⟩
   ·have g:(asAddr (a.tmps.getD p undef)).run P w=.ok q w:=by rw[b.get,i];rfl
    simp only[Hg,oR,Sem.run_bind,g,Sem.run_pure,Result.andThen_ok,h1 w (.refl w),d]
   ·have:acc++(v::vs).toArray=acc.push v++vs.toArray:=by apply Array.ext';simp
    rw[this];exact e
  ·exact h.elim
def BN{fn:Func}{w:World}{a:Act}{T:Tr}{N:Nat}(c:Rel N T a){f:Array Value->Prop}(h:ir P τ w T fn.results.toList #[] f):∃vs,(results fn a.tmps).run P w=.ok (oneOf vs) w/\f vs:=by
 obtain⟨vs,h1,b⟩:=BM c _ _ _ h;refine⟨vs.toArray,?_,by simpa using b⟩;rw[U9,Array.mapM_eq_mapM_toList];simp only[Sem.run_bind,Sem.run_map,h1,Result.andThen_ok,Sem.run_pure];congr 1
 match vs with
 |[]=>rfl
 |[v]=>rfl
 |u::v::l=>simp[oneOf]
def H5:∀(l:List Value) (i:Nat) (T:Tr) (t:Nat),i+l.length<=8000->(iQ l i T).get t=if t<i then T.get t else match l[t-i]? with|some v=>v|none=>T.get t
 |[],i,T,t,_=>by simp[iQ]
 |v::l,i,T,t,h=>by
  simp only[hS]at h;unfold iQ;rw[H5 l (i+1) _ t bA];by_cases h1:t<i;·rw[eG,bM h1,Tr.dM T i t v bA,cM]
  ·by_cases a:t=i
   ·subst a;rw[eG,bJ h1,Tr.dM T t t v bA,bM rfl];simp
   ·rw[cM,bJ h1,Tr.dM T i t v bA,bJ a];have:t-i=(t-(i+1))+1:=by omega
    rw[this,List.getElem?_cons_succ]
def Rel.init{N:Nat}{args:Array Value}(b:N<=8000)(c:args.size<=N):Rel N (iQ args.toList 0 .nil) {tmps:=args++Array.replicate (N-args.size) undef,defers:=[]} :=by
 refine⟨rfl,by simp;omega,λt=>?_⟩;rw[H5 _ 0 _ t (by simp;omega),cM,Hn];simp only[iC,Array.getElem?_append,Array.getElem?_toList];by_cases h:t<args.size;·simp[h]
 ·rw[bJ h,xv (T7 h)];simp only[Tr.get_nil];by_cases a:t-args.size<N-args.size;·simp[a]
  ·simp[a]
def H6{g:FuncId}{fn:Func}{args:Array Value}{w:World}{K:bh7}{p:List PanicEntry->bh6}(hm:P.follows .mixedOrders=true)(hf:P.funcs[g]?=some fn)(a:kP P A fn args.size=true)(h:j3 P τ ρ cz A fn args K p w):Calls P g args w (rv K p):=by
 unfold j3 at h;unfold kP at a;split at h
 ·rename_i c i;rw[i]at a;simp only[dG]at a;obtain⟨⟨a,k⟩,m⟩:=a;have d:fn.ntmps<=8000:=by simpa using k
  have j:args.size<=fn.ntmps:=by simpa using m
  refine calls_of_wp hf i ?_;refine U8 hm d 1000 c _ _ _ _ _ a (Rel.init d j) h (λe T' w' a' he _ b=>?_);cases e with
  |normal=>
   obtain⟨vs,h1,f⟩:=BN b he;exact⟨b.defers,_,h1,.inl ⟨_,rfl,f⟩⟩
  |ret=>
   obtain⟨vs,h1,f⟩:=BN b he;exact⟨b.defers,_,h1,.inl ⟨_,rfl,f⟩⟩
  |panic n=>exact⟨b.defers,.inr ⟨_,rfl,he⟩⟩
  |exit id=>exact he.elim
  |goto l=>exact he.elim
  |outgrown=>exact he.elim
 ·exact h.elim
def BO{g:FuncId}{fn:Func}{args:Array Value}{w:World}{K:bh7}(hm:P.follows .mixedOrders=true)(hf:P.funcs[g]?=some fn)(a:kP P A fn args.size=true)(h:j3 P τ ρ cz A fn args K (λ_ _=>False) w):Calls P g args w (bW K):=
 (H6 hm hf a h).mono λ_ _ he=>he.elim id λ⟨_,_,h⟩=>h.elim
end
end Go.Vc
namespace Go.Kc
open Go.Kt
def firstFree:Nat->List Bool->Option Nat
 |_,[]=>none
 |n,b::l=>if b then firstFree (n+1) l else some n
def fQ(T:List Bool):List Bool×Int×Int:=match firstFree 0 T with
 |some i=>(T.set i true,i,0)
 |none=>(T, -1,3)
def mJ(T:List Bool)(i:Int):List Bool×Int:=
 if i<0\/(T.length:Int)<=i then(T,1)else if T.getD i.toNat false=false then(T,2)else(T.set i.toNat false,0)
def iu(n:Int):List Bool:=List.replicate (min (max n 0).toNat 1024) false
def BP:∀ {T:List Bool} {n i:Nat},firstFree n T=some i->n<=i/\T[i-n]?=some false/\∀j,n<=j->j<i->T[j-n]?=some true
 |[],_,_,h=>by cases h
 |b::T,n,i,h=>by
  unfold firstFree at h;cases b with
  |true=>
   simp only[fP]at h;obtain⟨h1,a,d⟩:=BP h;refine⟨bA,?_,λj f c=>?_⟩;·rw[show i-n=(i-(n+1))+1 by omega];simpa using a
   ·rcases Nat.eq_or_lt_of_le f with e|e;·subst e;simp
    ·rw[show j-n=(j-(n+1))+1 by omega];simpa using d j bA c
  |false=>
   simp only[kK,gq,eF]at h;subst h;exact⟨dN _,by simp,λj h1 a=>bA⟩
def H7:∀ {T:List Bool} {n:Nat},firstFree n T=none->∀b∈T,b=true
 |[],_,_,b,d=>by cases d
 |b::T,n,h,c,a=>by
  unfold firstFree at h;cases b with
  |true=>
   simp only[fP]at h;rcases ey.1 a with rfl|a;·rfl
   ·exact H7 h c a
  |false=>simp at h
def BQ(T:List Bool):(fQ T).1.length=T.length:=by
 unfold fQ;split<;>simp
def pP(T:List Bool)(i:Int):(mJ T i).1.length=T.length:=by
 unfold mJ;split;·rfl
 ·split<;>simp
structure ei where
 use:Int
 cf:Int
deriving DecidableEq
def top:Int:=1099511627776
def fx(g:Int):Bool:=decide (0<=g)&&decide (g<64)
def gf(n:Int):Bool:=decide (0<=n)&&decide (n<=top)
def gU(C:List ei)(g:Int):ei:=if fx g then C.getD g.toNat ⟨0,0⟩else⟨0,0⟩
def cJ(C:List ei)(g:Int):Int:=(gU C g).use
def db(C:List ei)(g:Int):Int:=(gU C g).cf
def iv(C:List ei)(g:Int)(f:ei->ei):List ei:=C.set g.toNat (f (C.getD g.toNat ⟨0,0⟩))
def hs(C:List ei)(g n:Int):List ei×Int:=
 if fx g&&gf n then(iv C g λx=> {x with cf:=n},0)else(C,1)
def nodupB:bU->Bool
 |[]=>true
 |x::l=> !l.contains x&&nodupB l
def iH(l:bU)(n:Int):Bool:=l.all fx&&nodupB l&&gf n
def dt(C:List ei)(l:bU)(n:Int):List ei:=l.foldl (λC g=>iv C g λx=> {x with use:=x.use+n}) C
def df(C:List ei)(l:bU)(n:Int):List ei×Int×Int:=
 if iH l n=false then(C, -1,1)
 else match l.find? (λg=>decide (0<n)&&decide ((C.getD g.toNat ⟨0,0⟩).cf<(C.getD g.toNat ⟨0,0⟩).use+n))with
  |some g=>(C,g,22)
  |none=>(dt C l n, -1,0)
def fJ(C:List ei)(l:bU)(n:Int):List ei×Int:=
 if iH l n=false then(C,1)
 else match l.find? (λg=>decide ((C.getD g.toNat ⟨0,0⟩).use<n))with
  |some _=>(C,2)
  |none=>(dt C l (-n),0)
def j4:List ei:=List.replicate 64 ⟨0,top⟩
structure hd(C:List ei):Prop where
 len:C.length=64
 ok:∀x∈C,(0<=x.use/\x.use<=top)/\0<=x.cf/\x.cf<=top
structure FS where
 bP:bU
 bz:Int×Int->Option (List UInt8)
def gL(bP:bU):FS:=⟨(bP.take 32).map λn=>min (max n 0) 4096,λ_=>none⟩
def nm(F:FS)(f:Int):Int:=if f<0\/(F.bP.length:Int)<=f then 0 else F.bP.getD f.toNat 0
def l1(n:Int):UInt8:=UInt8.ofNat (n%256).toNat
def nn(k:Int×Int):List UInt8:=(List.range 16).map λi:Nat=>l1 (31*k.1+7*k.2+(i:Int))
def ed(F:FS)(k:Int×Int):Bool:=decide (0<=k.2)&&decide (k.2<nm F k.1)
def s3(F:FS)(k:Int×Int):List UInt8×Int:=
 if ed F k=false then([],2)else match F.bz k with
  |some t=>(t,0)
  |none=>(nn k,0)
def np(F:FS)(k:Int×Int)(t:List UInt8):FS×Int:=
 if ed F k=false then(F,2)else if t.length≠16 then(F,1)else({F with bz:=λx=>if x=k then some t else F.bz x},0)
def s5(g c:Int):Int:=1+2*g+512*(c%top)
def gM(x:Int):Int×Int×Bool:=if x%2=1/\x/512<top then(x/2%256,x/512,true)else(0,0,false)
def oS(l:bU)(g:Int):Int:=l.getD g.toNat 0
def dx(l:bU)(g:Int):bU×Int:=
 if fx g=false then(l,0)else(l.set g.toNat (i64.wrap (oS l g+1)),if oS l g<0 then 0 else s5 g (oS l g))
def l2(l:bU)(x a:Int):Bool:=
 (gM x).2.2&&fx (gM x).1&&decide (0<=oS l (gM x).1)&&decide ((oS l (gM x).1-(gM x).2.1)%top<=a)
structure eB where
 parent:Int
 use:Int
 own:Int
deriving DecidableEq
def eB.eV(x:eB):Int:=min x.own x.use
def nZ:eB:=⟨0,0,0⟩
def nq(l:List eB)(i:Int):eB:=l.getD i.toNat nZ
def gC:Nat->List eB->Bool
 |_,[]=>true
 |i,x::l=>((decide (i=0)&&decide (x.parent= -1))||(decide (0<=x.parent)&&decide (x.parent<(i:Int))))&&gf x.use&&gf x.own&&gC (i+1) l
def hK(l:List eB):Bool:=gC 0 l&&decide (l.length<=64)
def lx(l:List eB)(t:Int):Nat->Int->bU
 |0,_=>[]
 |n+1,g=>if g=t then[]else if g<0 then[g]else g::lx l t n (nq l g).parent
def hL(l:List eB)(t g:Int):bU:=lx l t (l.length+1) g
def mK(l:List eB)(g t:Int):Bool:=(hL l t g).all λx=>decide (0<=x)
def sumOf(l:List eB)(p:Int):Int:=((l.drop 1).filter λx=>x.parent==p).foldl (λs x=>s+x.eV) 0
def mL(l:List eB)(t:Int)(out:bU)(i:Nat)(x:eB):Int:=
 if(i:Int)=t\/mK l i t=false then 0
 else if x.parent≠t/\out.getD x.parent.toNat 0<sumOf l x.parent then x.eV*out.getD x.parent.toNat 0/sumOf l x.parent
 else x.eV
def ly(l:List eB)(t:Int):List eB->bU->bU
 |[],out=>out
 |x::r,out=>ly l t r (out++[mL l t out out.length x])
def mM(l:List eB)(t:Int):bU:=if hK l=false\/t<0\/(l.length:Int)<=t then[]else ly l t l []
def nr(l:List eB)(dU:bU)(t g:Int):Bool:=
 if hK l=false\/dU.length≠l.length\/t<0\/(l.length:Int)<=t\/g<0\/(l.length:Int)<=g\/mK l g t=false then false
 else(hL l t g).any λx=>decide ((nq l x).use<=dU.getD x.toNat 0)
def cn(l:bU):Int:=l.foldl (· + ·) 0
def h8(n:Int)(ws:bU):Bool:=decide (0<=n)&&decide (n<=1048576)&&decide (ws.length<=64)&&ws.all λw=>decide (0<=w)&&decide (w<=top)
def ahead(rs:bU)(i:Nat)(r:Int):Nat:=(rs.zipIdx.filter λp:Int×Nat=>decide (r<p.1)||(decide (p.1=r)&&decide (p.2<i))).length
def iI(n:Int)(ws:bU):bU:=
 if h8 n ws=false then[]else
 if cn ws=0 then ws.map λ_=>0 else
 let rs:=ws.map λw=>n*w%cn ws
 let left:=n-cn (ws.map λw=>n*w/cn ws)
 ws.zipIdx.map λp:Int×Nat=>n*p.1/cn ws+if(ahead rs p.2 (n*p.1%cn ws):Int)<left then 1 else 0
def iR(n:Int)(ws:bU):bU:=
 if h8 n ws=false then[]else if cn ws=0\/n=0 then ws.map λ_=>0 else if cn ws<=n then ws else iI n ws
end Go.Kc
namespace Go.Sp
open Go Go.Vc
structure Asn where
 holds:Array Obj->(Nat->Prop)->Prop
 loc:∀ {h h':Array Obj} {F:Nat->Prop},holds h F->(∀b,F b->h'[b]?=h[b]?)->holds h' F
abbrev ch:=List Asn
def dm:ch->Array Obj->(Nat->Prop)->Prop
 |[],_,_=>True
 |A::L,h,U=>∃F,A.holds h F/\(∀b,F b->b<h.size/\¬ U b)/\dm L h (λb=>U b\/F b)
structure Env where
 os:Os
 tape:Nat->Question->Nat
 output:Array (Nat×ByteArray)
def World.env(w:World):Env:=⟨w.os,w.tape,w.output⟩
structure Sep(E:Env)(L:ch)(w:World):Prop where
 env:World.env w=E
 heap:dm L w.heap (λ_=>False)
def emp:Asn:=⟨λ_ F=>∀b,¬ F b,λh _=>h⟩
def vi(z:Nat×Nat)(n:Nat):Prop:=∀o,o<n->¬ (z.1<=o/\o<z.2)
def bE(b:Nat)(c:List Value):Asn:=
 ⟨λh F=>(∃t z,h[b]?=some (.cells c.toArray t z)/\vi z c.length)/\∀x,F x↔x=b,λa d=>⟨by rw[d b ((a.2 b).2 rfl)];exact a.1,a.2⟩⟩
def vj(b:Nat)(es:Array MapEntry)(ck:Nat):Asn:=
 ⟨λh F=>h[b]?=some (.map es ck)/\∀x,F x↔x=b,λa c=>⟨by rw[c b ((a.2 b).2 rfl)];exact a.1,a.2⟩⟩
def c2(b:Nat)(o:Obj):Asn:=
 ⟨λh F=>h[b]?=some o/\∀x,F x↔x=b,λa c=>⟨by rw[c b ((a.2 b).2 rfl)];exact a.1,a.2⟩⟩
def dZ(H:Array Obj):Asn:=
 ⟨λh F=>(∀b,b<H.size->h[b]?=H[b]?)/\∀x,F x↔x<H.size,λa d=>⟨λb c=>by rw[d b ((a.2 b).2 c)];exact a.1 b c,a.2⟩⟩
def cC(p:Prop)(A:Asn):Asn:=⟨λh F=>p/\A.holds h F,λa b=>⟨a.1,A.loc a.2 b⟩⟩
def e8{α:Sort _}(f:α->Asn):Asn:=⟨λh F=>∃x,(f x).holds h F,λ⟨x,hx⟩ a=>⟨x,(f x).loc hx a⟩⟩
def star(A B:Asn):Asn:=
  ⟨λh F=>∃a c,A.holds h a/\B.holds h c/\(∀b,a b->¬ c b)/\∀b,F b↔a b\/c b,
   λ⟨a,c,h1,g,i,d⟩ f=>⟨a,c,A.loc h1 (λb e=>f b ((d b).2 (.inl e))),B.loc g (λb e=>f b ((d b).2 (.inr e))),i,d⟩⟩
def dm.weaken:∀ {L:ch} {h:Array Obj} {U V:Nat->Prop},dm L h U->(∀b,V b->U b)->dm L h V
 |[],_,_,_,_,_=>trivial
 |_::_,_,_,_,⟨F,h1,c,f⟩,d=>⟨F,h1,λb a=>⟨(c b a).1,λe=>(c b a).2 (d b e)⟩,f.weaken (λb a=>a.elim (λx=>.inl (d b x)) .inr)⟩
def dm.swap{A B:Asn}{L:ch}{h:Array Obj}{U:Nat->Prop}:dm (A::B::L) h U->dm (B::A::L) h U:=by
 rintro⟨F,h1,e,G,f,c,g⟩;refine⟨G,f,λb a=>⟨(c b a).1,λhu=>(c b a).2 (.inl hu)⟩,F,h1,λb a=>⟨(e b a).1,?_⟩,g.weaken ?_⟩
 ·rintro(hu|d);·exact(e b a).2 hu
  ·exact(c b d).2 (.inr a)
 ·rintro b ((hu|d)|hf);·exact .inl (.inl hu)
  ·exact .inr d
  ·exact .inl (.inr hf)
def dm.cons{A:Asn}{L L':ch}{h:Array Obj}{U:Nat->Prop}(c:∀U,dm L h U->dm L' h U):dm (A::L) h U->dm (A::L') h U:=
 λ⟨F,h1,a,b⟩=>⟨F,h1,a,c _ b⟩
def dm.drop{A:Asn}{L:ch}{h:Array Obj}{U:Nat->Prop}:dm (A::L) h U->dm L h U:=
 λ⟨_,_,_,a⟩=>a.weaken (λ_ b=>.inl b)
def dm.front{A:Asn}{h:Array Obj}:∀ {L:ch} {b:ch} {U:Nat->Prop},dm (L++A::b) h U->dm (A::(L++b)) h U
 |[],_,_,a=>a
 |_::_,_,_,a=>(dm.cons (λ_ h=>dm.front h) a).swap
def dm.perm{h:Array Obj}{L L':ch}(hp:L.Perm L'):∀ {U:Nat->Prop},dm L h U->dm L' h U:=by
 induction hp with
 |nil=>exact id
 |cons A _ d=>exact λa=>a.cons (λ_ h=>d h)
 |swap A B L=>exact dm.swap
 |trans _ _ b c=>exact λa=>c (b a)
def dm.append_left{h:Array Obj}:∀ {L L':ch} {U:Nat->Prop},dm (L++L') h U->dm L h U
 |[],_,_,_=>trivial
 |_::_,_,_,⟨F,h1,a,b⟩=>⟨F,h1,a,b.append_left⟩
def kQ(L:ch):List Nat->ch
 |[]=>[]
 |i::is=>match L[i]? with
  |some A=>A::kQ L is
  |none=>kQ L is
def oT:List Nat->Bool
 |[]=>true
 |i::is=> !is.contains i&&oT is
def dm.BR{h:Array Obj}:∀ {L:ch} {U:Nat->Prop},dm L h U->∃c:Nat->Nat->Prop,
  (∀(i:Nat) (A:Asn),L[i]?=some A->A.holds h (c i)/\∀b,c i b->b<h.size/\¬ U b)/\∀i j b,i≠j->i<L.length->j<L.length->c i b->¬ c j b
 |[],_,_=>⟨λ_ _=>False,λi A a=>by simp at a,λ_ _ _ _ a=>by simp at a⟩
 |B::L,U,⟨F,h1,p,q⟩=>by
  obtain⟨c,k,o⟩:=dm.BR q;refine⟨λi=>match i with|0=>F|i+1=>c i,?_,?_⟩
  ·intro i A a;cases i with
   |zero=>simp only[lo,eF]at a;subst a;exact⟨h1,p⟩
   |succ i=>
    have:=k i A (by simpa using a);exact⟨this.1,λb d=>⟨(this.2 b d).1,λhu=>(this.2 b d).2 (.inl hu)⟩⟩
  ·intro i j b g a m d f;cases i with
   |zero=>
    cases j with
    |zero=>exact g rfl
    |succ j=>
     have n:j<L.length:=by simpa using m
     have:=(k j L[j] (dD n)).2 b f;exact this.2 (.inr d)
   |succ i=>
    cases j with
    |zero=>
     have l:i<L.length:=by simpa using a
     have:=(k i L[i] (dD l)).2 b d;exact this.2 (.inr f)
    |succ j=>exact o i j b (λe=>g (by rw[e])) (by simpa using a) (by simpa using m) d f
def dm.kR{h:Array Obj}{L:ch}{f:Nat->Nat->Prop}(g:∀(i:Nat) (A:Asn),L[i]?=some A->A.holds h (f i)/\∀b,f i b->b<h.size)(m:∀i j b,i≠j->i<L.length->j<L.length->f i b->¬ f j b):∀(is:List Nat) (U:Nat->Prop),oT is=true->(∀b i,i∈is->i<L.length->f i b->¬ U b)->dm (kQ L is) h U
 |[],_,_,_=>trivial
 |i::is,U,d,n=>by
  simp only[oT,dG,hR]at d;have p:i∉is:=by simpa using d.1
  unfold kQ;cases o:L[i]? with
  |none=>exact dm.kR g m is U d.2 (λb j k c a=>n b j (fI _ k) c a)
  |some A=>
   have l:i<L.length:=by
    rcases gS i L.length with h' | h';·exact h'
    ·simp[fH h']at o
   refine⟨f i,(g i A o).1,λb a=>⟨(g i A o).2 b a,n b i (fj ..) l a⟩,?_⟩;refine dm.kR g m is _ d.2 (λb j k c a hu=>?_);rcases hu with hu|hu;·exact n b j (fI _ k) c a hu
   ·exact m i j b (λe=>p (e▸k)) l c hu a
def dm.fr{h:Array Obj}{A:Asn}:∀(L:ch) (i:Nat) {U:Nat->Prop},L[i]?=some A->dm L h U->dm (A::L.eraseIdx i) h U
 |[],i,_,a,_=>by simp at a
 |B::L,0,_,a,b=>by simp only[lo,eF]at a;subst a;exact b
 |B::L,i+1,_,a,b=>(b.cons λ_ h=>dm.fr L i (by simpa using a) h).swap
section
variable{E:Env}{L:ch}{w:World}
def Sep.re(h:Sep E L w)(is:List Nat)(d:oT is=true):Sep E (kQ L is) w:=by
 obtain⟨g,a,e⟩:=h.heap.BR;exact⟨h.env,dm.kR (λi A c=>⟨(a i A c).1,λb f=>((a i A c).2 b f).1⟩) e is _ d (λ_ _ _ _ _=>id)⟩
def H8:∀ {is:List Nat},oT is=true->is.Nodup
 |[],_=>List.nodup_nil
 |i::is,h=>by
  simp only[oT,dG,hR]at h;exact pD.2 ⟨by simpa using h.1,H8 h.2⟩
def H9:∀ {is:List Nat},is.Nodup->oT is=true
 |[],_=>rfl
 |i::is,h=>by
  have:=pD.1 h;simp only[oT,dG,hR];exact⟨by simpa using this.1,H9 this.2⟩
def Ia(L:ch)(i:Nat)(is:List Nat):kQ L (i::is)=(match L[i]? with|some A=>A::kQ L is|none=>kQ L is):=rfl
def Ib(L:ch):∀(is a:List Nat),kQ L (is++a)=kQ L is++kQ L a
 |[],_=>rfl
 |i::is,a=>by
  rw[oJ,Ia,Ia,Ib L is a];cases L[i]? <;>rfl
def Ic(L:ch):∀(k n:Nat),n+k=L.length->kQ L (List.range' n k)=L.drop n
 |0,n,h=>by simp[kQ,jJ (show L.length<=n by omega)]
 |k+1,n,h=>by
  rw[List.range'_succ];unfold kQ;rw[dL,Ic L k (n+1) bA];exact(ln bA).symm
def xX(n:Nat):List Nat->Bool
 |[]=>true
 |i::is=>Nat.blt i n&&xX n is
def Ie{n:Nat}:∀ {is:List Nat},xX n is=true->∀i∈is,i<n
 |[],_,i,h=>by cases h
 |j::is,a,i,h=>by
  simp only[xX,dG,Nat.blt_eq]at a;rcases ey.1 h with rfl|h;·exact a.1
  ·exact Ie a.2 i h
def Sep.ro(h:Sep E L w)(n:Nat)(is:List Nat)(c:(oT is&&xX n is)=true):Sep E (kQ L is++L.drop n) w:=by
 simp only[dG]at c;rcases gS L.length n with f|f
 ·have:=h.re is c.1;rw[jJ bA,hF];exact this
 ·have:=h.re (is++List.range' n (L.length-n)) (H9 (A0.2 ⟨H8 c.1,List.nodup_range',λa d b e=>by
   have h1:=Ie c.2 a d;have g:=(List.mem_range'_1.1 e).1;omega⟩))
  rw[Ib,Ic L _ n bA]at this;exact this
def Sep.perm{L':ch}(h:Sep E L w)(hp:L.Perm L'):Sep E L' w:=⟨h.env,h.heap.perm hp⟩
def Sep.swap{A B:Asn}(h:Sep E (A::B::L) w):Sep E (B::A::L) w:=⟨h.env,h.heap.swap⟩
def Sep.fr(h:Sep E L w)(i:Nat){A:Asn}(a:L[i]?=some A):Sep E (A::L.eraseIdx i) w:=⟨h.env,dm.fr L i a h.heap⟩
def Sep.tail{A:Asn}(h:Sep E (A::L) w):Sep E L w:=⟨h.env,h.heap.drop⟩
def Sep.left{L':ch}(h:Sep E (L++L') w):Sep E L w:=⟨h.env,h.heap.append_left⟩
def Sep.star{A B:Asn}:Sep E (star A B::L) w↔Sep E (A::B::L) w:=by
 constructor
 ·rintro⟨he,F,⟨d,e,h1,g,h,c⟩,f,j⟩;refine⟨he,d,h1,λb a=>f b ((c b).2 (.inl a)),e,g,λb a=>⟨(f b ((c b).2 (.inr a))).1,?_⟩,j.weaken ?_⟩
  ·rintro(hu|hu);·exact hu
   ·exact h b hu a
  ·rintro b ((hu|hu)|hu);·exact .inl hu
   ·exact .inr ((c b).2 (.inl hu))
   ·exact .inr ((c b).2 (.inr hu))
 ·rintro⟨he,d,h1,g,e,h,c,f⟩;refine⟨he,λb=>d b\/e b,⟨d,e,h1,h,λb a i=>(c b i).2 (.inr a),λ_=>lS⟩,λb a=>?_,f.weaken ?_⟩
  ·rcases a with a|a;·exact g b a
   ·exact⟨(c b a).1,λhu=>hu⟩
  ·rintro b (hu|hu|hu);·exact hu.elim
   ·exact .inl (.inr hu)
   ·exact .inr hu
def Sep.ex{α:Sort _}{f:α->Asn}:Sep E (e8 f::L) w↔∃x,Sep E (f x::L) w:=by
 constructor;·rintro⟨he,F,⟨x,hx⟩,a,b⟩;exact⟨x,he,F,hx,a,b⟩
 ·rintro⟨x,he,F,hx,a,b⟩;exact⟨he,F,⟨x,hx⟩,a,b⟩
def Sep.cC{p:Prop}{A:Asn}:Sep E (cC p A::L) w↔p/\Sep E (A::L) w:=by
 constructor;·rintro⟨he,F,⟨hp,hx⟩,a,b⟩;exact⟨hp,he,F,hx,a,b⟩
 ·rintro⟨hp,he,F,hx,a,b⟩;exact⟨he,F,⟨hp,hx⟩,a,b⟩
def Sep.emp:Sep E (emp::L) w↔Sep E L w:=by
 constructor;·exact Sep.tail
 ·rintro⟨he,h⟩;exact⟨he,λ_=>False,λ_ h=>h,λ_ h=>h.elim,h.weaken (λ_ a=>a.elim id id)⟩
def Sep.block{b:Nat}{c:List Value}(h:Sep E (bE b c::L) w):∃t z,w.heap[b]?=some (.cells c.toArray t z)/\vi z c.length:=by
 obtain⟨_,F,⟨h1,_⟩,_⟩:=h;exact h1
def Sep.dp{b:Nat}{o:Obj}(h:Sep E (c2 b o::L) w):w.heap[b]?=some o:=by
 obtain⟨_,F,⟨h1,_⟩,_⟩:=h;exact h1
def Sep.j5{H:Array Obj}(h:Sep E (dZ H::L) w)(b:Nat)(a:b<H.size):w.heap[b]?=H[b]? :=by
 obtain⟨_,F,⟨h1,_⟩,_⟩:=h;exact h1 b a
def Sep.cell{b:Nat}{c:List Value}(h:Sep E (bE b c::L) w)(o:Nat):w.cell? ⟨b,o,none⟩=c[o]? :=by
 obtain⟨t,z,a,_⟩:=h.block;simp[World.cell?,a]
def Sep.cellAt{b:Nat}{c:List Value}(i:Nat)(d:L[i]?=some (bE b c))(h:Sep E L w)(o:Nat):w.cell? ⟨b,o,none⟩=c[o]? :=by
 obtain⟨f,a,_⟩:=h.heap.BR;obtain⟨t,z,e,_⟩:=(a i _ d).1.1;simp[World.cell?,e]
def dm.change{A A':Asn}{F F':Nat->Prop}{h h':Array Obj}(f:h.size<=h'.size)(hold:∀b,b<h.size->¬ F b->h'[b]?=h[b]?)(g:A'.holds h' F')(e:∀b,F' b->b<h'.size/\(F b\/h.size<=b)):
  ∀ {L:ch} {U:Nat->Prop},(∀b,F b->U b)->(∀b,U b->b<h.size)->dm L h U->dm L h' (λb=>U b\/F' b)
 |[],_,_,_,_=>trivial
 |B::L,U,d,j,⟨G,h1,c,i⟩=>by
  refine⟨G,B.loc h1 (λb a=>hold b (c b a).1 (λhf=>(c b a).2 (d b hf))),λb a=>⟨mz (c b a).1 f,?_⟩,?_⟩
  ·rintro(hu|hf);·exact(c b a).2 hu
   ·rcases(e b hf).2 with hf|hf;·exact(c b a).2 (d b hf)
    ·exact absurd (c b a).1 (Nat.not_lt.2 hf)
  ·have:=dm.change (A:=A) f hold g e (L:=L) (U:=λb=>U b\/G b) (λb a=>.inl (d b a)) (λb a=>a.elim (j b) (λk=>(c b k).1)) i;exact this.weaken (λb a=>by
    rcases a with(a|a)|a;·exact .inl (.inl a)
    ·exact .inr a
    ·exact .inl (.inr a))
def Sep.change{A A':Asn}{w':World}(h:Sep E (A::L) w)(e:World.env w'=World.env w)(i:w.heap.size<=w'.heap.size)(g:∀F,A.holds w.heap F->(∀b,F b->b<w.heap.size)->(∀b,b<w.heap.size->¬ F b->w'.heap[b]?=w.heap[b]?)/\∃F',A'.holds w'.heap F'/\∀b,F' b->b<w'.heap.size/\(F b\/w.heap.size<=b)):
  Sep E (A'::L) w':=by
 obtain⟨he,F,h1,f,j⟩:=h;obtain⟨hold,F',c,d⟩:=g F h1 (λb a=>(f b a).1);refine⟨e.trans he,F',c,λb a=>⟨(d b a).1,λhu=>hu⟩,?_⟩;have:=dm.change (A:=A) i hold c d (L:=L) (U:=λb=>False\/F b) (λb a=>.inr a) (λb a=>a.elim False.elim (λhf=>(f b hf).1)) j;exact this.weaken (λb a=>by
  rcases a with a|a;·exact a.elim
  ·exact .inr a)
def Sep.grow{w':World}(h:Sep E L w)(g:Grow w w'):Sep E L w':=by
 have h1:Sep E (Sp.emp::L) w:=Sep.emp.2 h;refine Sep.emp.1 (h1.change (A':=Sp.emp) ?_ g.size (λF c _=>⟨λb a _=>g.heap b a,F,c,λb a=>(c b a).elim⟩));simp[World.env,g.os,g.tape,g.output]
def Sep.drew(h:Sep E L w):Sep E L w.drew:=h.grow (Grow.drew w)
def Sep.new{A':Asn}{w':World}(h:Sep E L w)(g:Grow w w'){F':Nat->Prop}(d:A'.holds w'.heap F')(c:∀b,F' b->w.heap.size<=b/\b<w'.heap.size):Sep E (A'::L) w':=by
 have h1:Sep E (Sp.emp::L) w:=Sep.emp.2 h;refine h1.change (A':=A') ?_ g.size (λF e _=>⟨λb a _=>g.heap b a,F',d,λb a=>⟨(c b a).2,.inr (c b a).1⟩⟩);simp[World.env,g.os,g.tape,g.output]
def heap_alloc(w:World)(o:Obj):(w.alloc o).heap[w.heap.size]?=some o:=by
 show(w.heap.push o)[w.heap.size]?=some o;simp
def size_alloc(w:World)(o:Obj):(w.alloc o).heap.size=w.heap.size+1:=by
 show(w.heap.push o).size=_;simp
def Sep.alloc(h:Sep E L w)(c:Array Value)(t:TypeId):Sep E (bE w.heap.size c.toList::L) (w.alloc (.cells c t)):=
 h.new (Grow.alloc w _) (F':=λx=>x=w.heap.size) ⟨⟨t,(0,0),heap_alloc w _,λ_ _ h=>bA⟩,λ_=>lS⟩ (λb a=>by subst a;rw[size_alloc];omega)
def Sep.ry(h:Sep E L w)(es:Array MapEntry)(ck:Nat):Sep E (vj w.heap.size es ck::L) (w.alloc (.map es ck)):=
 h.new (Grow.alloc w _) (F':=λx=>x=w.heap.size) ⟨heap_alloc w _,λ_=>lS⟩ (λb a=>by subst a;rw[size_alloc];omega)
def Sep.ns(h:Sep E L w)(o:Obj):Sep E (c2 w.heap.size o::L) (w.alloc o):=
 h.new (Grow.alloc w _) (F':=λx=>x=w.heap.size) ⟨heap_alloc w _,λ_=>lS⟩ (λb a=>by subst a;rw[size_alloc];omega)
def Sep.eP{b:Nat}{c:List Value}(h:Sep E (bE b c::L) w){o:Nat}(ho:o<c.length):Vc.eP w ⟨b,o,none⟩:=by
 refine⟨⟨c[o],?_⟩,?_⟩;·rw[h.cell o];simp[ho]
 ·obtain⟨t,z,d,a⟩:=h.block;simpa[World.frozen?,d]using a o ho
def Sep.setCell{b:Nat}{c:List Value}(h:Sep E (bE b c::L) w)(o:Nat)(v:Value):Sep E (bE b (c.set o v)::L) (w.setCell ⟨b,o,none⟩ v):=by
 obtain⟨t,z,f,g⟩:=h.block;refine h.change rfl (by simp[World.setCell]) (λF a d=>⟨λx _ hx=>?_,F,⟨?_,a.2⟩,λx hx=>⟨?_,.inl hx⟩⟩)
 ·have:b≠x:=λe=>hx ((a.2 x).2 e.symm);simp[World.setCell,GN,this]
 ·exact⟨t,z,by simp[World.setCell,GN,f],by simpa using g⟩
 ·simpa[World.setCell]using d x hx
def St.i{b:Nat}{c:List Value}{v:Value}{f:bh6}(h:Sep E (bE b c::L) w){o:Nat}(ho:o<c.length)(k:∀a,Sep E (bE b (c.set o v)::L) a->f a):St ⟨b,o,none⟩ v f w:=⟨h.eP ho,k _ (h.setCell o v)⟩
def Al.i{c:Array Value}{t:TypeId}{f:Addr->bh6}(h:Sep E L w)(k:∀b a,Sep E (bE b c.toList::L) a->f ⟨b,0,none⟩ a):Al (.cells c t) f w:=k _ _ (h.alloc c t)
def mE.i{f:Nat->bh6}(h:Sep E L w)(k:∀b a,Sep E (vj b #[] 0::L) a->f b a):mE f w:=k _ _ (h.ry _ _)
def Dr.i{f:bh6}(h:Sep E L w)(k:∀a,Sep E L a->f a):Dr f w:=k _ h.drew
def BC.i{f:bh6}(h:Sep E L w)(k:∀a,Sep E L a->f a):BC f w:=λ_ g=>k _ (h.grow g)
def cA:ch->Asn
 |[]=>emp
 |A::a=>star A (cA a)
def Sep.cA:∀ {a:ch} {L:ch},Sep E (cA a::L) w↔Sep E (a++L) w
 |[],_=>Sep.emp
 |A::a,L=>by
  refine Sep.star.trans ⟨λh=>?_,λh=>?_⟩
  ·have h1:=Sep.cA.1 h.swap;exact⟨h1.env,dm.front h1.heap⟩
  ·refine Sep.swap (Sep.cA.2 (h.perm ?_));exact(il).symm
end
end Go.Sp
