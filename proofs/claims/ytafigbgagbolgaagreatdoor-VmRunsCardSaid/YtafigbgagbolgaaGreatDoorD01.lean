/- A part of the proof. -/
import Derived.Test.YtafigbgagbolgaaGreatDoorD00
import Derived.Deep.LoopGhost
import Derived.Deep.Quiet
import Derived.Eval
set_option linter.all false
open Go.IntKind(i64 u64)
namespace Go.Vc
open Go
section
variable{P:cS}{τ:bZ->K1}{ρ:bZ->Kd}{cD:bj6->Bool}{A:dU}
def ov(ops:cf Oper)(i j:Nat):Bool:=(m1 ops ops.size j).testBit i
def ew(σ:bA Nat)(i:Nat):Nat:=σ.idxOf i
def xW(o:Oper)(t:Nat):Bool:=match o.dst with|some d=>Nat.beq d t|none=>false
def Ib(ops:cf Oper)(σ:bA Nat)(i j:Nat):Bool:=
 (ov ops j i&&Nat.blt (ew σ j) (ew σ i))||(ov ops i j&&Nat.blt (ew σ i) (ew σ j))
def Vb(ops:cf Oper)(σ:bA Nat):Bool:=
 (List.range ops.size).all λi=>match ops[i]? with
  |none=>false
  |some o=>(o.looksAt ops).all λt=>(List.range ops.size).all λj=>match ops[j]? with
   |none=>false
   |some oj=> !xW oj t||Ib ops σ i j
def Vd(ops:cf Oper)(C:bA (bA Nat))(σ cv:bA Nat):Bool:=
 cv.all λe=>(List.range ops.size).all λi=> !Nat.blt (ew σ e) (ew σ i)||ov ops e i||(List.range ops.size).any (λj=>ov ops j i&&Nat.ble (ew σ e) (ew σ j))||(cv.contains i&&C.any λc=>c.take (ew σ e+1)==σ.take (ew σ e)++[i])
def Ve(ops:cf Oper):Bool:=
 (List.range ops.size).all λi=>(List.range ops.size).all λj=>Nat.beq i j||(match(ops[i]?).bind (·.dst),(ops[j]?).bind (·.dst)with
  |some d,some a=> !Nat.beq d a
  |_,_=>true)
def Vf(ops:cf Oper):Bool:=
 (List.range ops.size).all λi=>match ops[i]? with
  |none=>false
  |some o=>o.after.toList.all λe=> !Region.binds .any e||Nat.blt e.on i
def Vg(ops:cf Oper)(σ cv:bA Nat):Bool:=
 (List.range ops.size).all λi=>match ops[i]? with
  |none=>false
  |some o=>cv.contains i|| !jF o.op||((o.looksAt ops).all λt=>(List.range ops.size).all λj=>match ops[j]? with
   |none=>false
   |some oj=> !xW oj t||(ov ops j i&&Nat.blt (ew σ j) (ew σ i)))
def rH(ops:cf Oper)(C:bA (bA Nat))(σ cv:bA Nat):Bool:=
 Region.noSelect ops&&(List.range ops.size).all (λi=>σ.contains i)&&σ.all (λi=>Nat.blt i ops.size)&&(List.range σ.length).all (λk=>Nat.beq (ew σ (σ.getD k 0)) k)&&
 Vb ops σ&&Vd ops C σ cv&&Ve ops&&Vf ops&&Vg ops σ cv&&ops.toList.all (λo=> !jF o.op||o.dst.isSome)&&Nat.beq σ.length ops.size
def BQ(ops:cf Oper)(C:bA (bA Nat))(cv:bA Nat):Bool:= !C.isEmpty&&C.all λσ=>rH ops C σ cv
def xX{ops:cf Oper}{L:Nat->Bool}(k:∀j o,L j=true->ops[j]?=some o->∀e∈o.after,Region.binds .any e=true->L e.on=true):
  ∀(f j:Nat),(∀o,ops[j]?=some o->∀e∈o.after,Region.binds .any e=true->L e.on=true)->∀i,(m1 ops f j).testBit i=true->L i=true:=by
 intro f;induction f with
 |zero=>intro j _ i h;simp[m1]at h
 |succ f q=>
  intro j p i h;unfold m1 H5 at h;split at h;·simp at h
  ·rename_i o ho;have key:∀(l:bA Edge) (s:Nat),(∀e∈l,e∈o.after)->(s.testBit i=true->L i=true)->
     (l.foldl (λs e=>bif Region.binds .any e then s ||| 2^e.on ||| m1 ops f e.on else s) s).testBit i=true->L i=true:=by
    intro l;induction l with
    |nil=>intro s _ c h;exact c h
    |cons e l n=>
     intro s hl c h;rw[Hs]at h;refine n _ (λe' b=>hl e' (gn _ b)) ?_ h;intro hb;cases a:Region.binds .any e with
     |false=>rw[a,hF]at hb;exact c hb
     |true=>
      rw[a,hU]at hb;simp only[Nat.testBit_or,jS]at hb;have d:L e.on=true:=p o ho e (hl e (fS ..)) a;rcases hb with(hb|hb)|hb;·exact c hb
      ·rw[sE]at hb;simp only[gD]at hb;rw[<- hb];exact d
      ·exact q e.on (λo' m e' b g=>k e.on o' d m e' b g) i hb
   exact key o.after.toList 0 (λe he=>by simpa using he) (by simp) h
def ib(ops:cf Oper)(o:Oper)(a b:Act):Prop:=∀t∈o.looksAt ops,a.tmps[t]?=b.tmps[t]?
def ib.exec{ops:cf Oper}{o:Oper}{a b:Act}(c:∀cs b,o.op≠ .select cs b)(h:ib ops o a b):execOp a.eval o=execOp b.eval o:=by
 refine execOp_congr o c λx hx=>?_;cases x with
 |tmp t=>
  have:t∈o.looksAt ops:=mX _ (xy.2 ⟨.tmp t,by simpa using hx,rfl⟩);have:=h t this;simp[Act.eval,je,this]
 |const v=>rfl
 |global g=>rfl
 |func f=>rfl
def ib.wanted{ops:cf Oper}{o:Oper}{a b:Act}(h:ib ops o a b):Region.wanted o (yielded ops a.tmps)=Region.wanted o (yielded ops b.tmps):=by
 unfold Region.wanted;cases e:o.guard with
 |none=>rfl
 |some g=>
  obtain⟨j,want⟩:=g;dsimp only;have:yielded ops a.tmps j=yielded ops b.tmps j:=by
   unfold yielded;cases c:(ops[j]?).bind (·.dst)with
   |none=>rfl
   |some d=>
    have hm:d∈o.looksAt ops:=by
     unfold Oper.looksAt;rw[e];exact om _ (by simp[c])
    simp only[Hq,h d hm]
  rw[this]
def Vh{o:Oper}{a b:Act}{w:bI}{K g:Act->bi9}{Q Q':Exit->Act->bi9}(he:execOp a.eval o=execOp b.eval o)(h:o.wp P b w K Q)(hk:∀v w',K (b.put o.dst v) w'->g (a.put o.dst v) w')(hp:∀c w',Q (.panic c) b w'->Q' (.panic c) a w')(ho:LetsOut Q->LetsOut Q')(f:∀d w',¬ K ({b with defers:=d::b.defers}.put o.dst undef) w'):o.wp P a w g Q':=by
 unfold Oper.wp at h ⊢;rw[he];generalize (execOp b.eval o).run P w=r at h;cases r with
 |ok n i=>
  cases n<;>first
   |exact hk _ _ h
   |exact h.elim
   |skip
  ·exact Calls.mono h λe w' he=>by
    cases e with
    |returned v=>exact hk _ _ he
    |panicked c=>exact hp _ _ he
    |outgrown=>exact ho he
  ·exact(f _ _ h).elim
  ·exact Rows.mono h λv w' he=>hk _ _ he
 |halt x i=>
  cases x<;>first
   |exact hp _ _ h
   |exact h.elim
structure ly(ops:cf Oper)(σ cv:bA Nat):Prop where
 nI:Region.noSelect ops=true
 all:∀i,i<ops.size->i∈σ
 lt:∀i∈σ,i<ops.size
 pos:∀k i,σ[k]?=some i->ew σ i=k
 reads:∀i o,ops[i]?=some o->∀t∈o.looksAt ops,∀j oj,ops[j]?=some oj->oj.dst=some t->(ov ops j i=true/\ew σ j<ew σ i)\/(ov ops i j=true/\ew σ i<ew σ j)
 dst:∀(i j:Nat) (oi oj:Oper) (d:Nat),ops[i]?=some oi->ops[j]?=some oj->oi.dst=some d->oj.dst=some d->i=j
 u9:∀i o,ops[i]?=some o->∀e∈o.after,Region.binds .any e=true->e.on<i
 rd:∀(i:Nat) (o:Oper),ops[i]?=some o->jF o.op=true->o.dst≠none
 len:σ.length=ops.size
 Vi:∀i o,ops[i]?=some o->i∉cv->jF o.op=true->∀t∈o.looksAt ops,∀j oj,ops[j]?=some oj->oj.dst=some t->ov ops j i=true/\ew σ j<ew σ i
def jr{ops:cf Oper}{i:Nat}{o:Oper}(h:ops[i]?=some o):i<ops.size:=by
 rcases hE i ops.size with h' | h';·exact h'
 ·simp[xp h']at h
def BR(ops:cf Oper)(C:bA (bA Nat))(σ cv:bA Nat):Prop:=∀e∈cv,∀i,i<ops.size->ew σ e<ew σ i->(∃j,j<ops.size/\ov ops j i=true/\ew σ e<=ew σ j)\/i∈cv/\∃c∈C,c.take (ew σ e+1)=σ.take (ew σ e)++[i]
def Vj{ops:cf Oper}{C:bA (bA Nat)}{σ cv:bA Nat}(h:rH ops C σ cv=true):ly ops σ cv/\BR ops C σ cv:=by
 unfold rH at h;simp only[dF]at h;obtain⟨⟨⟨⟨⟨⟨⟨⟨⟨⟨h1,h2⟩,x⟩,y⟩,z⟩,A⟩,B⟩,D⟩,E⟩,r⟩,s⟩:=h;have l:∀i,i<ops.size->i∈σ:=λi c=>by simpa using fM.1 h2 i (gq.2 c)
 have g:∀i∈σ,i<ops.size:=λi c=>by simpa using fM.1 x i c
 have p:∀k i,σ[k]?=some i->ew σ i=k:=by
  intro k i hk;have g:k<σ.length:=by
   rcases hE k σ.length with h|h;·exact h
   ·simp[gI h]at hk
  have:=fM.1 y k (gq.2 g);simpa[List.getD,hk]using this
 have w:∀(i:Nat) (o:Oper),ops[i]?=some o->jF o.op=true->o.dst≠none:=by
  intro i o ho hr hn;have hm:o∈ops.toList:=by rw[pH];exact lp ho
  have:=fM.1 r o hm;simp[hr,hn]at this
 refine⟨⟨h1,l,g,p,?_,?_,?_,w,kz s,?_⟩,?_⟩
 ·intro i o ho t q j oj f n;have a:=fM.1 z i (gq.2 (jr ho));simp only[ho]at a;have b:=fM.1 (fM.1 a t q) j (gq.2 (jr f));simp only[f,xW,n,Ib,jS,dF,ir]at b;rcases b with b|b|b;·simp at b
  ·exact .inl ⟨b.1,by simpa using b.2⟩
  ·exact .inr ⟨b.1,by simpa using b.2⟩
 ·intro i j oi oj d c m u v;have a:=fM.1 (fM.1 B i (gq.2 (jr c))) j (gq.2 (jr m));simp only[c,m,Hq,u,v,jS,ir]at a;rcases a with a|a;·simpa using a
  ·simp at a
 ·intro i o ho e he hb;have a:=fM.1 D i (gq.2 (jr ho));simp only[ho]at a;have b:=fM.1 a e (by simpa using he);simp only[jS,ir,hb]at b;rcases b with b|b;·cases b
  ·simpa using b
 ·intro i o ho c hr t q j oj f n;have a:=fM.1 E i (gq.2 (jr ho));simp only[ho,jS,ir]at a;rcases a with(a|a)|a;·exact absurd (by simpa using a) c
  ·rw[hr]at a;cases a
  ·have b:=fM.1 (fM.1 a t q) j (gq.2 (jr f));simp only[f,xW,n,jS,ir,dF]at b;rcases b with b|b;·simp at b
   ·exact⟨b.1,by simpa using b.2⟩
 ·intro e he i c hp;have a:=fM.1 (fM.1 A e he) i (gq.2 c);simp only[jS,ir,dF,uM,oV,lq]at a;rcases a with((a|a)|⟨j,m,a,b⟩)|⟨a,b⟩
  ·have:Nat.blt (ew σ e) (ew σ i)=true:=by simpa using hp
   rw[this]at a;cases a
  ·exact .inl ⟨e,g e (List.idxOf_lt_length_iff.1 (HG hp (List.idxOf_lt_length_iff.2 (l i c)))),a,ec _⟩
  ·exact .inl ⟨j,gq.1 m,a,Ue b⟩
  ·exact .inr ⟨a,b⟩
structure mE(ops:cf Oper)(N:Nat)(a0:Act)(M:Nat->Prop)(val:Nat->bH)(a:Act):Prop where
 defers:a.defers= []
 size:a.tmps.size=N
 put:∀j o t,ops[j]?=some o->o.dst=some t->M j->a.tmps[t]?=some (val j)
 ek:∀t,(∀j o,ops[j]?=some o->o.dst=some t->¬ M j)->a.tmps[t]?=a0.tmps[t]?
def mE.add{ops:cf Oper}{σ cv:bA Nat}(r:ly ops σ cv){N:Nat}(p:hi P N ops.toList=true){a0 a:Act}{M:Nat->Prop}{val:Nat->bH}(h:mE ops N a0 M val a){i:Nat}{o:Oper}(ho:ops[i]?=some o)(s:¬ M i)(v:bH):
  mE ops N a0 (λj=>M j\/j=i) (λj=>if j=i then v else val j) (a.put o.dst v):=by
 have l:o∈ops.toList:=by rw[pH];exact lp ho
 have k:=mD p l;refine⟨?_,?_,?_,?_⟩;·cases o.dst<;>exact h.defers
 ·cases o.dst<;>simp[Act.put,h.size]
 ·intro j oj t b c g;by_cases e:j=i
  ·subst e;rw[ho]at b;injection b with b;subst b
   rw[bK rfl];have n:t<a.tmps.size:=by rw[h.size];exact k t c
   simp[Act.put,c,n]
  ·rw[bJ e];have m:M j:=g.resolve_right e;rw[<- h.put j oj t b c m];cases f:o.dst with
   |none=>rfl
   |some d=>
    have:d≠t:=λe'=>e (r.dst j i oj o t b ho c (by rw[f,e']));simp[Act.put,this]
 ·intro t q;rw[<- h.ek t (λj oj b c g=>q j oj b c (.inl g))];cases f:o.dst with
  |none=>rfl
  |some d=>
   have:d≠t:=λe'=>q i o ho (by rw[f,e']) (.inr rfl);simp[Act.put,this]
def lz(P:cS)(ops:cf Oper)(σ:bA Nat)(a0:Act)(val:Nat->bH)(w:bI)(i:Nat):Prop:=
 ∀o,ops[i]?=some o->∀b:Act,(∀t∈o.looksAt ops,(∀j oj,ops[j]?=some oj->oj.dst=some t->ew σ j<ew σ i->b.tmps[t]?=some (val j))/\
   ((∀j oj,ops[j]?=some oj->oj.dst=some t->¬ ew σ j<ew σ i)->b.tmps[t]?=a0.tmps[t]?))->
  (Region.wanted o (yielded ops b.tmps)=true/\∀w',(jF o.op=true->w'=w)->(execOp b.eval o).run P w'=.ok (.value (val i)) w')\/
  (Region.wanted o (yielded ops b.tmps)=false/\val i=undef)
def Ic{σ p rest:bA Nat}{i:Nat}(h:σ=p++i::rest):σ[p.length]?=some i:=by
 subst h;simp
def ly.lt_iff{ops:cf Oper}{σ cv:bA Nat}(c:ly ops σ cv){p rest:bA Nat}{i:Nat}(h:σ=p++i::rest)(j:Nat)(g:j<ops.size):ew σ j<ew σ i↔j∈p:=by
 have f:ew σ i=p.length:=c.pos _ _ (Ic h);rw[f];constructor
 ·intro d;obtain⟨k,hk,b⟩:=Hd (c.all j g);have a:σ[k]?=some j:=by rw[ea hk,b]
  rw[c.pos k j a]at d;subst h;rw[eQ d]at a;exact eG a
 ·intro e;obtain⟨k,hk,b⟩:=Hd e;have a:σ[k]?=some j:=by subst h;rw[eQ hk,ea hk,b]
  rw[c.pos k j a];exact hk
def Ie{ops:cf Oper}{σ cv:bA Nat}(f:ly ops σ cv){N:Nat}{a0 aT b:Act}{p rest:bA Nat}{val:Nat->bH}{i:Nat}{o:Oper}(k:ops[i]?=some o)(g:σ=p++i::rest)(e:mE ops N a0 (· ∈p) val aT)(hb:∀t∈o.looksAt ops,(∀j oj,ops[j]?=some oj->oj.dst=some t->ew σ j<ew σ i->b.tmps[t]?=some (val j))/\
   ((∀j oj,ops[j]?=some oj->oj.dst=some t->¬ ew σ j<ew σ i)->b.tmps[t]?=a0.tmps[t]?)):ib ops o b aT:=by
 intro t h;obtain⟨h1,h2⟩:=hb t h;by_cases hw:∃j oj,ops[j]?=some oj/\oj.dst=some t/\ew σ j<ew σ i
 ·obtain⟨j,oj,a,d,c⟩:=hw;rw[h1 j oj a d c,e.put j oj t a d ((f.lt_iff g j (jr a)).1 c)]
 ·rw[h2 (λj oj a d c=>hw ⟨j,oj,a,d,c⟩),e.ek t (λj oj a d hm=>hw ⟨j,oj,a,d,(f.lt_iff g j (jr a)).2 hm⟩)]
structure ic(P:cS)(ops:cf Oper)(σ cv:bA Nat)(N:Nat)(a0:Act)(p:bA Nat)(L:Nat->Bool)(val:Nat->bH)(a aT:Act)(T:Tr)(w:bI)(done:bA Nat):Prop where
 sub:∀j,L j=true->j∈p
 nJ:∀e∈cv,e∈p->L e=true
 closed:∀j o,L j=true->ops[j]?=some o->∀e∈o.after,Region.binds .any e=true->L e.on=true
 at_:mE ops N a0 (λj=>L j=true) val a
 all:mE ops N a0 (· ∈p) val aT
 rel:Rel N T aT
 iP:∀i∈p,L i=false->lz P ops σ a0 val w i
 kH:∀i∈p,i∉cv->(∀o,ops[i]?=some o->jF o.op=true->i∈done\/∀w',lz P ops σ a0 val w' i)
def lz.ext{ops:cf Oper}{σ cv:bA Nat}(f:ly ops σ cv){a0:Act}{val a:Nat->bH}{w:bI}{p rest:bA Nat}{k:Nat}(m:σ=p++k::rest){i:Nat}(c:i∈p)(l:∀j∈p,a j=val j)(h:lz P ops σ a0 val w i):lz P ops σ a0 a w i:=by
 intro o ho b hb;have e:ew σ i<ew σ k:=(f.lt_iff m i (jr ho)).2 c;have:=h o ho b (λt g=>⟨λj oj d n hp=>by
  rw[<- l j ((f.lt_iff m j (jr d)).1 (HG hp e))];exact(hb t g).1 j oj d n hp,(hb t g).2⟩)
 rw[l i c];exact this
def Ig{ops:cf Oper}{σ cv:bA Nat}(h:ly ops σ cv){N:Nat}{a0 aT:Act}{p rest:bA Nat}{val:Nat->bH}{w:bI}{i:Nat}{o:Oper}(ho:ops[i]?=some o)(q:σ=p++i::rest)(d:mE ops N a0 (· ∈p) val aT){v:bH}(n:(Region.wanted o (yielded ops aT.tmps)=true/\∀w',(jF o.op=true->w'=w)->(execOp aT.eval o).run P w'=.ok (.value v) w')\/(Region.wanted o (yielded ops aT.tmps)=false/\v=undef)):
  lz P ops σ a0 (λj=>if j=i then v else val j) w i:=by
 intro o' a b hb;rw[ho]at a;injection a with a;subst a
 have c:ib ops o b aT:=Ie h ho q d (λt k=>⟨λj oj m l hp=>by
  have h1:=(hb t k).1 j oj m l hp;have f:j≠i:=λe=>uQ _ (e▸hp);simpa only[bJ f]using h1,(hb t k).2⟩)
 have g:∀cs b,o.op≠ .select cs b:=λcs b=>Region.noSelect_spec h.nI i o cs b ho;rw[c.wanted,c.exec g];simpa only[g4]using n
def ic.read{ops:cf Oper}{σ cv:bA Nat}(f:ly ops σ cv){N:Nat}(F:N<=8000)(r:hi P N ops.toList=true){a0:Act}{p rest:bA Nat}{L:Nat->Bool}{val:Nat->bH}{a aT:Act}{T:Tr}{w:bI}{done:bA Nat}{i:Nat}{o:Oper}(ho:ops[i]?=some o)(q:σ=p++i::rest)(B:i∉cv)(h:ic P ops σ cv N a0 p L val a aT T w done){v:bH}{T':Tr}(y:∀t,T'.get t=T.get t)(H:(Region.wanted o (yielded ops aT.tmps)=true/\∀w',(jF o.op=true->w'=w)->(execOp aT.eval o).run P w'=.ok (.value v) w')\/(Region.wanted o (yielded ops aT.tmps)=false/\v=undef)){done':bA Nat}(z:∀j∈done,j∈done')(A:jF o.op=true->i∈done'\/(Region.wanted o (yielded ops aT.tmps)=false/\v=undef)):
  ic P ops σ cv N a0 (p++[i]) L (λj=>if j=i then v else val j) a (aT.put o.dst v) (T'.put o.dst v) w done':=by
 have m:i∉p:=λhm=>by
  have:=(f.lt_iff q i (jr ho)).2 hm;exact uQ _ this
 have s:o∈ops.toList:=by rw[pH];exact lp ho
 have E:L i=false:=by
  cases u:L i with
  |false=>rfl
  |true=>exact(m (h.sub i u)).elim
 have n:∀j∈p,(if j=i then v else val j)=val j:=λj c=>by
  have:j≠i:=λe=>m (e▸c);rw[bJ this]
 refine⟨λj c=>mX _ (h.sub j c),?_,h.closed,?_,?_,(h.rel.same y).put F (mD r s) v,?_,?_⟩
 ·intro e he b;rcases gb.1 b with b|b;·exact h.nJ e he b
  ·simp only[h9]at b;subst b;exact(B he).elim
 ·refine⟨h.at_.defers,h.at_.size,λj oj t c l g=>?_,h.at_.ek⟩;have C:j≠i:=λe=>by subst e;rw[E]at g;cases g
  rw[bJ C];exact h.at_.put j oj t c l g
 ·have:=mE.add f r h.all ho m v;refine⟨this.defers,this.size,λj oj t c l hm=>this.put j oj t c l ?_,λt G=>this.ek t (λj oj c l hm=>G j oj c l ?_)⟩
  ·rcases gb.1 hm with hm|hm;·exact .inl hm
   ·exact .inr (by simpa using hm)
  ·rcases hm with hm|hm;·exact mX _ hm
   ·exact om _ (by simp[hm])
 ·intro k hk x;rcases gb.1 hk with hk|hk;·exact lz.ext f q hk n (h.iP k hk x)
  ·simp only[h9]at hk;subst hk;exact Ig f ho q h.all H
 ·intro k hk D o' d hr;rcases gb.1 hk with hk|hk
  ·rcases h.kH k hk D o' d hr with h1|h1;·exact .inl (z _ h1)
   ·exact .inr (λw'=>lz.ext f q hk n (h1 w'))
  ·simp only[h9]at hk;subst hk;rw[ho]at d;injection d with d;subst d
   rcases A hr with h1|h1;·exact .inl h1
   ·exact .inr (λw'=>Ig f ho q h.all (.inr h1))
def xY{i:Nat}{r:bA Nat}:∀ {C:bA (bA Nat)},r∈kG i C↔i::r∈C
 |[]=>by simp[kG]
 |[]::C=>by rw[kG,xY (C:=C)];simp
 |(a::x)::C=>by
  rw[kG];cases h:Nat.beq a i with
  |true=>rw[hU,eH,xY (C:=C),eH,kz h];simp
  |false=>
   have b:i≠a:=λe=>by rw[e,Nat.beq_refl]at h;cases h
   rw[hF,xY (C:=C),eH];simp[b]
def xZ{i:Nat}{r:bA Nat}:∀ {C:bA (bA Nat)} {s:bA Nat},i::r∈C->i∈s\/i∈sP C s
 |[],_,h=>by cases h
 |[]::C,s,h=>by
  rcases eH.1 h with h|h;·cases h
  ·exact xZ (C:=C) h
 |(a::x)::C,s,h=>by
  rw[sP];cases b:s.contains a with
  |true=>
   rw[hU];rcases eH.1 h with h|h;·cases h;exact .inl (by simpa using b)
   ·exact xZ h
  |false=>
   rw[hF];rcases eH.1 h with h|h;·cases h;exact .inr (fS ..)
   ·rcases xZ (s:=a::s) h with h|h
    ·rcases eH.1 h with h|h;·subst h;exact .inr (fS ..)
     ·exact .inl h
    ·exact .inr (gn _ h)
def Ih{f:Nat->Prop}{i:Nat}:∀ {l:bA Nat},rG f l->i∈l->f i
 |[],_,h=>by cases h
 |[a],h,c=>by rw[h9.1 c];exact h
 |a::b::l,h,c=>by
  rcases eH.1 c with e|c;·rw[e];exact h.1
  ·exact Ih (l:=b::l) h.2 c
def Ii{ops:cf Oper}{cv:bA Nat}{Q:Exit->Tr->bi9}{n i:Nat}{o:Oper}{r:bA Nat}{C:bA (bA Nat)}{done:bA Nat}{T:Tr}{w:bI}(h:gK P τ ρ cD A ops cv Q (n+1) C done T w)(a:i::r∈C)(ho:ops[i]?=some o):
  bif cv.contains i
    then kF ops o T (λT=>nD P τ ρ cD A o T w (λT' w'=>rE P τ ρ ops T' w' (gK P τ ρ cD A ops cv Q n (kG i C) done T' w') (done.filter λj=> !(m1 ops ops.size i).testBit j)) (rF Q))
     (λT=>gK P τ ρ cD A ops cv Q n (kG i C) done (T.put o.dst undef) w)
    else kF ops o T (λT=>vQ P τ ρ o T.ev w λv=>gK P τ ρ cD A ops cv Q n (kG i C) (bif jF o.op then i::done else done) (T.put o.dst v) w)
     (λT=>gK P τ ρ cD A ops cv Q n (kG i C) done (T.put o.dst undef) w):=by
 unfold gK at h;have:=Ih h ((xZ (s:=[]) a).resolve_left (by simp));simp only[ho]at this;exact this
def mF(a:bA (bA Nat))(p:bA Nat)(C:bA (bA Nat)):Prop:=∀r,p++r∈a↔r∈C
def mF.step{a C:bA (bA Nat)}{p:bA Nat}(h:mF a p C)(i:Nat):mF a (p++[i]) (kG i C):=λr=>by
 rw[xY,<- h,dp];rfl
def ic.reads{ops:cf Oper}{q:bA (bA Nat)}{σ cv:bA Nat}(m:ly ops σ cv)(n:σ∈q){N:Nat}(l:N<=8000)(b:hi P N ops.toList=true){a0:Act}{L:Nat->Bool}{a:Act}{Q:Exit->Tr->bi9}{w:bI}{B:Prop}:
  ∀(rest p:bA Nat) (C:bA (bA Nat)) (val:Nat->bH) (aT:Act) (T:Tr) (done:bA Nat),σ=p++rest->mF q p C->ic P ops σ cv N a0 p L val a aT T w done->gK P τ ρ cD A ops cv Q rest.length C done T w->
   (∀(d p':bA Nat) (u:bA (bA Nat)) (t:Nat->bH) (x:Act) (T':Tr) (done':bA Nat),σ=p'++d->mF q p' u->(∀i∈d.head?,i∈cv)->ic P ops σ cv N a0 p' L t a x T' w done'->gK P τ ρ cD A ops cv Q d.length u done' T' w->B)->B
 |[],p,C,val,aT,T,done,c,k,h,e,hB=>hB [] p C val aT T done c k (by simp) h e
 |i::rest,p,C,val,aT,T,done,c,k,h,e,hB=>by
  by_cases g:i∈cv;·exact hB (i::rest) p C val aT T done c k (by simpa using g) h e
  ·have F:i<ops.size:=m.lt i (by rw[c];simp);have ho:ops[i]?=some ops[i]:=oQ F;generalize ops[i]=o at ho;have s:o∈ops.toList:=by rw[pH];exact lp ho
   have e:=Ii e ((k _).1 (c▸n)) ho;have E:cv.contains i=false:=by simpa using g
   rw[E,hF]at e;refine pV (B:=B) l b h.rel e ?_ ?_
   ·intro D f z hw;rw[<- (h.rel.same f).ev]at z;obtain⟨v,h1,h2⟩:=u0 (o1 b s) z;have:=h.read m l b ho c g f (v:=v) (.inl ⟨hw,λw' y=>h1 w' (λhr=>by rw[y hr];exact .refl w)⟩)
     (done':=bif jF o.op then i::done else done) (λj r=>by cases jF o.op<;>simp[r]) (λhr=>.inl (by rw[hr];simp))
    exact ic.reads m n l b rest (p++[i]) _ _ _ _ _ (by rw[c];simp) (k.step i) this h2 hB
   ·intro D f hn hw;have:=h.read m l b ho c g f (v:=undef) (.inr ⟨hw,rfl⟩) (done':=done) (λj r=>r) (λ_=>.inr ⟨hw,rfl⟩);exact ic.reads m n l b rest (p++[i]) _ _ _ _ _ (by rw[c];simp) (k.step i) this hn hB
def lz.o2{ops:cf Oper}{p r r':bA Nat}{a0:Act}{val:Nat->bH}{w:bI}{i:Nat}(d:i∈p)(h:lz P ops (p++r) a0 val w i):lz P ops (p++r') a0 val w i:=by
 have a:∀j:Nat,ew (p++r) j<ew (p++r) i↔ew (p++r') j<ew (p++r') i:=by
  intro j;unfold ew;have:=List.idxOf_lt_length_of_mem d;rw[Hl,Hl,Hl,Hl,bK d,bK d];split;·exact mz
  ·omega
 intro o ho b hb;exact h o ho b λt f=>⟨λj oj e c hp=>(hb t f).1 j oj e c ((a j).1 hp),λhn=>(hb t f).2 λj oj e c hp=>hn j oj e c ((a j).2 hp)⟩
def ic.o2{ops:cf Oper}{p r r' cv:bA Nat}{N:Nat}{a0:Act}{L:Nat->Bool}{val:Nat->bH}{a aT:Act}{T:Tr}{w:bI}{done:bA Nat}(h:ic P ops (p++r) cv N a0 p L val a aT T w done):ic P ops (p++r') cv N a0 p L val a aT T w done:=
 ⟨h.sub,h.nJ,h.closed,h.at_,h.all,h.rel,λi b hl=>(h.iP i b hl).o2 b,λi b he o ho hr=>(h.kH i b he o ho hr).imp id λh w'=>(h w').o2 b⟩
def ic.looks{ops:cf Oper}{σ cv:bA Nat}(l:ly ops σ cv){N:Nat}{a0:Act}{p:bA Nat}{L:Nat->Bool}{val:Nat->bH}{a aT:Act}{T:Tr}{w:bI}{done:bA Nat}(h:ic P ops σ cv N a0 p L val a aT T w done){i:Nat}{o:Oper}(ho:ops[i]?=some o)(q:L i=false)(g:∀e∈o.after,Region.binds .any e=true->L e.on=true):
  ∀t∈o.looksAt ops,(∀j oj,ops[j]?=some oj->oj.dst=some t->ew σ j<ew σ i->a.tmps[t]?=some (val j))/\
   ((∀j oj,ops[j]?=some oj->oj.dst=some t->¬ ew σ j<ew σ i)->a.tmps[t]?=a0.tmps[t]?):=by
 intro t m;have f:∀j,ov ops j i=true->L j=true:=λj c=>
  xX (L:=L) h.closed ops.size i (λo' b=>by rw[ho]at b;injection b with b;subst b;exact g) j c
 constructor
 ·intro j oj c d hp;rcases l.reads i o ho t m j oj c d with⟨h1,_⟩|⟨_,h2⟩
  ·exact h.at_.put j oj t c d (f j h1)
  ·exact absurd hp (Nat.lt_asymm h2)
 ·intro k;refine h.at_.ek t (λj oj c d n=>?_);rcases l.reads i o ho t m j oj c d with⟨_,h2⟩|⟨h1,_⟩
  ·exact k j oj c d h2
  ·have:=xX (L:=L) h.closed ops.size j (λo' b e he hb=>h.closed j o' n b e he hb) i h1;rw[q]at this;cases this
def BS{ops:cf Oper}{N:Nat}(n:N<=8000)(f:hi P N ops.toList=true){T:Tr}{aT:Act}{w:bI}{next:Prop}(hr:Rel N T aT):∀(l:bA Nat),rE P τ ρ ops T w next l->
  next/\∀j∈l,∀o,ops[j]?=some o->(Region.wanted o (yielded ops aT.tmps)=true/\∃v,(∀w',(jF o.op=true->Grow w w')->(execOp aT.eval o).run P w'=.ok (.value v) w')/\∀d,o.dst=some d->v=T.get d)\/Region.wanted o (yielded ops aT.tmps)=false
 |[],h=>⟨h,λ_ h=>by cases h⟩
 |j::l,h=>by
  unfold rE at h;split at h;·exact h.elim
  ·rename_i o ho;have p:o∈ops.toList:=by rw[pH];exact lp ho
   refine pV (B:=next/\∀k∈j::l,∀o,ops[k]?=some o->(Region.wanted o (yielded ops aT.tmps)=true/\∃v,(∀w',(jF o.op=true->Grow w w')->(execOp aT.eval o).run P w'=.ok (.value v) w')/\∀d,o.dst=some d->v=T.get d)\/Region.wanted o (yielded ops aT.tmps)=false) n f hr h ?_ ?_
   ·intro t b s hw;rw[<- (hr.same b).ev]at s;obtain⟨v,h1,h2,u⟩:=u0 (o1 f p) s;obtain⟨hn,c⟩:=BS n f (hr.same b) l u;refine⟨hn,λk hk o' a=>?_⟩;rcases eH.1 hk with hk|hk
    ·subst hk;rw[ho]at a;injection a with a;subst a
     refine .inl ⟨hw,v,h1,λd g=>?_⟩;rw[g]at h2;exact h2.trans (b d)
    ·rcases c k hk o' a with⟨e,q,i,m⟩|e;·exact .inl ⟨e,q,i,λd g=>(m d g).trans (b d)⟩
     ·exact .inr e
   ·intro t b hn hw;obtain⟨r,c⟩:=BS n f (hr.same b) l hn;refine⟨r,λk hk o' a=>?_⟩;rcases eH.1 hk with hk|hk
    ·subst hk;rw[ho]at a;injection a with a;subst a
     exact .inr hw
    ·rcases c k hk o' a with⟨e,q,i,m⟩|e;·exact .inl ⟨e,q,i,λd g=>(m d g).trans (b d)⟩
     ·exact .inr e
def ic.effect{ops:cf Oper}{σ cv:bA Nat}(n:ly ops σ cv){N:Nat}(al:N<=8000)(K:hi P N ops.toList=true){a0:Act}{p rest:bA Nat}{L:Nat->Bool}{val:Nat->bH}{a aT:Act}{T I:Tr}{w w':bI}{done:bA Nat}{i:Nat}{o:Oper}(ho:ops[i]?=some o)(H:σ=p++i::rest)(ab:i∈cv)(h:ic P ops σ cv N a0 p L val a aT T w done)(Z:∀t,I.get t=T.get t)(M:∀e∈o.after,Region.binds .any e=true->L e.on=true)(v:bH)(O:(w'=w)\/∀j∈done.filter (λj=> !(m1 ops ops.size i).testBit j),∀oj,ops[j]?=some oj->
   (Region.wanted oj (yielded ops (aT.put o.dst v).tmps)=true/\∃u,(∀w2,(jF oj.op=true->Grow w' w2)->(execOp (aT.put o.dst v).eval oj).run P w2=.ok (.value u) w2)/\∀d,oj.dst=some d->u=(I.put o.dst v).get d)\/Region.wanted oj (yielded ops (aT.put o.dst v).tmps)=false)(S:∀(j:Nat) (oj:Oper),ops[j]?=some oj->jF oj.op=true->oj.dst≠none):
  ic P ops σ cv N a0 (p++[i]) (λj=>L j||Nat.beq j i) (λj=>if j=i then v else val j) (a.put o.dst v) (aT.put o.dst v) (I.put o.dst v) w' done:=by
 have J:i∉p:=λhm=>uQ _ ((n.lt_iff H i (jr ho)).2 hm);have U:o∈ops.toList:=by rw[pH];exact lp ho
 have ak:L i=false:=by
  cases Y:L i with
  |false=>rfl
  |true=>exact(J (h.sub i Y)).elim
 have A:∀j∈p,(if j=i then v else val j)=val j:=λj c=>by
  have:j≠i:=λe=>J (e▸c);rw[bJ this]
 have l:mE ops N a0 (· ∈p++[i]) (λj=>if j=i then v else val j) (aT.put o.dst v):=by
  have:=mE.add n K h.all ho J v;refine⟨this.defers,this.size,λj oj t c g hm=>this.put j oj t c g ?_,λt q=>this.ek t (λj oj c g hm=>q j oj c g ?_)⟩
  ·rcases gb.1 hm with hm|hm;·exact .inl hm
   ·exact .inr (by simpa using hm)
  ·rcases hm with hm|hm;·exact mX _ hm
   ·exact om _ (by simp[hm])
 have G:Rel N (I.put o.dst v) (aT.put o.dst v):=(h.rel.same Z).put al (mD K U) v;refine⟨?_,?_,?_,?_,l,G,?_,?_⟩
 ·intro j c;simp only[jS]at c;rcases c with c|c;·exact mX _ (h.sub j c)
  ·exact om _ (by simpa using c)
 ·intro e he s;rcases gb.1 s with s|s;·simp[h.nJ e he s]
  ·simp only[h9]at s;subst s;simp
 ·intro j oj c z e he hb;simp only[jS]at c ⊢;rcases c with c|c;·exact .inl (h.closed j oj c z e he hb)
  ·have:j=i:=by simpa using c
   subst this;rw[ho]at z;injection z with z;subst z
   exact .inl (M e he hb)
 ·have:=mE.add n K h.at_ ho (by rw[ak];simp) v;refine⟨this.defers,this.size,λj oj t c g hm=>this.put j oj t c g ?_,λt q=>this.ek t (λj oj c g hm=>q j oj c g ?_)⟩
  ·simp only[jS]at hm;rcases hm with hm|hm;·exact .inl hm
   ·exact .inr (by simpa using hm)
  ·simp only[jS];rcases hm with hm|hm;·exact .inl hm
   ·exact .inr (by simp[hm])
 ·intro k hk r;simp only[Ha]at r;have ad:k≠i:=λe=>by subst e;rw[kl]at r;simp at r
  have m:k∈p:=by
   rcases gb.1 hk with hk|hk;·exact hk
   ·exact(ad (by simpa using hk)).elim
  have hold:=lz.ext n H m A (h.iP k m r.1);rcases O with rfl|O;·exact hold
  ·intro ok f b hb;have am:=f;have y:k∉cv:=λhe=>by have:=h.nJ k he m;rw[r.1]at this;cases this
   cases F:jF ok.op with
   |false=>
    rcases hold ok f b hb with⟨h1,h2⟩|h1;·exact .inl ⟨h1,λw2 _=>h2 w2 (λe=>by rw[F]at e;cases e)⟩
    ·exact .inr h1
   |true=>
    have W:=n.Vi k ok f y F;have V:ew σ k<ew σ i:=(n.lt_iff H k (jr f)).2 m;have B:∀t∈ok.looksAt ops,(∀j oj,ops[j]?=some oj->oj.dst=some t->ew σ j<ew σ k->(aT.put o.dst v).tmps[t]?=some ((λj=>if j=i then v else val j) j))/\
      ((∀j oj,ops[j]?=some oj->oj.dst=some t->¬ ew σ j<ew σ k)->(aT.put o.dst v).tmps[t]?=a0.tmps[t]?):=by
     intro t q;refine⟨λj oj c g hp=>l.put j oj t c g (mX _ ((n.lt_iff H j (jr c)).1 (HG hp V))),λD=>l.ek t (λj oj c g _=>D j oj c g (W t q j oj c g).2)⟩
    have R:ib ops ok b (aT.put o.dst v):=by
     intro t q;by_cases hw:∃j oj,ops[j]?=some oj/\oj.dst=some t/\ew σ j<ew σ k
     ·obtain⟨j,oj,c,g,C⟩:=hw;rw[(hb t q).1 j oj c g C,(B t q).1 j oj c g C]
     ·have D:∀j oj,ops[j]?=some oj->oj.dst=some t->¬ ew σ j<ew σ k:=λj oj c g C=>hw ⟨j,oj,c,g,C⟩;rw[(hb t q).2 D,(B t q).2 D]
    have af:∀cs b,ok.op≠ .select cs b:=λcs b=>Region.noSelect_spec n.nI k ok cs b f;rw[R.wanted,R.exec af];rcases hold ok f (aT.put o.dst v) B with⟨h1,_⟩|h1
    ·have x:k∈done\/∀w2,lz P ops σ a0 val w2 k:=h.kH k m y ok f F;rcases x with x|x
     ·have ae:(m1 ops ops.size i).testBit k=false:=by
       cases aa:(m1 ops ops.size i).testBit k with
       |false=>rfl
       |true=>
        have:=xX (L:=L) h.closed ops.size i (λo' E=>by rw[ho]at E;injection E with E;subst E;exact M) k aa;rw[r.1]at this;cases this
      rcases O k (gp.2 ⟨x,by rw[ae];rfl⟩) ok f with⟨_,u,h2,aj⟩|h2
      ·refine .inl ⟨h1,λw2 Q=>?_⟩;cases g:ok.dst with
       |none=>exact(S k ok f F g).elim
       |some d=>
        have ag:=aj d g;have ah:(I.put o.dst v).get d=(if k=i then v else val k):=by
         have ai:=l.put k ok d f g (mX _ m);have X:=G.get d;simp only[je,ai,mY]at X;exact X.symm
        rw[h2 w2 (λ_=>by rw[Q rfl];exact .refl _),ag,ah]
      ·rw[h1]at h2;cases h2
     ·rcases lz.ext n H m A (x w') ok f (aT.put o.dst v) B with h2|h2;·exact .inl ⟨h2.1,λw2 Q=>h2.2 w2 (λ_=>Q rfl)⟩
      ·exact .inr h2
    ·exact .inr h1
 ·intro k hk y ok f hr;rcases gb.1 hk with hk|hk
  ·rcases h.kH k hk y ok f hr with h1|h1;·exact .inl h1
   ·exact .inr (λw2=>lz.ext n H hk A (h1 w2))
  ·simp only[h9]at hk;subst hk;exact(y ab).elim
def ic.mG{ops:cf Oper}{σ cv:bA Nat}(r:ly ops σ cv){N:Nat}(n:hi P N ops.toList=true){a0:Act}{p:bA Nat}{L:Nat->Bool}{val:Nat->bH}{a aT:Act}{T:Tr}{w:bI}{done:bA Nat}{i:Nat}{o:Oper}(ho:ops[i]?=some o)(m:i∈p)(q:L i=false)(h:ic P ops σ cv N a0 p L val a aT T w done)(g:∀e∈o.after,Region.binds .any e=true->L e.on=true):
  ic P ops σ cv N a0 p (λj=>L j||Nat.beq j i) val (a.put o.dst (val i)) aT T w done:=by
 refine⟨?_,?_,?_,?_,h.all,h.rel,?_,h.kH⟩
 ·intro j b;simp only[jS]at b;rcases b with b|b;·exact h.sub j b
  ·have:j=i:=by simpa using b
   subst this;exact m
 ·intro e he l;simp[h.nJ e he l]
 ·intro j oj b c e he hb;simp only[jS]at b ⊢;rcases b with b|b;·exact .inl (h.closed j oj b c e he hb)
  ·have:j=i:=by simpa using b
   subst this;rw[ho]at c;injection c with c;subst c
   exact .inl (g e he hb)
 ·have:=mE.add r n h.at_ ho (by rw[q];simp) (val i);refine⟨this.defers,this.size,λj oj t b f hm=>?_,λt s=>this.ek t (λj oj b f hm=>s j oj b f ?_)⟩
  ·have h1:=this.put j oj t b f (by
    simp only[jS]at hm;rcases hm with hm|hm;·exact .inl hm
    ·exact .inr (by simpa using hm))
   by_cases e:j=i;·subst e;simpa using h1
   ·simpa only[bJ e]using h1
  ·simp only[jS];rcases hm with hm|hm;·exact .inl hm
   ·exact .inr (by simp[hm])
 ·intro k hk d;simp only[Ha]at d;exact h.iP k hk d.1
def sR(n:Nat)(listed:cf Bool):Nat:=(List.range n).countP λi=> !listed.getD i true
def va{p q:Nat->Bool}:∀(l:bA Nat),(∀x∈l,q x=true->p x=true)->(∃x∈l,p x=true/\q x=false)->l.countP q<l.countP p
 |[],_,⟨_,h,_⟩=>by cases h
 |x::l,c,⟨y,d,a,b⟩=>by
  have hle:l.countP q<=l.countP p:=by
   have:∀(l:bA Nat),(∀x∈l,q x=true->p x=true)->l.countP q<=l.countP p:=by
    intro l;induction l with
    |nil=>intro _;simp
    |cons z l i=>
     intro h;have h1:=i (λx hx=>h x (gn _ hx));have h2:=h z (fS ..);simp only[xA];cases g:q z with
     |false=>simp;omega
     |true=>simp[h2 g];omega
   exact this l (λx hx=>c x (gn _ hx))
  simp only[xA];rcases eH.1 d with e|d;·subst e;simp[a,b];omega
  ·have i:=va l (λx hx=>c x (gn _ hx)) ⟨y,d,a,b⟩;have h2:=c x (fS ..);cases f:q x with
   |false=>simp;omega
   |true=>simp[h2 f];omega
def mem_ready{ops:cf Oper}{listed:cf Bool}{i:Nat}(h:i∈Region.ready .any ops listed):
  ∃o,ops[i]?=some o/\listed.getD i true=false/\∀e∈o.after,Region.binds .any e=true->listed.getD e.on false=true:=by
 unfold Region.ready at h;obtain⟨b,a⟩:=gp.1 h;have b:=gq.1 b;rw[oQ b]at a;simp only[dF,ir,fC,mY]at a;refine⟨ops[i],oQ b,a.1,λe he hb=>?_⟩;have:=Array.all_eq_true'.1 a.2 e he;simpa[hb]using this
def Vk{ops:cf Oper}{listed:cf Bool}{i:Nat}{o:Oper}(ho:ops[i]?=some o)(hl:listed.getD i true=false)(h:∀e∈o.after,Region.binds .any e=true->listed.getD e.on false=true):
  i∈Region.ready .any ops listed:=by
 unfold Region.ready;refine gp.2 ⟨gq.2 (jr ho),?_⟩;simp only[ho,fC,mY,dF,ir];refine⟨hl,Array.all_eq_true'.2 λe he=>?_⟩;cases hb:Region.binds .any e with
 |false=>simp
 |true=>simp[h e he hb]
def Vl{ops:cf Oper}{σ cv:bA Nat}(c:ly ops σ cv){listed:cf Bool}(d:listed.size=ops.size)(h:Region.ready .any ops listed= []):∀i,i<ops.size->listed.getD i false=true:=by
 intro i;induction i using Nat.strongRecOn with
 |_ i f=>
  intro a;cases hl:listed.getD i false with
  |true=>rfl
  |false=>
   have ho:ops[i]?=some ops[i]:=oQ a;have b:listed.getD i true=false:=by
    have:i<listed.size:=by rw[d];exact a
    simp only[Array.getD,this,dif_pos]at hl ⊢;exact hl
   have:=Vk ho b (λe he hb=>f e.on (c.u9 i _ ho e he hb) (HG (c.u9 i _ ho e he hb) a));rw[h]at this;cases this
def Vn{listed:cf Bool}{n i j:Nat}(a:listed.size=n)(b:i<n):(listed.setIfInBounds i true).getD j false=(listed.getD j false||Nat.beq j i):=by
 simp only[je,oP];by_cases e:i=j
 ·subst e;have:i<listed.size:=by rw[a];exact b
  simp[this]
 ·rw[bJ e];have:Nat.beq j i=false:=by rw[kl];simpa using λh=>e h.symm
  rw[this,pN]
def Ij{a:Act}:∀(l:bA Nat) (T:Tr),(∀d∈l,d<8000)->∃T':Tr,(∀t,t∉l->T'.get t=T.get t)/\∀t∈l,T'.get t=a.tmps.getD t undef
 |[],T,_=>⟨T,λ_ _=>rfl,λ_ h=>by cases h⟩
 |d::l,T,c=>by
  obtain⟨f,h1,h2⟩:=Ij (a:=a) l T (λx hx=>c x (gn _ hx));refine⟨f.put (some d) (a.tmps.getD d undef),λt b=>?_,λt b=>?_⟩
  ·rw[Tr.dT _ _ _ _ (c d (by simp)),bJ (λe=>b (by rw[e];simp))];exact h1 t (λg=>b (gn _ g))
  ·rw[Tr.dT _ _ _ _ (c d (by simp))];by_cases e:t=d;·rw[bK e,e]
   ·rw[bJ e];rcases eH.1 b with h|h;·exact absurd h e
    ·exact h2 t h
def Vo{ops:cf Oper}{N:Nat}(i:N<=8000)(f:hi P N ops.toList=true){a0 a:Act}{c:Tr}(g:Rel N c a0){M:Nat->Prop}{val:Nat->bH}(h:mE ops N a0 M val a):∃T',Fr (eS ops.toList) c T'/\Rel N T' a:=by
 obtain⟨T',h1,h2⟩:=Ij (a:=a) (eS ops.toList) c (λd b=>by
  unfold eS at b;obtain⟨o,ho,he⟩:=xy.1 b;exact lr (mD f ho d he) i)
 refine⟨T',h1,h.defers,h.size,λt=>?_⟩;by_cases e:t∈eS ops.toList;·exact(h2 t e).symm
 ·rw[h1 t e,<- g.get t];have:=h.ek t (λj o ho b=>absurd (by
   unfold eS;exact xy.2 ⟨o,by rw[pH];exact lp ho,b⟩) e)
  rw[je,je,this]
def Vp{ops:cf Oper}{ae:bA (bA Nat)}{cv:bA Nat}(J:∀σ∈ae,ly ops σ cv/\BR ops ae σ cv){N:Nat}(K:N<=8000)(n:hi P N ops.toList=true){a0:Act}{aD:Tr}(az:Rel N aD a0){Q:Exit->Tr->bi9}{Q':Exit->Act->bi9}(a2:∀T w a,Q .normal T w->Fr (eS ops.toList) aD T->Rel N T a->Q' .normal a w)(aW:∀ak T w a,Q (.panic ak) T w->Fr (eS ops.toList) aD T->Rel N T a->Q' (.panic ak) a w):
  ∀(fuel:Nat) (listed:cf Bool) (σ p rest:bA Nat) (C:bA (bA Nat)) (val:Nat->bH) (a aT:Act) (T:Tr) (w:bI) (done:bA Nat),listed.size=ops.size->sR ops.size listed<=fuel->σ∈ae->σ=p++rest->mF ae p C->(∀i∈rest.head?,i∈cv)->
   ic P ops σ cv N a0 p (λj=>listed.getD j false) val a aT T w done->gK P τ ρ cD A ops cv Q rest.length C done T w->wpAny P .any ops Q' fuel listed a w:=by
 have fin:∀(listed:cf Bool) (σ p rest:bA Nat) (C:bA (bA Nat)) (val:Nat->bH) (a aT:Act) (T:Tr) (w:bI) (done:bA Nat),(∀i,i<ops.size->listed.getD i false=true)->σ∈ae->σ=p++rest->(∀i∈rest.head?,i∈cv)->
   ic P ops σ cv N a0 p (λj=>listed.getD j false) val a aT T w done->gK P τ ρ cD A ops cv Q rest.length C done T w->Q' .normal a w:=by
  intro listed σ p rest C val a aT T w done hl g l m h z;have f:=(J σ g).1;have aq:rest= []:=by
   cases rest with
   |nil=>rfl
   |cons e r=>
    have he:e<ops.size:=f.lt e (by rw[l];simp);have aw:e∈p:=h.sub e (hl e he);exact(uQ _ ((f.lt_iff l e he).2 aw)).elim
  subst aq;have hp:∀j,j<ops.size->j∈p:=λj D=>h.sub j (hl j D);have X:∀t:Nat,a.tmps[t]?=aT.tmps[t]? :=by
   intro t;by_cases hw:∃(j:Nat) (oj:Oper),ops[j]?=some oj/\oj.dst=some t
   ·obtain⟨j,oj,D,u⟩:=hw;rw[h.at_.put j oj t D u (hl j (jr D)),h.all.put j oj t D u (hp j (jr D))]
   ·rw[h.at_.ek t (λj oj D u _=>hw ⟨j,oj,D,u⟩),h.all.ek t (λj oj D u _=>hw ⟨j,oj,D,u⟩)]
  refine a2 T w a z ?_ ⟨h.at_.defers,h.at_.size,λt=>?_⟩
  ·intro t a3;have aS:∀(j:Nat) (oj:Oper),ops[j]?=some oj->oj.dst=some t->¬ j∈p:=λj oj D u _=>
    a3 (xy.2 ⟨oj,by rw[pH];exact lp D,u⟩)
   rw[<- h.rel.get t,<- az.get t];simp only[je,h.all.ek t aS]
  ·rw[<- h.rel.get t];simp only[je,X t]
 intro fuel;induction fuel with
 |zero=>
  intro listed σ p rest C val a aT T w done G hu g l al m h z;have hl:∀i,i<ops.size->listed.getD i false=true:=by
   intro i ag;have a1:sR ops.size listed=0:=by omega
   have:=Uk.1 a1 i (gq.2 ag);have s:i<listed.size:=by rw[G];exact ag
   simp only[Array.getD,s,dif_pos]at this ⊢;simpa using this
  refine⟨?_,fin listed σ p rest C val a aT T w done hl g l m h z⟩;rw[List.eq_nil_iff_forall_not_mem];intro i ag;obtain⟨o,ho,F,_⟩:=mem_ready ag;have:=hl i (jr ho);have s:i<listed.size:=by rw[G];exact jr ho
  simp only[Array.getD,s,dif_pos]at this F;rw[this]at F;cases F
 |succ fuel aM=>
  intro listed σ p rest C val a aT T w done G hu g l al m h z;have f:=(J σ g).1;refine⟨λhr=>fin listed σ p rest C val a aT T w done (Vl f G hr) g l m h z,λi ag=>?_⟩;obtain⟨o,ho,F,y⟩:=mem_ready ag;have E:=jr ho;have s:i<listed.size:=by rw[G];exact E
  have V:listed.getD i false=false:=by
   simp only[Array.getD,s,dif_pos]at F ⊢;exact F
  have R:(listed.setIfInBounds i true).size=ops.size:=by simp[G]
  have ao:sR ops.size (listed.setIfInBounds i true)<=fuel:=by
   have:sR ops.size (listed.setIfInBounds i true)<sR ops.size listed:=by
    refine va _ (λx _ hx=>?_) ⟨i,gq.2 E,by simp[F],?_⟩
    ·simp only[ir,je,oP]at hx ⊢;by_cases e:i=x;·subst e;simp[s]at hx
     ·rw[bJ e]at hx;exact hx
    ·simp[Array.getD,s]
   omega
  have am:(λj=>(listed.setIfInBounds i true).getD j false)= λj=>listed.getD j false||Nat.beq j i:=funext λj=>Vn G E;have q:=h.looks f ho V y;unfold wpOp;simp only[ho];by_cases Y:i∈p
  ·have Z:wpAny P .any ops Q' fuel (listed.setIfInBounds i true) (a.put o.dst (val i)) w:=by
    refine aM _ σ p rest C val _ aT T w done R ao g l al m ?_ z;rw[am];exact ic.mG f n ho Y V h y
   rcases h.iP i Y V o ho a q with⟨h1,h2⟩|⟨h1,h2⟩
   ·rw[h1,bK rfl];refine .inl ?_;unfold Oper.wp;rw[h2 w (λ_=>rfl)];exact Z
   ·rw[h1,bJ bN,<- h2];exact Z
  ·
   obtain⟨ah,ab,H⟩:∃ah,p++i::ah∈ae/\i∈cv:=by
    cases rest with
    |nil=>
     have:=f.all i E;rw[l,g3]at this;exact(Y this).elim
    |cons e rest=>
     have H:e∈cv:=m e rfl;by_cases ay:i=e;·subst ay;exact⟨rest,l▸g,H⟩
     have av:e<ops.size:=f.lt e (by rw[l];simp);have aw:e∉p:=λhm=>uQ _ ((f.lt_iff l e av).2 hm);have aV:ew σ e<ew σ i:=by
      have h1:¬ ew σ i<ew σ e:=λs=>Y ((f.lt_iff l i E).1 s);rcases Hm (ew σ e) (ew σ i)with h2|h2|h2;·exact h2
      ·obtain⟨k,hk,ax⟩:=Hd (f.all i E);obtain⟨aZ,aR,an⟩:=Hd (f.all e av);have af:=f.pos k i (by rw[ea hk,ax]);have aE:=f.pos aZ e (by rw[ea aR,an]);have:k=aZ:=by rw[<- af,<- aE,h2]
       subst this;exact(ay (ax.symm.trans an)).elim
      ·exact(h1 h2).elim
     rcases(J σ g).2 e H i E aV with⟨j,aQ,aN,hle⟩|⟨aO,c,aI,ar⟩
     ·have:=xX (L:=λj=>listed.getD j false) h.closed ops.size i (λo' aa=>by rw[ho]at aa;injection aa with aa;subst aa;exact y) j aN;exact absurd ((f.lt_iff l j aQ).2 (h.sub j this)) bu
     ·have aJ:ew σ e=p.length:=f.pos _ _ (Ic l);rw[aJ,l,sy (ec _),fB]at ar;have:=fP (p.length+1) c;rw[ar,dp]at this;exact⟨c.drop (p.length+1),by rw[show p++i::c.drop (p.length+1)=c from this];exact aI,aO⟩
   have hn:rest.length=ah.length+1:=by
    have h1:=f.len;have h2:=(J _ ab).1.len;rw[l,df]at h1;rw[df,hN]at h2;omega
   subst l;have h:=h.o2 (r':=i::ah);clear q;clear f;obtain⟨σ,l⟩:∃σ,σ=p++i::ah:=⟨_,rfl⟩
   rw[<- l]at h ab;have f:=(J σ ab).1;have q:=h.looks f ho V y;rw[hn]at z;clear m g;revert z;generalize ah=rest at*
   intro z;have g:=ab;have aP:i::rest∈C:=(al _).1 (l▸g)
   ·
    have O:o∈ops.toList:=by rw[pH];exact lp ho
    have aU:∀cs b,o.op≠ .select cs b:=λcs b=>Region.noSelect_spec f.nI i o cs b ho;have X:ib ops o a aT:=Ie f ho l h.all q;have z:=Ii z aP ho;have aI:cv.contains i=true:=by simpa using H
    rw[aI,hU]at z;have aB:σ=(p++[i])++rest:=by rw[l];simp
    rw[X.wanted];refine pV (B:=if Region.wanted o (yielded ops aT.tmps)=true then o.wp P a w (wpAny P .any ops Q' fuel (listed.setIfInBounds i true)) Q'\/(o.asks P a w/\LetsOut Q')else wpAny P .any ops Q' fuel (listed.setIfInBounds i true) (a.put o.dst undef) w) K n h.rel z ?_ ?_
    ·intro ai W a4 hw;rw[hw,bK rfl];refine .inl ?_;have ad:=h.rel.same W;have aY:o.wp P aT w (λb w'=>∃v,b=aT.put o.dst v/\rE P τ ρ ops (ai.put o.dst v) w' (gK P τ ρ cD A ops cv Q rest.length (kG i C) done (ai.put o.dst v) w') (done.filter λj=> !(m1 ops ops.size i).testBit j)) (λe _ w'=>rF Q e ai w'):=
      xV ad (o1 n O) a4 (λv w' hn=>⟨v,rfl,hn⟩) (λak w' hn=>hn)
     refine Vh (X.exec aU) aY ?_ (λak w' hp=>let ⟨T',f',r'⟩:=Vo K n az h.at_;aW ak T' w' a (hp T') f' r') (λ⟨_,_,h⟩=>(h:False).elim) ?_
     ·rintro v w' ⟨S,aA,hn⟩;have aK:a.put o.dst v=a.put o.dst S:=by
       cases u:o.dst with
       |none=>rfl
       |some d=>
        rw[u]at aA;have au:=mD n O d u;have af:(aT.put (some d) v).tmps[d]?=some v:=by simp[Act.put,h.all.size,au]
        have aE:(aT.put (some d) S).tmps[d]?=some S:=by simp[Act.put,h.all.size,au]
        rw[aA,aE]at af;injection af with af
        rw[af]
      rw[aK];have ap:Rel N (ai.put o.dst S) (aT.put o.dst S):=ad.put K (mD n O) S;obtain⟨aL,aX⟩:=BS K n ap _ hn;have M:=h.effect f K n ho l H W y S (w':=w') (.inr aX) f.rd;rw[<- am]at M;exact ic.reads f g K n rest (p++[i]) _ _ _ _ _ aB (al.step i) M aL (λI p' aC U aj T' done' h1 h2 aF aG aH=>aM _ σ p' I aC U _ aj T' w' done' R ao g h1 h2 aF aG aH)
     ·rintro d w' ⟨v,he,_⟩;have:=eO Act.defers he;cases u:o.dst<;>simp[Act.put,u]at this
    ·intro ai W hn hw;rw[hw,bJ bN];have M:=h.effect f K n ho l H W y undef (w':=w) (.inl rfl) f.rd;rw[<- am]at M;exact ic.reads f g K n rest (p++[i]) _ _ _ _ _ aB (al.step i) M hn (λI p' aC U aj T' done' h1 h2 aF aG aH=>aM _ σ p' I aC U _ aj T' w done' R ao g h1 h2 aF aG aH)
def Vq{ops:cf Oper}{b:bA (bA Nat)}{cv:bA Nat}{id:Nat}(hm:P.follows .mixedOrders=true){N:Nat}(p:N<=8000)(f:hi P N ops.toList=true)(hB:BQ ops b cv=true){Q:Exit->Tr->bi9}{Q':Exit->Act->bi9}{T:Tr}{a:Act}{w:bI}(hr:Rel N T a)(h:gK P τ ρ cD A ops cv Q ops.size b [] T w.drew)(D:∀T' w' a',Q .normal T' w'->Fr (eS ops.toList) T T'->Rel N T' a'->Q' .normal a' w')(q:∀m T' w' a',Q (.panic m) T' w'->Fr (eS ops.toList) T T'->Rel N T' a'->Q' (.panic m) a' w'):(Code.region id ops true).wp P Q' a w:=by
 unfold BQ at hB;rw[dF]at hB;have e:∀σ∈b,ly ops σ cv/\BR ops b σ cv:=λσ E=>Vj (fM.1 hB.2 σ E);obtain⟨σ,c⟩:∃σ,σ∈b:=by
  cases b with
  |nil=>simp at hB
  |cons a l=>exact⟨a,fS ..⟩
 have r:=(e σ c).1;refine wp_region_any hm ?_;have o:(λj=>(Array.replicate ops.size false).getD j false)= λ_=>false:=by
  funext j;simp only[je,Ud];split<;>rfl
 have s:ic P ops σ cv N a [] (λj=>(Array.replicate ops.size false).getD j false) (λ_=>undef) a a T w.drew []:=by
  rw[o];have n:∀t:Nat,a.tmps[t]?=a.tmps[t]? :=λ_=>rfl;refine⟨λ_ h=>(by cases h),λ_ _ h=>(by cases h),λ_ _ h=>(by cases h),⟨hr.defers,hr.size,λ_ _ _ _ _ h=>(by cases h),λt _=>n t⟩,⟨hr.defers,hr.size,λ_ _ _ _ _ h=>(by cases h),λt _=>n t⟩,hr,λ_ h=>(by cases h),λ_ h=>(by cases h)⟩
 rw[<- r.len]at h;refine ic.reads r c p f σ [] b _ _ _ _ rfl (λ_=>mz) s h (λd p' u i k T' done' h1 h2 y z g=>?_);refine Vp e p f hr (λv w2 x g B C=>D v w2 x g B C) q ops.size _ σ p' d u i a k T' w.drew done' (by simp) ?_ c h1 h2 y z g;unfold sR;exact lv Ba (by simp)
def jU(P:cS)(N:Nat)(A:dU):Code->Bool
 |.region id ops draw=>hi P N ops.toList&&(!draw||(match A.sig id with|some (C,cv)=>BQ ops C cv|none=>bif A.fork id then true else bif A.calm id then Region.lexB .any ops else bif A.head id==ops.size then Region.lexB .any ops else Region.lexTailB .any ops (A.head id)))
 |.seq x y=>jU P N A x&&jU P N A y&&(match u6 A y with|some ks=>okW x&&nH ks|none=>true)
 |.cond _ x y=>jU P N A x&&jU P N A y
 |.block _ c=>jU P N A c
 |.loop c=>jU P N A c&&okW c&&nH (A.loop ((mC c).getD 0))
 |.scope c=>jU P N A c&&okW c&&(match xS c with|some l=>(match A.goto l with|some ks=>nH ks|none=>true)|none=>true)
 |_=>true
def x0{N:Nat}(g:N<=8000){ops:cf Oper}(d:hi P N ops.toList=true){Q:Exit->Tr->bi9}{Q':Exit->Act->bi9}:∀(l:bA Oper) (T:Tr) (a:Act) (w:bI),hi P N l=true->Rel N T a->
  lx P τ ρ cD A ops Q l T w->(∀e T' w' a',Q e T' w'->Fr (eS l) T T'->Rel N T' a'->Q' e a' w')->wpList P ops Q' l a w
 |[],T,a,w,_,hr,h,m=>m _ _ _ _ h (.refl _ _) hr
 |o::l,T,a,w,j,hr,h,m=>by
  have k:=xU j;have y:=o1 j (fS (a:=o) (l:=l));have c:=mD j (fS (a:=o) (l:=l));have q:∀t,t∈eS l->t∈eS (o::l):=λt r=>by
   unfold eS at r ⊢;rw[He];split<;>simp_all
  have i:∀t,o.dst=some t->t∈eS (o::l)/\t<8000:=λt r=>⟨by simp[eS,r],lr (c t r) g⟩
  refine pV (B:=wpList P ops Q' (o::l) a w) g d hr h ?_ ?_
  ·intro T' p z hw;unfold wpList;rw[hw,bK rfl];have b:=hr.same p;have f:Fr (eS (o::l)) T T':=λt _=>p t;refine .inl (xV b y z (λv w' h'=>?_) (λC w' x=>m _ _ _ _ x f b));exact x0 g d l _ _ _ k (b.put g c v) h' (λe s w2 u he hf n=>m e s w2 u he ((f.trans (Fr.put _ _ _ _ i)).trans (hf.mono q)) n)
  ·intro T' p hn hw;unfold wpList;rw[hw,bJ bN];have b:=hr.same p;have f:Fr (eS (o::l)) T T':=λt _=>p t;exact x0 g d l _ _ _ k (b.put g c undef) hn (λe s w2 u he hf n=>m e s w2 u he ((f.trans (Fr.put _ _ _ _ i)).trans (hf.mono q)) n)
def vb{N:Nat}(e:N<=8000){ops:cf Oper}(c:hi P N ops.toList=true){w:bI}{Q:Tr->Prop}{Q':Act->Prop}:∀(l:bA Oper) (T:Tr) (a:Act),hi P N l=true->Rel N T a->u3 P τ ρ ops w Q l T->
  (∀T' a',Q T'->Fr (eS l) T T'->Rel N T' a'->Q' a')->wpStill P ops w Q' l a
 |[],T,a,_,hr,h,p=>p _ _ h (.refl _ _) hr
 |o::l,T,a,i,hr,h,p=>by
  have j:=xU i;have x:=o1 i (fS (a:=o) (l:=l));have b:=mD i (fS (a:=o) (l:=l));have n:∀t,t∈eS l->t∈eS (o::l):=λt q=>by
   unfold eS at q ⊢;rw[He];split<;>simp_all
  have g:∀t,o.dst=some t->t∈eS (o::l)/\t<8000:=λt q=>⟨by simp[eS,q],lr (b t q) e⟩
  refine pV (B:=wpStill P ops w Q' (o::l) a) e c hr h ?_ ?_
  ·intro T' m u hw;unfold wpStill;rw[hw,bK rfl];have d:=hr.same m;have f:Fr (eS (o::l)) T T':=λt _=>m t;rw[<- d.ev]at u;obtain⟨v,h1,h2⟩:=u0 x u;unfold Oper.still;rw[h1 w (λ_=>.refl w)];exact⟨rfl,vb e c l _ _ j (d.put e b v) h2 (λr s he hf k=>p r s he ((f.trans (Fr.put _ _ _ _ g)).trans (hf.mono n)) k)⟩
  ·intro T' m hn hw;unfold wpStill;rw[hw,bJ bN];have d:=hr.same m;have f:Fr (eS (o::l)) T T':=λt _=>m t;exact vb e c l _ _ j (d.put e b undef) hn (λr s he hf k=>p r s he ((f.trans (Fr.put _ _ _ _ g)).trans (hf.mono n)) k)
def Vr{o:Oper}{a:Act}{w:bI}{f:bH->Prop}(m:∀s d x,o.op=.convert s d x->(P.underlying s).isSome=true)(h:BM P τ ρ o a.eval w f):
  ∃v,(∀w',Grow w w'->o.quietAt P a (Grow w) w' v)/\f v:=by
 unfold BM at h;split at h
 ·rename_i g args ts ho;unfold H4 at h;split at h
  ·rename_i l fi ca n;split at h
   ·rename_i hb;obtain⟨v,h1,h2⟩:=Kd.e5 h;refine⟨v,λw' b=>?_,h2⟩;unfold k6 at hb;split at hb
    ·rename_i fn k;simp only[dF,ir,xv]at hb;obtain⟨i,j⟩:=hb;have hr:(execOp a.eval o).run P w'=.ok (.enter l (fi++args.map a.eval++ca)) w':=by
      have c:¬ fn.body=none:=by intro hx;simp[hx]at i
      simp[execOp,ho,resolve,n,Deferred.ofValue,invoke,callFunc,k,j,c]
     unfold Oper.quietAt;rw[hr];exact⟨rfl,(h1 w' b).mono λe w2 he=>⟨he.1,b.trans he.2⟩⟩
    ·cases hb
   ·exact h.elim
  ·exact h.elim
 ·obtain⟨v,h1,h2⟩:=u0 m h;refine⟨v,λw' b=>?_,h2⟩;unfold Oper.quietAt;rw[h1 w' (λ_=>b)];exact⟨rfl,rfl⟩
def BT{N:Nat}(e:N<=8000){ops:cf Oper}(c:hi P N ops.toList=true){w:bI}{Q:Tr->Prop}{Q':Act->Prop}:∀(l:bA Oper) (T:Tr) (a:Act),hi P N l=true->Rel N T a->o0 P τ ρ ops w Q l T->
  (∀T' a',Q T'->Fr (eS l) T T'->Rel N T' a'->Q' a')->wpQuiet P ops (Grow w) Q' l a
 |[],T,a,_,hr,h,p=>p _ _ h (.refl _ _) hr
 |o::l,T,a,i,hr,h,p=>by
  have j:=xU i;have x:=o1 i (fS (a:=o) (l:=l));have b:=mD i (fS (a:=o) (l:=l));have n:∀t,t∈eS l->t∈eS (o::l):=λt q=>by
   unfold eS at q ⊢;rw[He];split<;>simp_all
  have g:∀t,o.dst=some t->t∈eS (o::l)/\t<8000:=λt q=>⟨by simp[eS,q],lr (b t q) e⟩
  refine pV (B:=wpQuiet P ops (Grow w) Q' (o::l) a) e c hr h ?_ ?_
  ·intro T' m u hw;unfold wpQuiet;rw[hw,bK rfl];have d:=hr.same m;have f:Fr (eS (o::l)) T T':=λt _=>m t;rw[<- d.ev]at u;obtain⟨v,h1,h2⟩:=Vr x u;exact⟨v,h1,BT e c l _ _ j (d.put e b v) h2 (λr s he hf k=>p r s he ((f.trans (Fr.put _ _ _ _ g)).trans (hf.mono n)) k)⟩
  ·intro T' m hn hw;unfold wpQuiet;rw[hw,bJ bN];have d:=hr.same m;have f:Fr (eS (o::l)) T T':=λt _=>m t;exact BT e c l _ _ j (d.put e b undef) hn (λr s he hf k=>p r s he ((f.trans (Fr.put _ _ _ _ g)).trans (hf.mono n)) k)
def BU{f:Nat->Prop}:∀ {l:bA Nat},u4 f l->∀i∈l,f i
 |[],_,_,h=>by cases h
 |_::_,h,i,a=>by
  rcases eH.1 a with rfl|a;·exact h.1
  ·exact BU h.2 i a
def BV{N:Nat}(g:N<=8000){ops:cf Oper}(b:hi P N ops.toList=true){Q:Exit->Tr->bi9}{Q':Exit->Act->bi9}{p:Tr}(m:∀e T' w' a',Q e T' w'->Fr (eS ops.toList) p T'->Rel N T' a'->Q' e a' w'):
  ∀(fuel:Nat) (listed:cf Bool) (T:Tr) (a:Act) (w:bI),Fr (eS ops.toList) p T->Rel N T a->g5 P τ ρ cD A ops Q fuel listed T w->wpAny P .any ops Q' fuel listed a w
 |0,listed,T,a,w,hf,hr,h=>by
  unfold g5 at h;unfold wpAny;split at h;·next e=>exact⟨e,m _ _ _ _ h hf hr⟩
  ·exact h.elim
 |fuel+1,listed,T,a,w,hf,hr,h=>by
  unfold g5 at h;unfold wpAny;split at h
  ·next e=>
   refine⟨λ_=>m _ _ _ _ h hf hr,λi j=>?_⟩;rw[e]at j;cases j
  ·next i0 C e=>
   refine⟨λr=>(by rw[e]at r;cases r),λi j=>?_⟩;rw[e]at j;have q:=BU h i j;unfold wpOp;cases ho:ops[i]? with
   |none=>simp only[ho]at q
   |some o=>
    simp only[ho]at q;have l:o∈ops.toList:=by
     have:=lp ho;simpa using this
    have x:=o1 b l;have d:=mD b l;have k:∀t,o.dst=some t->t∈eS ops.toList/\t<8000:=λt u=>⟨by unfold eS;exact xy.2 ⟨o,l,u⟩,lr (d t u) g⟩
    refine pV (B:=if Region.wanted o (yielded ops a.tmps)then o.wp P a w (wpAny P .any ops Q' fuel (listed.setIfInBounds i true)) Q'\/(o.asks P a w/\LetsOut Q')else wpAny P .any ops Q' fuel (listed.setIfInBounds i true) (a.put o.dst undef) w) g b hr q ?_ ?_
    ·intro T' n y hw;rw[hw,bK rfl];have c:=hr.same n;have f:Fr (eS ops.toList) p T':=hf.trans (λt _=>n t);refine .inl (xV c x y (λv w' h'=>?_) (λz w' s=>m _ _ _ _ s f c));exact BV g b m fuel _ _ _ _ (f.trans (Fr.put _ _ _ _ k)) (c.put g d v) h'
    ·intro T' n hn hw;rw[hw,bJ bN];have c:=hr.same n;have f:Fr (eS ops.toList) p T':=hf.trans (λt _=>n t);exact BV g b m fuel _ _ _ _ (f.trans (Fr.put _ _ _ _ k)) (c.put g d undef) hn
def Vt(hm:P.follows .mixedOrders=true){N:Nat}(g:N<=8000){id:Nat}{ops:cf Oper}{draw:Bool}{Q:Exit->Tr->bi9}{Q':Exit->Act->bi9}{T:Tr}{a:Act}{w:bI}(p:jU P N A (.region id ops draw)=true)(hr:Rel N T a)(h:u5 P τ ρ cD A id ops draw Q T w)(j:∀e T' w' a',Q e T' w'->Fr (eS ops.toList) T T'->Rel N T' a'->Q' e a' w'):
  (Code.region id ops draw).wp P Q' a w:=by
 unfold jU at p;simp only[dF]at p;obtain⟨ho,b⟩:=p;unfold u5 at h;cases draw with
 |false=>exact wp_region_list (x0 g ho _ _ _ _ ho hr h j)
 |true=>
  simp only[Bool.not_true,HC]at b;dsimp only at h;split at h
  ·rename_i σ cv k;rw[k]at b;exact Vq hm g ho b hr h (λT' w' a' h1 h2 n=>j _ _ _ _ h1 h2 n) (λG T' w' a' h1 h2 n=>j _ _ _ _ h1 h2 n)
  rename_i k;rw[k]at b;dsimp only at b;cases m:A.fork id with
  |true=>
   rw[m,hU]at h;refine wp_region_any hm ?_;exact BV g ho (λe T' w' a' h1 h2 n=>j e T' w' a' h1 h2 n) _ _ _ _ _ (Fr.refl _ _) hr h
  |false=>
  rw[m,hF]at h b;cases c:A.calm id with
  |true=>
   rw[c,hU]at b;rw[c,hU]at h;refine wp_region_quiet (C:=Grow w) hm b (Grow.drew w) ?_;exact BT g ho _ _ _ ho hr h (λT' a' s hf d w' D=>j _ _ _ _ (s w' D) hf d)
  |false=>
  rw[c,hF]at b;rw[c,hF]at h;unfold Dr at h;have f:ops.toList=ops.toList.take (A.head id)++ops.toList.drop (A.head id):=(fP _ _).symm;have z:∀ {l l':bA Oper},hi P N (l++l')=true->hi P N l=true/\hi P N l'=true:=by
   intro l l' h;unfold hi at h ⊢;rw[List.all_append,dF]at h;exact h
  have r:=ho;rw[f]at r;obtain⟨x,y⟩:=z r;have hw:eS ops.toList=eS (ops.toList.take (A.head id))++eS (ops.toList.drop (A.head id)):=by
   unfold eS;rw[<- List.filterMap_append,<- f]
  cases i:A.head id==ops.size with
  |true=>
   rw[i,hU]at b;have hn:A.head id=ops.size:=by simpa using i
   have q:ops.toList.take (A.head id)=ops.toList:=iq (by rw[hn];simp);have u:ops.toList.drop (A.head id)= []:=lo (by rw[hn];simp);rw[q,u]at h;refine wp_region_still hm b ?_;exact vb g ho _ _ _ ho hr h (λT' a' o hf d=>j _ _ _ _ o hf d)
  |false=>
   rw[i,hF]at b;obtain⟨l⟩:=ops;refine wp_region_still_tail (l:=l) (A.head id) hm b ?_;refine vb g ho _ _ _ x hr h (λT' a' o hf d=>?_);refine x0 g ho _ _ _ _ y d o (λe E w2 F he v B=>j _ _ _ _ he ?_ B);rw[hw];exact(hf.mono (λt q=>mX _ q)).trans (v.mono (λt q=>om _ q))
def ow:(l:bA (Nat×C1))->hX l->iv l->Tr->(Tr->(bi9)->(bI->Nat)->Prop)->Prop
 |[],a,b,T,K=>K T a b
 |(s,c)::l,a,b,T,K=>∃x:c.ty,ow l (a x) (b x) (T.put (some s) (c.mk x)) K
def vd:∀(l:bA (Nat×C1)) (b:hX l) (c:iv l) (T:Tr) (K a:Tr->(bi9)->(bI->Nat)->Prop),nF l b c T K->ow l b c T a->
  ∃T' d e,K T' d e/\a T' d e
 |[],b,c,T,_,_,h,h'=>⟨T,b,c,h,h'⟩
 |(_,_)::l,b,c,_,K,a,h,⟨x,h'⟩=>vd l (b x) (c x) _ K a (h x) h'
def Fr.rI{S:bA Nat}{a b:Tr}{s:Nat}{v:bH}(c:s<8000)(h:Fr (s::S) a b)(f:b.get s=v):Fr S (a.put (some s) v) b:=by
 intro t d;rw[Tr.dT a s t v c];split;·rename_i e;subst e;exact f
 ·rename_i e;exact h t (by simp only[eH,pP];exact⟨e,d⟩)
def Ik:∀(l:bA (Nat×C1)) (b:hX l) (a:iv l) (m:Nat) (T B:Tr) (w:bI),pU l->sQ l b a m T w->Fr (l.map (·.1)) B T->
  ∃n,n<m/\ow l b a B (λd f i=>(∀t,T.get t=d.get t)/\f w/\i w=n)
 |[],b,a,m,T,B,w,_,h,ho=>⟨a w,h.2,λt=>ho t (by simp),h.1,rfl⟩
 |(s,c)::l,b,a,m,T,B,w,e,h,ho=>by
  unfold sQ at h;split at h
  ·rename_i x hx;obtain⟨n,hn,h'⟩:=Ik l (b x) (a x) m T (B.put (some s) (c.mk x)) w (λy g=>e y (gn _ g)) h (Fr.rI (e _ (fS ..)) ho (C1.l4 hx));exact⟨n,hn,x,h'⟩
  ·exact h.elim
def ve:∀(l:bA (Nat×C1)) (a:hX l) (e:iv l) (T B:Tr) (w:bI),pU l->nE l a T w->Fr (l.map (·.1)) B T->
  ∃n,ow l a e B (λb f i=>(∀t,T.get t=b.get t)/\f w/\i w=n)
 |[],a,e,T,B,w,_,h,ho=>⟨e w,λt=>ho t (by simp),h,rfl⟩
 |(s,c)::l,a,e,T,B,w,d,h,ho=>by
  unfold nE at h;split at h
  ·rename_i x hx;obtain⟨n,h'⟩:=ve l (a x) (e x) T (B.put (some s) (c.mk x)) w (λy g=>d y (gn _ g)) h (Fr.rI (d _ (fS ..)) ho (C1.l4 hx));exact⟨n,x,h'⟩
  ·exact h.elim
def Il:∀(l:bA (Nat×C1)) (d:hX l) (e:iv l) (B:Tr) (K:Tr->(bi9)->(bI->Nat)->Prop) (T:Tr),pU l->ow l d e B K->(∀a f i,K a f i->∀t,T.get t=a.get t)->
  Fr (l.map (·.1)) B T
 |[],d,e,B,K,T,_,h,hk=> λt _=>hk _ _ _ h t
 |(s,_)::l,d,e,B,K,T,c,⟨x,h⟩,hk=>by
  have:=Il l (d x) (e x) _ K T (λy g=>c y (gn _ g)) h hk;intro t b;simp only[kB,eH,pP]at b;rw[this t b.2,Tr.dT B s t _ (c _ (fS ..)),bJ b.1]
def Im(u:Nat->bH):∀(l:bA Nat) (T:Tr),(∀s∈l,s<8000)->Fr l T (m3 u l T)
 |[],_,_=> λ_ _=>rfl
 |s::l,T,b=>by
  intro t a;simp only[eH,pP]at a;show(m3 u l (T.put (some s) (u s))).get t=_;rw[Im u l _ (λy c=>b y (gn _ c)) t a.2,Tr.dT T s t _ (b _ (fS ..)),bJ a.1]
def sS(T:Tr)(S:bA Nat):∀(l:bA Nat) (B:Tr),(∀s∈l,s<8000)->Fr (l++S) B T->Fr S (m3 (λt=>T.get t) l B) T
 |[],_,_,h=>h
 |_::l,_,a,h=>sS T S l _ (λy b=>a y (gn _ b)) (Fr.rI (a _ (fS ..)) h rfl)
def BW{W:bA Nat}{l:bA (Nat×C1)}{t:Nat}(h:t∈W):t∈m2 W l++l.map (·.1):=by
 unfold m2;by_cases a:t∈l.map (·.1);·exact om _ a
 ·exact mX _ (gp.2 ⟨h,by simpa using a⟩)
def sT{W:bA Nat}{l:bA (Nat×C1)}(h:∀t∈W,t<8000):∀s∈m2 W l,s<8000:=λs a=>h s (gp.1 a).1
def BX{W:bA Nat}{l:bA (Nat×C1)}{j:hX l}{q:iv l}{f g b:Tr}{d:bI}{m:Nat}{u:Nat->bH}{K:Tr->(bi9)->(bI->Nat)->Prop}(k:∀t∈W,t<8000)(hl:pU l)(hex:ow l j q (m3 u (m2 W l) f) K)(hk:∀a e i,K a e i->∀t,g.get t=a.get t)(o:Fr W g b)(r:sQ l j q m b d):
  ∃n,n<m/\ow l j q (m3 (λt=>b.get t) (m2 W l) f) (λa e i=>(∀t,b.get t=a.get t)/\e d/\i d=n):=by
 refine Ik l j q m b _ d hl r (sS b _ _ _ (sT k) ?_);have h1:=Il l j q _ K g hl hex hk;have h2:=Im u (m2 W l) f (sT k);intro t c;simp only[gb,pP]at c;have p:t∉W:=λh=>by
  rcases gb.1 (BW (l:=l) h)with h|h;·exact c.1 h
  ·exact c.2 h
 rw[o t p,h1 t c.2,h2 t c.1]
def Vu{N:Nat}{c:Code}{l:bA (Nat×C1)}{body:(Tr->bi9)->Tr->bi9}{Q:Exit->Tr->bi9}{Q':Exit->Act->bi9}{T:Tr}{a:Act}{w:bI}(x:∀t∈wr c,t<8000)(hl:pU l)(hr:Rel N T a)(j:∀(next:Tr->bi9) (next':Act->bi9) T a w,Rel N T a->body next T w->(∀T' w' a',next T' w'->Fr (wr c) T T'->Rel N T' a'->next' a' w')->
   (∀e T' w' a',Q e T' w'->Fr (wr c) T T'->Rel N T' a'->Q' e a' w')->c.wp P (Exit.then next' Q') a w)(K:∀B,Fr (wr c) T B->∀e T' w' a',Q e T' w'->Fr (wr c) B T'->Rel N T' a'->Q' e a' w')(h:xQ l (wr c) body T w):(Code.loop c).wp P Q' a w:=by
 obtain⟨D,R,G,h⟩:=h;let J:Nat->Act->bi9:=λn a' w'=>∃T',Rel N T' a'/\Fr (wr c) T T'/\∃u:Nat->bH,ow l D R (m3 u (m2 (wr c) l) T) (λs r C=>(∀t,T'.get t=s.get t)/\r w'/\C w'=n);have f:∃n,J n a w:=by
  obtain⟨n,hn⟩:=ve l D R T _ w hl G (sS T _ _ T (sT x) (λ_ _=>rfl));exact⟨n,T,hr,.refl _ _,_,hn⟩
 obtain⟨L,f⟩:=f;refine wp_loop_ghost J L f ?_;rintro n F M ⟨E,z,y,u,hex⟩;obtain⟨v,r,C,hK,b,I,rfl⟩:=vd l D R _ _ _ (h u) hex;have A:Rel N v F:=z.same (λt=>(b t).symm);have g:Fr (wr c) T v:=λt q=>(b t).symm.trans (y t q);refine j _ _ _ _ _ A (hK M I) (λk O a3 H d i=>?_) (λe k O a3 he d i=>K _ g _ _ _ _ he d i);have p:Fr (wr c) E k:=λt q=>(d t q).trans (b t).symm;obtain⟨m,hm,o⟩:=BX x hl hex (λ_ _ _ h=>h.1) p H;exact⟨m,hm,k,i,g.trans d,_,o⟩
def Io:∀(c:Code) (l:Nat) (rest:Code),findLabel c l=some rest->∀t,t∈wr rest->t∈wr c:=by
 intro c;induction c with
 |seq x y b d=>
  intro l rest h t a;unfold findLabel at h;split at h
  ·rename_i r hr;injection h with h;subst h
   rcases gb.1 a with a|a;·exact mX _ (b _ _ hr _ a)
   ·exact om _ a
  ·exact om _ (d _ _ h _ a)
 |label l'=>
  intro l rest h t a;unfold findLabel at h;split at h;·injection h with h;subst h;cases a
  ·cases h
 |_=>intro l rest h;simp[findLabel]at h
def Vv{N:Nat}:∀(c:Code) (l:Nat) (rest:Code),findLabel c l=some rest->jU P N A c=true->jU P N A rest=true:=by
 intro c;induction c with
 |seq x y e f=>
  intro l rest h a;unfold jU at a;simp only[dF]at a;unfold findLabel at h;split at h
  ·rename_i r hr;injection h with h;subst h
   unfold jU;simp only[dF];refine⟨⟨e _ _ hr a.1.1,a.1.2⟩,?_⟩;have b:=a.2;split
   ·rename_i ks d;rw[d]at b;simp only[dF]at b ⊢;refine⟨?_,b.2⟩;unfold okW;rw[fM];intro t g;have:=u7 b.1 t (Io _ _ _ hr t g);simpa using this
   ·rfl
  ·exact f _ _ h a.1.2
 |label l'=>
  intro l rest h a;unfold findLabel at h;split at h;·injection h with h;subst h;rfl
  ·cases h
 |_=>intro l rest h;simp[findLabel]at h
def Vw{N:Nat}{c rest:Code}{g:Nat}{l:bA (Nat×C1)}{first pass:(Tr->bi9)->Tr->bi9}{Q:Exit->Tr->bi9}{Q':Exit->Act->bi9}{T:Tr}{a:Act}{w:bI}(F:∀t∈wr c,t<8000)(hl:pU l)(hr:Rel N T a)(hf:findLabel c g=some rest)(k:∀(J:Tr->bi9) (i:Act->bi9) T a w,Rel N T a->first J T w->(∀T' w' a',J T' w'->Fr (wr c) T T'->Rel N T' a'->i a' w')->
   (∀e T' w' a',Q e T' w'->Fr (wr c) T T'->Rel N T' a'->Q' e a' w')->c.wp P (Exit.jump g i Q') a w)(s:∀(J:Tr->bi9) (i:Act->bi9) T a w,Rel N T a->pass J T w->(∀T' w' a',J T' w'->Fr (wr c) T T'->Rel N T' a'->i a' w')->
   (∀e T' w' a',Q e T' w'->Fr (wr c) T T'->Rel N T' a'->Q' e a' w')->rest.wp P (Exit.jump g i Q') a w)(G:∀B,Fr (wr c) T B->∀e T' w' a',Q e T' w'->Fr (wr c) B T'->Rel N T' a'->Q' e a' w')(h:H7 l (wr c) first pass T w):(Code.scope c).wp P Q' a w:=by
 obtain⟨O,Y,S,h⟩:=h;let J:Nat->Act->bi9:=λn a' w'=>∃T',Rel N T' a'/\Fr (wr c) T T'/\∃u:Nat->bH,ow l O Y (m3 u (m2 (wr c) l) T) (λC A M=>(∀t,T'.get t=C.get t)/\A w'/\M w'=n);refine wp_scope_jumps g (λa w=>∃n,J n a w) (λa w=>leastOf (λn=>J n a w)) hf ?_ ?_
 ·refine k _ _ _ _ _ hr S (λT' w' a' X b p=>?_) (λe T' w' a' he b p=>G _ (.refl _ _) _ _ _ _ he b p);obtain⟨n,hn⟩:=ve l O Y T' _ w' hl X (sS T' _ _ T (sT F) (b.mono (λt r=>BW r)));exact⟨n,T',p,b,_,hn⟩
 ·intro E K W;obtain⟨v,_⟩:=leastOf_spec W;generalize leastOf (λn=>J n E K)=n at v;obtain⟨R,H,b,u,hex⟩:=v;obtain⟨D,A,M,hK,d,V,rfl⟩:=vd l O Y _ _ _ (h u) hex;have I:Rel N D E:=H.same (λt=>(d t).symm);have o:Fr (wr c) T D:=λt r=>(d t).symm.trans (b t r);refine s _ _ _ _ _ I (hK K V) (λx L a3 U f q=>?_) (λe x L a3 he f q=>G _ o _ _ _ _ he f q);have z:Fr (wr c) R x:=λt r=>(f t r).trans (d t).symm;obtain⟨m,hm,y⟩:=BX F hl hex (λ_ _ _ h=>h.1) z U;have j:J m a3 L:=⟨x,q,o.trans f,_,y⟩
  exact⟨⟨m,j⟩,Bc ((leastOf_spec ⟨m,j⟩).2 m j) hm⟩
def Vx(hm:P.follows .mixedOrders=true){N:Nat}(W:N<=8000):∀(n:Nat) (c:Code) (Q:Exit->Tr->bi9) (Q':Exit->Act->bi9) (T:Tr) (a:Act) (w:bI),jU P N A c=true->Rel N T a->
  vc P τ ρ cD A n c Q T w->(∀e T' w' a',Q e T' w'->Fr (wr c) T T'->Rel N T' a'->Q' e a' w')->c.wp P Q' a w:=by
 intro n;induction n with
 |zero=>intro c Q Q' T a w _ _ h;exact h.elim
 |succ n o=>
 intro c;cases c with
 |skip=>intro Q Q' T a w _ hr h g;exact wp_skip (g _ _ _ _ h (.refl _ _) hr)
 |label l=>intro Q Q' T a w _ hr h g;exact wp_label (g _ _ _ _ h (.refl _ _) hr)
 |exit id=>intro Q Q' T a w _ hr h g;exact wp_exit (g _ _ _ _ h (.refl _ _) hr)
 |goto l=>intro Q Q' T a w _ hr h g;exact wp_goto (g _ _ _ _ h (.refl _ _) hr)
 |ret=>intro Q Q' T a w _ hr h g;exact wp_ret (g _ _ _ _ h (.refl _ _) hr)
 |region id ops draw=>intro Q Q' T a w d hr h g;exact Vt hm W d hr h g
 |seq x y=>
  intro Q Q' T a w d hr h g;unfold jU at d;simp only[dF]at d;have hx:∀t,t∈wr x->t∈wr (.seq x y):=λt j=>mX _ j;have O:∀t,t∈wr y->t∈wr (.seq x y):=λt j=>om _ j;unfold vc at h;dsimp only at h;split at h
  ·refine wp_seq (o x _ _ _ _ _ d.1.1 hr h (λe T' w' a' he hf b=>?_));cases e with
   |normal=>exact o y _ _ _ _ _ d.1.2 b he (λe I w2 S D s E=>g _ _ _ _ D ((hf.mono hx).trans (s.mono O)) E)
   |exit id=>exact g _ _ _ _ he (hf.mono hx) b
   |goto l=>exact g _ _ _ _ he (hf.mono hx) b
   |ret=>exact g _ _ _ _ he (hf.mono hx) b
   |panic z=>exact g _ _ _ _ he (hf.mono hx) b
   |outgrown=>exact g _ _ _ _ he (hf.mono hx) b
  ·rename_i ks k;have q:=d.2;rw[k]at q;simp only[dF]at q;have C:=u7 q.1;have hl:=xT q.2;obtain⟨J,U,h⟩:=h;refine wp_seq (o x _ _ _ _ _ d.1.1 hr U (λe T' w' a' he hf b=>?_));cases e with
   |normal=>
    replace he:nE ks J T' w':=he
    obtain⟨n,hex⟩:=ve ks J (xR ks) T' _ w' hl he (sS T' _ _ T (sT C) (hf.mono (λt j=>BW j)));obtain⟨I,F,Z,hK,v,V,_⟩:=vd ks J (xR ks) _ _ _ (h _) hex;have E:Rel N I a':=b.same (λt=>(v t).symm);have L:Fr (wr x) T I:=λt j=>(v t).symm.trans (hf t j);exact o y _ _ _ _ _ d.1.2 E (hK w' V) (λe Y w2 S D s M=>g _ _ _ _ D ((L.mono hx).trans (s.mono O)) M)
   |exit id=>exact g _ _ _ _ he (hf.mono hx) b
   |goto l=>exact g _ _ _ _ he (hf.mono hx) b
   |ret=>exact g _ _ _ _ he (hf.mono hx) b
   |panic z=>exact g _ _ _ _ he (hf.mono hx) b
   |outgrown=>exact g _ _ _ _ he (hf.mono hx) b
 |cond c x y=>
  intro Q Q' T a w d hr h g;unfold jU at d;simp only[dF]at d;unfold vc at h;dsimp only at h;split at h
  ·rename_i t j;have G:a.eval c=.bool t:=by rw[hr.ev];exact j
   cases t with
   |true=>exact wp_cond_true G (o x _ _ _ _ _ d.1 hr h (λe T' w' a' he hf b=>g _ _ _ _ he (hf.mono (λt j=>mX _ j)) b))
   |false=>exact wp_cond_false G (o y _ _ _ _ _ d.2 hr h (λe T' w' a' he hf b=>g _ _ _ _ he (hf.mono (λt j=>om _ j)) b))
  ·exact h.elim
 |block id c=>
  intro Q Q' T a w d hr h g;refine wp_block (o c _ _ _ _ _ d hr h (λe T' w' a' he hf b=>?_));cases e with
  |exit p=>
   replace he:bif Nat.beq p id then Q .normal T' w' else Q (.exit p) T' w':=he
   show if p=id then Q' .normal a' w' else Q' (.exit p) a' w'
   rw[kl]at he;by_cases e:p=id;·simp only[e,uL,hU]at he;rw[bK e];exact g _ _ _ _ he hf b
   ·have:(p==id)=false:=by simpa using e
    rw[this,hF]at he;rw[bJ e];exact g _ _ _ _ he hf b
  |normal=>exact g _ _ _ _ he hf b
  |goto l=>exact g _ _ _ _ he hf b
  |ret=>exact g _ _ _ _ he hf b
  |panic z=>exact g _ _ _ _ he hf b
  |outgrown=>exact g _ _ _ _ he hf b
 |scope c=>
  intro Q Q' T a w d hr h g;unfold jU at d;simp only[dF]at d;obtain⟨⟨d,C⟩,k⟩:=d;have m:vc P τ ρ cD A n c (BO Q) T w->(Code.scope c).wp P Q' a w:=λh=>by
   refine wp_scope_straight (o c _ _ _ _ _ d hr h (λe T' w' a' he hf b=>?_));cases e with
   |goto l=>exact he
   |normal=>exact g _ _ _ _ he hf b
   |exit id=>exact g _ _ _ _ he hf b
   |ret=>exact g _ _ _ _ he hf b
   |panic z=>exact g _ _ _ _ he hf b
   |outgrown=>exact g _ _ _ _ he hf b
  unfold vc at h;dsimp only at h;split at h;·exact m h
  ·rename_i l hl;rw[hl]at k;dsimp only at k;split at h;·exact m h
   ·rename_i ks X;rw[X]at k;split at h
    ·rename_i rest r;refine Vw (Q:=Q) (u7 C) (xT k) hr r (λJ F H K R u hb hn i=>?_) (λJ F H K R u hb hn i=>?_) (λB hB e T' w' a' he hf b=>g _ _ _ _ he (hB.trans hf) b) h
     ·refine o c _ _ _ _ _ d u hb (λe T' w' a' he hf b=>?_);cases e with
      |goto l'=>
       replace he:bif Nat.beq l' l then J T' w' else False:=he
       show l'=l/\F a' w';rw[kl]at he;by_cases e:l'=l;·simp only[e,uL,hU]at he;exact⟨e,hn _ _ _ he hf b⟩
       ·have:(l'==l)=false:=by simpa using e
        rw[this,hF]at he;exact he.elim
      |normal=>exact i _ _ _ _ he hf b
      |exit id=>exact i _ _ _ _ he hf b
      |ret=>exact i _ _ _ _ he hf b
      |panic z=>exact i _ _ _ _ he hf b
      |outgrown=>exact i _ _ _ _ he hf b
     ·refine o rest _ _ _ _ _ (Vv _ _ _ r d) u hb (λe T' w' a' he s b=>?_);have hf:Fr (wr c) H T':=s.mono (Io _ _ _ r);cases e with
      |goto l'=>
       replace he:bif Nat.beq l' l then J T' w' else False:=he
       show l'=l/\F a' w';rw[kl]at he;by_cases e:l'=l;·simp only[e,uL,hU]at he;exact⟨e,hn _ _ _ he hf b⟩
       ·have:(l'==l)=false:=by simpa using e
        rw[this,hF]at he;exact he.elim
      |normal=>exact i _ _ _ _ he hf b
      |exit id=>exact i _ _ _ _ he hf b
      |ret=>exact i _ _ _ _ he hf b
      |panic z=>exact i _ _ _ _ he hf b
      |outgrown=>exact i _ _ _ _ he hf b
    ·exact h.elim
 |loop c=>
  intro Q Q' T a w d hr h g;unfold jU at d;simp only[dF]at d;obtain⟨⟨d,C⟩,k⟩:=d;refine Vu (Q:=Q) (body:=λnext=>vc P τ ρ cD A n c (m4 next Q)) (u7 C) (xT k) hr (λnext next' H K R u hb hn i=>o c _ _ _ _ _ d u hb (λe T' w' a' he hf b=>?_))
   (λB hB e T' w' a' he hf b=>g _ _ _ _ he (hB.trans hf) b) h
  cases e with
  |normal=>exact hn _ _ _ he hf b
  |exit id=>exact i _ _ _ _ he hf b
  |goto l=>exact i _ _ _ _ he hf b
  |ret=>exact i _ _ _ _ he hf b
  |panic z=>exact i _ _ _ _ he hf b
  |outgrown=>exact i _ _ _ _ he hf b
 |rangeFunc f ps x y=>intro Q Q' T a w _ _ h;exact h.elim
 |refuse Ip=>intro Q Q' T a w _ _ h;exact h.elim
end
end Go.Vc
namespace Go.Vc
open Go
def cC(K:bj0)(e:Ending)(w:bI):Prop:=∃v,e=.returned v/\K v w
def rJ(K:bj0)(p:bA PanicEntry->bi9)(e:Ending)(w:bI):Prop:=(∃v,e=.returned v/\K v w)\/∃a,e=.panicked a/\p a w
def iQ(P:cS)(τ:bZ->K1)(w:bI)(T:Tr):bA ResultVar->cf bH->(cf bH->Prop)->Prop
 |[],acc,f=>f acc
 |.tmp t::l,acc,f=>iQ P τ w T l (acc.push (T.get t)) f
 |.cell p t::l,acc,f=>pS P (τ t) t (T.get p) w λv=>iQ P τ w T l (acc.push v) f
def oneOf(vs:cf bH):bH:=match vs.toList with | [v]=>v|_=>.tuple vs
def o3(P:cS)(τ:bZ->K1)(rs:bA ResultVar)(K:bj0)(p:bA PanicEntry->bi9):Exit->Tr->bi9
 |.normal,T,w=>iQ P τ w T rs #[] λvs=>K (oneOf vs) w
 |.ret,T,w=>iQ P τ w T rs #[] λvs=>K (oneOf vs) w
 |.panic a,_,w=>p a w
 |_,_,_=>False
noncomputable def js:bA bH->Nat->Tr->Tr
 |[],_,T=>T
 |v::l,i,T=>js l (i+1) (T.put (some i) v)
def kI(P:cS)(τ:bZ->K1)(ρ:bZ->Kd)(cD:bj6->Bool)(A:dU)(fn:Func)(args:cf bH)(K:bj0)(p:bA PanicEntry->bi9)(w:bI):Prop:=
 match fn.body with
 |some c=>vc P τ ρ cD A 1000 c (o3 P τ fn.results.toList K p) (js args.toList 0 .nil) w
 |none=>False
def lA(P:cS)(A:dU)(fn:Func)(n:Nat):Bool:=match fn.body with
 |some c=>jU P fn.ntmps A c&&Nat.ble fn.ntmps 8000&&Nat.ble n fn.ntmps
 |none=>false
section
variable{P:cS}{τ:bZ->K1}{ρ:bZ->Kd}{cD:bj6->Bool}{A:dU}
def o4(tmps:cf bH):ResultVar->Sem bH
 |.tmp t=>pure (tmps.getD t undef)
 |.cell p t=>do loadVar t (<- asAddr (tmps.getD p undef))
def Vy(fn:Func)(tmps:cf bH):results fn tmps=(do
  let vs <- fn.results.mapM (o4 tmps)
  pure (if h:vs.size=1 then vs[0]else .tuple vs)):=rfl
def BY{w:bI}{a:Act}{T:Tr}{N:Nat}(hr:Rel N T a):∀(l:bA ResultVar) (acc:cf bH) (f:cf bH->Prop),iQ P τ w T l acc f->
  ∃vs,(l.mapM (o4 a.tmps)).run P w=.ok vs w/\f (acc++vs.toArray)
 |[],acc,f,h=>⟨[],by simp,by simpa[iQ]using h⟩
 |.tmp t::l,acc,f,h=>by
  obtain⟨vs,h1,h2⟩:=BY hr l _ f h;refine⟨T.get t::vs,?_,?_⟩;·simp only[Hy,o4,hr.get,Sem.run_bind,Sem.run_pure,Result.andThen_ok,h1]
  ·have:acc++(T.get t::vs).toArray=acc.push (T.get t)++vs.toArray:=by apply Array.ext';simp
   rw[this];exact h2
 |.cell p t::l,acc,f,h=>by
  unfold iQ pS at h;split at h
  ·rename_i q e;obtain⟨v,h1,h2⟩:=HN (P:=P) h;obtain⟨vs,b,c⟩:=BY hr l _ f h2;refine⟨v::vs,?_,?_⟩
   ·have d:(asAddr (a.tmps.getD p undef)).run P w=.ok q w:=by rw[hr.get,e];rfl
    simp only[Hy,o4,Sem.run_bind,d,Sem.run_pure,Result.andThen_ok,h1 w (.refl w),b]
   ·have:acc++(v::vs).toArray=acc.push v++vs.toArray:=by apply Array.ext';simp
    rw[this];exact c
  ·exact h.elim
def BZ{fn:Func}{w:bI}{a:Act}{T:Tr}{N:Nat}(hr:Rel N T a){f:cf bH->Prop}(h:iQ P τ w T fn.results.toList #[] f):∃vs,(results fn a.tmps).run P w=.ok (oneOf vs) w/\f vs:=by
 obtain⟨vs,h1,h2⟩:=BY hr _ _ _ h;refine⟨vs.toArray,?_,by simpa using h2⟩;rw[Vy,Array.mapM_eq_mapM_toList];simp only[Sem.run_bind,Sem.run_map,h1,Result.andThen_ok,Sem.run_pure];congr 1
 match vs with
 |[]=>rfl
 |[v]=>rfl
 |u::v::l=>simp[oneOf]
def Iq:∀(l:bA bH) (i:Nat) (T:Tr) (t:Nat),i+l.length<=8000->(js l i T).get t=if t<i then T.get t else match l[t-i]? with|some v=>v|none=>T.get t
 |[],i,T,t,_=>by simp[js]
 |v::l,i,T,t,h=>by
  simp only[hN]at h;unfold js;rw[Iq l (i+1) _ t bu];by_cases h1:t<i;·rw[eV,bK h1,Tr.dT T i t v bu,cK]
  ·by_cases h2:t=i
   ·subst h2;rw[eV,bJ h1,Tr.dT T t t v bu,bK rfl];simp
   ·rw[cK,bJ h1,Tr.dT T i t v bu,bJ h2];have:t-i=(t-(i+1))+1:=by omega
    rw[this,G3]
def Rel.init{N:Nat}{args:cf bH}(a:N<=8000)(hn:args.size<=N):Rel N (js args.toList 0 .nil) {tmps:=args++Array.replicate (N-args.size) undef,defers:=[]} :=by
 refine⟨rfl,by simp;omega,λt=>?_⟩;rw[Iq _ 0 _ t (by simp;omega),cK,HH];simp only[je,Array.getElem?_append,Array.getElem?_toList];by_cases h:t<args.size;·simp[h]
 ·rw[bJ h,xp (Us h)];simp only[Tr.get_nil];by_cases h2:t-args.size<N-args.size;·simp[h2]
  ·simp[h2]
def Ir{g:bj6}{fn:Func}{args:cf bH}{w:bI}{K:bj0}{p:bA PanicEntry->bi9}(hm:P.follows .mixedOrders=true)(hf:P.funcs[g]?=some fn)(a:lA P A fn args.size=true)(h:kI P τ ρ cD A fn args K p w):Calls P g args w (rJ K p):=by
 unfold kI at h;unfold lA at a;split at h
 ·rename_i c d;rw[d]at a;simp only[dF]at a;obtain⟨⟨a,i⟩,hn⟩:=a;have b:fn.ntmps<=8000:=by simpa using i
  have f:args.size<=fn.ntmps:=by simpa using hn
  refine calls_of_wp hf d ?_;refine Vx hm b 1000 c _ _ _ _ _ a (Rel.init b f) h (λe T' w' a' he _ hr=>?_);cases e with
  |normal=>
   obtain⟨vs,h1,h2⟩:=BZ hr he;exact⟨hr.defers,_,h1,.inl ⟨_,rfl,h2⟩⟩
  |ret=>
   obtain⟨vs,h1,h2⟩:=BZ hr he;exact⟨hr.defers,_,h1,.inl ⟨_,rfl,h2⟩⟩
  |panic j=>exact⟨hr.defers,.inr ⟨_,rfl,he⟩⟩
  |exit id=>exact he.elim
  |goto l=>exact he.elim
  |outgrown=>exact he.elim
 ·exact h.elim
def B0{g:bj6}{fn:Func}{args:cf bH}{w:bI}{K:bj0}(hm:P.follows .mixedOrders=true)(hf:P.funcs[g]?=some fn)(a:lA P A fn args.size=true)(h:kI P τ ρ cD A fn args K (λ_ _=>False) w):Calls P g args w (cC K):=
 (Ir hm hf a h).mono λ_ _ he=>he.elim id λ⟨_,_,h⟩=>h.elim
end
end Go.Vc
namespace Go.Kc
open Go.Kt
def firstFree:Nat->bA Bool->bX Nat
 |_,[]=>none
 |n,b::l=>if b then firstFree (n+1) l else some n
def gf(T:bA Bool):bA Bool×Int×Int:=match firstFree 0 T with
 |some i=>(T.set i true,i,0)
 |none=>(T, -1,3)
def nK(T:bA Bool)(i:Int):bA Bool×Int:=
 if i<0\/(T.length:Int)<=i then(T,1)else if T.getD i.toNat false=false then(T,2)else(T.set i.toNat false,0)
def lB(n:Int):bA Bool:=List.replicate (min (max n 0).toNat 1024) false
def B1:∀ {T:bA Bool} {n i:Nat},firstFree n T=some i->n<=i/\T[i-n]?=some false/\∀j,n<=j->j<i->T[j-n]?=some true
 |[],_,_,h=>by cases h
 |b::T,n,i,h=>by
  unfold firstFree at h;cases b with
  |true=>
   simp only[g4]at h;obtain⟨h1,h2,c⟩:=B1 h;refine⟨bu,?_,λj d a=>?_⟩;·rw[show i-n=(i-(n+1))+1 by omega];simpa using h2
   ·rcases Nat.eq_or_lt_of_le d with e|e;·subst e;simp
    ·rw[show j-n=(j-(n+1))+1 by omega];simpa using c j bu a
  |false=>
   simp only[lZ,gU,fT]at h;subst h;exact⟨ec _,by simp,λj h1 h2=>bu⟩
def It:∀ {T:bA Bool} {n:Nat},firstFree n T=none->∀b∈T,b=true
 |[],_,_,b,hb=>by cases hb
 |b::T,n,h,c,a=>by
  unfold firstFree at h;cases b with
  |true=>
   simp only[g4]at h;rcases eH.1 a with rfl|a;·rfl
   ·exact It h c a
  |false=>simp at h
def B2(T:bA Bool):(gf T).1.length=T.length:=by
 unfold gf;split<;>simp
def B3(T:bA Bool)(i:Int):(nK T i).1.length=T.length:=by
 unfold nK;split;·rfl
 ·split<;>simp
structure eZ where
 use:Int
 cJ:Int
deriving DecidableEq
def top:Int:=1099511627776
def gg(g:Int):Bool:=decide (0<=g)&&decide (g<64)
def g6(n:Int):Bool:=decide (0<=n)&&decide (n<=top)
def hO(C:bA eZ)(g:Int):eZ:=if gg g then C.getD g.toNat ⟨0,0⟩else⟨0,0⟩
def c0(C:bA eZ)(g:Int):Int:=(hO C g).use
def hy(C:bA eZ)(g:Int):Int:=(hO C g).cJ
def iR(C:bA eZ)(g:Int)(f:eZ->eZ):bA eZ:=C.set g.toNat (f (C.getD g.toNat ⟨0,0⟩))
def km(C:bA eZ)(g n:Int):bA eZ×Int:=
 if gg g&&g6 n then(iR C g λx=> {x with cJ:=n},0)else(C,1)
def nodupB:bS->Bool
 |[]=>true
 |x::l=> !l.contains x&&nodupB l
def jt(l:bS)(n:Int):Bool:=l.all gg&&nodupB l&&g6 n
def dP(C:bA eZ)(l:bS)(n:Int):bA eZ:=l.foldl (λC g=>iR C g λx=> {x with use:=x.use+n}) C
def ds(C:bA eZ)(l:bS)(n:Int):bA eZ×Int×Int:=
 if jt l n=false then(C, -1,1)
 else match l.find? (λg=>decide (0<n)&&decide ((C.getD g.toNat ⟨0,0⟩).cJ<(C.getD g.toNat ⟨0,0⟩).use+n))with
  |some g=>(C,g,22)
  |none=>(dP C l n, -1,0)
def gB(C:bA eZ)(l:bS)(n:Int):bA eZ×Int:=
 if jt l n=false then(C,1)
 else match l.find? (λg=>decide ((C.getD g.toNat ⟨0,0⟩).use<n))with
  |some _=>(C,2)
  |none=>(dP C l (-n),0)
def mH:bA eZ:=List.replicate 64 ⟨0,top⟩
structure hP(C:bA eZ):Prop where
 len:C.length=64
 ok:∀x∈C,(0<=x.use/\x.use<=top)/\0<=x.cJ/\x.cJ<=top
structure FS where
 bU:bS
 bt:Int×Int->bX (bA UInt8)
def g7(bU:bS):FS:=⟨(bU.take 32).map λn=>min (max n 0) 4096,λ_=>none⟩
def nL(F:FS)(f:Int):Int:=if f<0\/(F.bU.length:Int)<=f then 0 else F.bU.getD f.toNat 0
def mI(n:Int):UInt8:=UInt8.ofNat (n%256).toNat
def nM(k:Int×Int):bA UInt8:=(List.range 16).map λi:Nat=>mI (31*k.1+7*k.2+(i:Int))
def eo(F:FS)(k:Int×Int):Bool:=decide (0<=k.2)&&decide (k.2<nL F k.1)
def sU(F:FS)(k:Int×Int):bA UInt8×Int:=
 if eo F k=false then([],2)else match F.bt k with
  |some t=>(t,0)
  |none=>(nM k,0)
def nN(F:FS)(k:Int×Int)(t:bA UInt8):FS×Int:=
 if eo F k=false then(F,2)else if t.length≠16 then(F,1)else({F with bt:=λx=>if x=k then some t else F.bt x},0)
def sV(g c:Int):Int:=1+2*g+512*(c%top)
def g8(x:Int):Int×Int×Bool:=if x%2=1/\x/512<top then(x/2%256,x/512,true)else(0,0,false)
def o5(l:bS)(g:Int):Int:=l.getD g.toNat 0
def dZ(l:bS)(g:Int):bS×Int:=
 if gg g=false then(l,0)else(l.set g.toNat (i64.wrap (o5 l g+1)),if o5 l g<0 then 0 else sV g (o5 l g))
def mJ(l:bS)(x a:Int):Bool:=
 (g8 x).2.2&&gg (g8 x).1&&decide (0<=o5 l (g8 x).1)&&decide ((o5 l (g8 x).1-(g8 x).2.1)%top<=a)
structure eL where
 parent:Int
 use:Int
 own:Int
deriving DecidableEq
def eL.e8(x:eL):Int:=min x.own x.use
def nZ:eL:=⟨0,0,0⟩
def nO(l:bA eL)(i:Int):eL:=l.getD i.toNat nZ
def gV:Nat->bA eL->Bool
 |_,[]=>true
 |i,x::l=>((decide (i=0)&&decide (x.parent= -1))||(decide (0<=x.parent)&&decide (x.parent<(i:Int))))&&g6 x.use&&g6 x.own&&gV (i+1) l
def ie(l:bA eL):Bool:=gV 0 l&&decide (l.length<=64)
def l5(l:bA eL)(t:Int):Nat->Int->bS
 |0,_=>[]
 |n+1,g=>if g=t then[]else if g<0 then[g]else g::l5 l t n (nO l g).parent
def ig(l:bA eL)(t g:Int):bS:=l5 l t (l.length+1) g
def m5(l:bA eL)(g t:Int):Bool:=(ig l t g).all λx=>decide (0<=x)
def sumOf(l:bA eL)(p:Int):Int:=((l.drop 1).filter λx=>x.parent==p).foldl (λs x=>s+x.e8) 0
def m6(l:bA eL)(t:Int)(out:bS)(i:Nat)(x:eL):Int:=
 if(i:Int)=t\/m5 l i t=false then 0
 else if x.parent≠t/\out.getD x.parent.toNat 0<sumOf l x.parent then x.e8*out.getD x.parent.toNat 0/sumOf l x.parent
 else x.e8
def l6(l:bA eL)(t:Int):bA eL->bS->bS
 |[],out=>out
 |x::r,out=>l6 l t r (out++[m6 l t out out.length x])
def m7(l:bA eL)(t:Int):bS:=if ie l=false\/t<0\/(l.length:Int)<=t then[]else l6 l t l []
def nP(l:bA eL)(ef:bS)(t g:Int):Bool:=
 if ie l=false\/ef.length≠l.length\/t<0\/(l.length:Int)<=t\/g<0\/(l.length:Int)<=g\/m5 l g t=false then false
 else(ig l t g).any λx=>decide ((nO l x).use<=ef.getD x.toNat 0)
def cp(l:bS):Int:=l.foldl (· + ·) 0
def iG(n:Int)(ws:bS):Bool:=decide (0<=n)&&decide (n<=1048576)&&decide (ws.length<=64)&&ws.all λw=>decide (0<=w)&&decide (w<=top)
def ahead(rs:bS)(i:Nat)(r:Int):Nat:=(rs.zipIdx.filter λp:Int×Nat=>decide (r<p.1)||(decide (p.1=r)&&decide (p.2<i))).length
def jj(n:Int)(ws:bS):bS:=
 if iG n ws=false then[]else
 if cp ws=0 then ws.map λ_=>0 else
 let rs:=ws.map λw=>n*w%cp ws
 let left:=n-cp (ws.map λw=>n*w/cp ws)
 ws.zipIdx.map λp:Int×Nat=>n*p.1/cp ws+if(ahead rs p.2 (n*p.1%cp ws):Int)<left then 1 else 0
def ju(n:Int)(ws:bS):bS:=
 if iG n ws=false then[]else if cp ws=0\/n=0 then ws.map λ_=>0 else if cp ws<=n then ws else jj n ws
end Go.Kc
namespace Go.Sp
open Go Go.Vc
structure Asn where
 holds:cf Obj->(Nat->Prop)->Prop
 loc:∀ {h h':cf Obj} {F:Nat->Prop},holds h F->(∀b,F b->h'[b]?=h[b]?)->holds h' F
abbrev cr:=bA Asn
def dv:cr->cf Obj->(Nat->Prop)->Prop
 |[],_,_=>True
 |A::L,h,U=>∃F,A.holds h F/\(∀b,F b->b<h.size/\¬ U b)/\dv L h (λb=>U b\/F b)
structure Env where
 os:Os
 tape:Nat->Question->Nat
 output:cf (Nat×ByteArray)
def World.env(w:bI):Env:=⟨w.os,w.tape,w.output⟩
structure Sep(E:Env)(L:cr)(w:bI):Prop where
 env:World.env w=E
 heap:dv L w.heap (λ_=>False)
def emp:Asn:=⟨λ_ F=>∀b,¬ F b,λh _=>h⟩
def vf(z:Nat×Nat)(n:Nat):Prop:=∀o,o<n->¬ (z.1<=o/\o<z.2)
def bD(b:Nat)(c:bA bH):Asn:=
 ⟨λh F=>(∃t z,h[b]?=some (.cells c.toArray t z)/\vf z c.length)/\∀x,F x↔x=b,λa hl=>⟨by rw[hl b ((a.2 b).2 rfl)];exact a.1,a.2⟩⟩
def vg(b:Nat)(es:cf MapEntry)(ck:Nat):Asn:=
 ⟨λh F=>h[b]?=some (.map es ck)/\∀x,F x↔x=b,λa hl=>⟨by rw[hl b ((a.2 b).2 rfl)];exact a.1,a.2⟩⟩
def da(b:Nat)(o:Obj):Asn:=
 ⟨λh F=>h[b]?=some o/\∀x,F x↔x=b,λa hl=>⟨by rw[hl b ((a.2 b).2 rfl)];exact a.1,a.2⟩⟩
def ek(H:cf Obj):Asn:=
 ⟨λh F=>(∀b,b<H.size->h[b]?=H[b]?)/\∀x,F x↔x<H.size,λa hl=>⟨λb hb=>by rw[hl b ((a.2 b).2 hb)];exact a.1 b hb,a.2⟩⟩
def cL(p:Prop)(A:Asn):Asn:=⟨λh F=>p/\A.holds h F,λa hl=>⟨a.1,A.loc a.2 hl⟩⟩
def fo{α:Sort _}(f:α->Asn):Asn:=⟨λh F=>∃x,(f x).holds h F,λ⟨x,hx⟩ hl=>⟨x,(f x).loc hx hl⟩⟩
def star(A B:Asn):Asn:=
  ⟨λh F=>∃a c,A.holds h a/\B.holds h c/\(∀b,a b->¬ c b)/\∀b,F b↔a b\/c b,
   λ⟨a,c,h1,h2,e,d⟩ hl=>⟨a,c,A.loc h1 (λb hb=>hl b ((d b).2 (.inl hb))),B.loc h2 (λb hb=>hl b ((d b).2 (.inr hb))),e,d⟩⟩
def dv.weaken:∀ {L:cr} {h:cf Obj} {U V:Nat->Prop},dv L h U->(∀b,V b->U b)->dv L h V
 |[],_,_,_,_,_=>trivial
 |_::_,_,_,_,⟨F,h1,h2,d⟩,a=>⟨F,h1,λb hb=>⟨(h2 b hb).1,λc=>(h2 b hb).2 (a b c)⟩,d.weaken (λb hb=>hb.elim (λx=>.inl (a b x)) .inr)⟩
def dv.swap{A B:Asn}{L:cr}{h:cf Obj}{U:Nat->Prop}:dv (A::B::L) h U->dv (B::A::L) h U:=by
 rintro⟨F,h1,h2,G,d,a,e⟩;refine⟨G,d,λb hb=>⟨(a b hb).1,λhu=>(a b hb).2 (.inl hu)⟩,F,h1,λb hb=>⟨(h2 b hb).1,?_⟩,e.weaken ?_⟩
 ·rintro(hu|c);·exact(h2 b hb).2 hu
  ·exact(a b c).2 (.inr hb)
 ·rintro b ((hu|c)|hf);·exact .inl (.inl hu)
  ·exact .inr c
  ·exact .inl (.inr hf)
def dv.cons{A:Asn}{L L':cr}{h:cf Obj}{U:Nat->Prop}(hl:∀U,dv L h U->dv L' h U):dv (A::L) h U->dv (A::L') h U:=
 λ⟨F,h1,h2,a⟩=>⟨F,h1,h2,hl _ a⟩
def dv.drop{A:Asn}{L:cr}{h:cf Obj}{U:Nat->Prop}:dv (A::L) h U->dv L h U:=
 λ⟨_,_,_,a⟩=>a.weaken (λ_ hb=>.inl hb)
def dv.front{A:Asn}{h:cf Obj}:∀ {L:cr} {b:cr} {U:Nat->Prop},dv (L++A::b) h U->dv (A::(L++b)) h U
 |[],_,_,a=>a
 |_::_,_,_,a=>(dv.cons (λ_ h=>dv.front h) a).swap
def dv.perm{h:cf Obj}{L L':cr}(hp:L.Perm L'):∀ {U:Nat->Prop},dv L h U->dv L' h U:=by
 induction hp with
 |nil=>exact id
 |cons A _ d=>exact λa=>a.cons (λ_ h=>d h)
 |swap A B L=>exact dv.swap
 |trans _ _ b c=>exact λa=>c (b a)
def dv.append_left{h:cf Obj}:∀ {L L':cr} {U:Nat->Prop},dv (L++L') h U->dv L h U
 |[],_,_,_=>trivial
 |_::_,_,_,⟨F,h1,h2,a⟩=>⟨F,h1,h2,a.append_left⟩
def lC(L:cr):bA Nat->cr
 |[]=>[]
 |i::is=>match L[i]? with
  |some A=>A::lC L is
  |none=>lC L is
def o6:bA Nat->Bool
 |[]=>true
 |i::is=> !is.contains i&&o6 is
def dv.B4{h:cf Obj}:∀ {L:cr} {U:Nat->Prop},dv L h U->∃c:Nat->Nat->Prop,
  (∀(i:Nat) (A:Asn),L[i]?=some A->A.holds h (c i)/\∀b,c i b->b<h.size/\¬ U b)/\∀i j b,i≠j->i<L.length->j<L.length->c i b->¬ c j b
 |[],_,_=>⟨λ_ _=>False,λi A a=>by simp at a,λ_ _ _ _ a=>by simp at a⟩
 |B::L,U,⟨F,h1,h2,o⟩=>by
  obtain⟨c,g,n⟩:=dv.B4 o;refine⟨λi=>match i with|0=>F|i+1=>c i,?_,?_⟩
  ·intro i A a;cases i with
   |zero=>simp only[k1,fT]at a;subst a;exact⟨h1,h2⟩
   |succ i=>
    have:=g i A (by simpa using a);exact⟨this.1,λb hb=>⟨(this.2 b hb).1,λhu=>(this.2 b hb).2 (.inl hu)⟩⟩
  ·intro i j b f a l hb d;cases i with
   |zero=>
    cases j with
    |zero=>exact f rfl
    |succ j=>
     have m:j<L.length:=by simpa using l
     have:=(g j L[j] (ea m)).2 b d;exact this.2 (.inr hb)
   |succ i=>
    cases j with
    |zero=>
     have k:i<L.length:=by simpa using a
     have:=(g i L[i] (ea k)).2 b hb;exact this.2 (.inr d)
    |succ j=>exact n i j b (λe=>f (by rw[e])) (by simpa using a) (by simpa using l) hb d
def dv.lD{h:cf Obj}{L:cr}{d:Nat->Nat->Prop}(f:∀(i:Nat) (A:Asn),L[i]?=some A->A.holds h (d i)/\∀b,d i b->b<h.size)(l:∀i j b,i≠j->i<L.length->j<L.length->d i b->¬ d j b):∀(is:bA Nat) (U:Nat->Prop),o6 is=true->(∀b i,i∈is->i<L.length->d i b->¬ U b)->dv (lC L is) h U
 |[],_,_,_=>trivial
 |i::is,U,c,m=>by
  simp only[o6,dF,ir]at c;have o:i∉is:=by simpa using c.1
  unfold lC;cases n:L[i]? with
  |none=>exact dv.lD f l is U c.2 (λb j g a hb=>m b j (gn _ g) a hb)
  |some A=>
   have k:i<L.length:=by
    rcases hE i L.length with h' | h';·exact h'
    ·simp[gI h']at n
   refine⟨d i,(f i A n).1,λb hb=>⟨(f i A n).2 b hb,m b i (fS ..) k hb⟩,?_⟩;refine dv.lD f l is _ c.2 (λb j g a hb hu=>?_);rcases hu with hu|hu;·exact m b j (gn _ g) a hb hu
   ·exact l i j b (λe=>o (e▸g)) k a hu hb
def dv.fr{h:cf Obj}{A:Asn}:∀(L:cr) (i:Nat) {U:Nat->Prop},L[i]?=some A->dv L h U->dv (A::L.eraseIdx i) h U
 |[],i,_,a,_=>by simp at a
 |B::L,0,_,a,b=>by simp only[k1,fT]at a;subst a;exact b
 |B::L,i+1,_,a,b=>(b.cons λ_ h=>dv.fr L i (by simpa using a) h).swap
section
variable{E:Env}{L:cr}{w:bI}
def Sep.re(h:Sep E L w)(is:bA Nat)(d:o6 is=true):Sep E (lC L is) w:=by
 obtain⟨f,a,e⟩:=h.heap.B4;exact⟨h.env,dv.lD (λi A c=>⟨(a i A c).1,λb hb=>((a i A c).2 b hb).1⟩) e is _ d (λ_ _ _ _ _=>id)⟩
def Iu:∀ {is:bA Nat},o6 is=true->is.Nodup
 |[],_=>Hz
 |i::is,h=>by
  simp only[o6,dF,ir]at h;exact rq.2 ⟨by simpa using h.1,Iu h.2⟩
def Iw:∀ {is:bA Nat},is.Nodup->o6 is=true
 |[],_=>rfl
 |i::is,h=>by
  have:=rq.1 h;simp only[o6,dF,ir];exact⟨by simpa using this.1,Iw this.2⟩
def Ix(L:cr)(i:Nat)(is:bA Nat):lC L (i::is)=(match L[i]? with|some A=>A::lC L is|none=>lC L is):=rfl
def Iy(L:cr):∀(is a:bA Nat),lC L (is++a)=lC L is++lC L a
 |[],_=>rfl
 |i::is,a=>by
  rw[pK,Ix,Ix,Iy L is a];cases L[i]? <;>rfl
def Iz(L:cr):∀(k n:Nat),n+k=L.length->lC L (List.range' n k)=L.drop n
 |0,n,h=>by simp[lC,lo (show L.length<=n by omega)]
 |k+1,n,h=>by
  rw[List.range'_succ];unfold lC;rw[du,Iz L k (n+1) bu];exact(kZ bu).symm
def x1(n:Nat):bA Nat->Bool
 |[]=>true
 |i::is=>Nat.blt i n&&x1 n is
def IA{n:Nat}:∀ {is:bA Nat},x1 n is=true->∀i∈is,i<n
 |[],_,i,h=>by cases h
 |j::is,a,i,h=>by
  simp only[x1,dF,Nat.blt_eq]at a;rcases eH.1 h with rfl|h;·exact a.1
  ·exact IA a.2 i h
def Sep.ro(h:Sep E L w)(n:Nat)(is:bA Nat)(c:(o6 is&&x1 n is)=true):Sep E (lC L is++L.drop n) w:=by
 simp only[dF]at c;rcases hE L.length n with hl|hl
 ·have:=h.re is c.1;rw[lo bu,g3];exact this
 ·have:=h.re (is++List.range' n (L.length-n)) (Iw (uJ.2 ⟨Iu c.1,List.nodup_range',λa d b hb=>by
   have h1:=IA c.2 a d;have h2:=(List.mem_range'_1.1 hb).1;omega⟩))
  rw[Iy,Iz L _ n bu]at this;exact this
def Sep.perm{L':cr}(h:Sep E L w)(hp:L.Perm L'):Sep E L' w:=⟨h.env,h.heap.perm hp⟩
def Sep.swap{A B:Asn}(h:Sep E (A::B::L) w):Sep E (B::A::L) w:=⟨h.env,h.heap.swap⟩
def Sep.fr(h:Sep E L w)(i:Nat){A:Asn}(a:L[i]?=some A):Sep E (A::L.eraseIdx i) w:=⟨h.env,dv.fr L i a h.heap⟩
def Sep.tail{A:Asn}(h:Sep E (A::L) w):Sep E L w:=⟨h.env,h.heap.drop⟩
def Sep.left{L':cr}(h:Sep E (L++L') w):Sep E L w:=⟨h.env,h.heap.append_left⟩
def Sep.star{A B:Asn}:Sep E (star A B::L) w↔Sep E (A::B::L) w:=by
 constructor
 ·rintro⟨he,F,⟨c,d,h1,h2,f,a⟩,e,h⟩;refine⟨he,c,h1,λb hb=>e b ((a b).2 (.inl hb)),d,h2,λb hb=>⟨(e b ((a b).2 (.inr hb))).1,?_⟩,h.weaken ?_⟩
  ·rintro(hu|hu);·exact hu
   ·exact f b hu hb
  ·rintro b ((hu|hu)|hu);·exact .inl hu
   ·exact .inr ((a b).2 (.inl hu))
   ·exact .inr ((a b).2 (.inr hu))
 ·rintro⟨he,c,h1,h2,d,f,a,e⟩;refine⟨he,λb=>c b\/d b,⟨c,d,h1,f,λb hb g=>(a b g).2 (.inr hb),λ_=>mz⟩,λb hb=>?_,e.weaken ?_⟩
  ·rcases hb with hb|hb;·exact h2 b hb
   ·exact⟨(a b hb).1,λhu=>hu⟩
  ·rintro b (hu|hu|hu);·exact hu.elim
   ·exact .inl (.inr hu)
   ·exact .inr hu
def Sep.ex{α:Sort _}{f:α->Asn}:Sep E (fo f::L) w↔∃x,Sep E (f x::L) w:=by
 constructor;·rintro⟨he,F,⟨x,hx⟩,h2,a⟩;exact⟨x,he,F,hx,h2,a⟩
 ·rintro⟨x,he,F,hx,h2,a⟩;exact⟨he,F,⟨x,hx⟩,h2,a⟩
def Sep.cL{p:Prop}{A:Asn}:Sep E (cL p A::L) w↔p/\Sep E (A::L) w:=by
 constructor;·rintro⟨he,F,⟨hp,hx⟩,h2,a⟩;exact⟨hp,he,F,hx,h2,a⟩
 ·rintro⟨hp,he,F,hx,h2,a⟩;exact⟨he,F,⟨hp,hx⟩,h2,a⟩
def Sep.emp:Sep E (emp::L) w↔Sep E L w:=by
 constructor;·exact Sep.tail
 ·rintro⟨he,h⟩;exact⟨he,λ_=>False,λ_ h=>h,λ_ h=>h.elim,h.weaken (λ_ hb=>hb.elim id id)⟩
def Sep.block{b:Nat}{c:bA bH}(h:Sep E (bD b c::L) w):∃t z,w.heap[b]?=some (.cells c.toArray t z)/\vf z c.length:=by
 obtain⟨_,F,⟨h1,_⟩,_⟩:=h;exact h1
def Sep.dw{b:Nat}{o:Obj}(h:Sep E (da b o::L) w):w.heap[b]?=some o:=by
 obtain⟨_,F,⟨h1,_⟩,_⟩:=h;exact h1
def Sep.kJ{H:cf Obj}(h:Sep E (ek H::L) w)(b:Nat)(hb:b<H.size):w.heap[b]?=H[b]? :=by
 obtain⟨_,F,⟨h1,_⟩,_⟩:=h;exact h1 b hb
def Sep.cell{b:Nat}{c:bA bH}(h:Sep E (bD b c::L) w)(o:Nat):w.cell? ⟨b,o,none⟩=c[o]? :=by
 obtain⟨t,z,a,_⟩:=h.block;simp[World.cell?,a]
def Sep.cellAt{b:Nat}{c:bA bH}(i:Nat)(d:L[i]?=some (bD b c))(h:Sep E L w)(o:Nat):w.cell? ⟨b,o,none⟩=c[o]? :=by
 obtain⟨f,a,_⟩:=h.heap.B4;obtain⟨t,z,e,_⟩:=(a i _ d).1.1;simp[World.cell?,e]
def dv.change{A A':Asn}{F F':Nat->Prop}{h h':cf Obj}(d:h.size<=h'.size)(hold:∀b,b<h.size->¬ F b->h'[b]?=h[b]?)(e:A'.holds h' F')(c:∀b,F' b->b<h'.size/\(F b\/h.size<=b)):
  ∀ {L:cr} {U:Nat->Prop},(∀b,F b->U b)->(∀b,U b->b<h.size)->dv L h U->dv L h' (λb=>U b\/F' b)
 |[],_,_,_,_=>trivial
 |B::L,U,a,g,⟨G,h1,h2,f⟩=>by
  refine⟨G,B.loc h1 (λb hb=>hold b (h2 b hb).1 (λhf=>(h2 b hb).2 (a b hf))),λb hb=>⟨lr (h2 b hb).1 d,?_⟩,?_⟩
  ·rintro(hu|hf);·exact(h2 b hb).2 hu
   ·rcases(c b hf).2 with hf|hf;·exact(h2 b hb).2 (a b hf)
    ·exact absurd (h2 b hb).1 (Nat.not_lt.2 hf)
  ·have:=dv.change (A:=A) d hold e c (L:=L) (U:=λb=>U b\/G b) (λb hb=>.inl (a b hb)) (λb hb=>hb.elim (g b) (λi=>(h2 b i).1)) f;exact this.weaken (λb hb=>by
    rcases hb with(hb|hb)|hb;·exact .inl (.inl hb)
    ·exact .inr hb
    ·exact .inl (.inr hb))
def Sep.change{A A':Asn}{w':bI}(h:Sep E (A::L) w)(d:World.env w'=World.env w)(f:w.heap.size<=w'.heap.size)(e:∀F,A.holds w.heap F->(∀b,F b->b<w.heap.size)->(∀b,b<w.heap.size->¬ F b->w'.heap[b]?=w.heap[b]?)/\∃F',A'.holds w'.heap F'/\∀b,F' b->b<w'.heap.size/\(F b\/w.heap.size<=b)):
  Sep E (A'::L) w':=by
 obtain⟨he,F,h1,h2,g⟩:=h;obtain⟨hold,F',a,c⟩:=e F h1 (λb hb=>(h2 b hb).1);refine⟨d.trans he,F',a,λb hb=>⟨(c b hb).1,λhu=>hu⟩,?_⟩;have:=dv.change (A:=A) f hold a c (L:=L) (U:=λb=>False\/F b) (λb hb=>.inr hb) (λb hb=>hb.elim False.elim (λhf=>(h2 b hf).1)) g;exact this.weaken (λb hb=>by
  rcases hb with hb|hb;·exact hb.elim
  ·exact .inr hb)
def Sep.grow{w':bI}(h:Sep E L w)(g:Grow w w'):Sep E L w':=by
 have h1:Sep E (Sp.emp::L) w:=Sep.emp.2 h;refine Sep.emp.1 (h1.change (A':=Sp.emp) ?_ g.size (λF a _=>⟨λb hb _=>g.heap b hb,F,a,λb hb=>(a b hb).elim⟩));simp[World.env,g.os,g.tape,g.output]
def Sep.drew(h:Sep E L w):Sep E L w.drew:=h.grow (Grow.drew w)
def Sep.new{A':Asn}{w':bI}(h:Sep E L w)(g:Grow w w'){F':Nat->Prop}(c:A'.holds w'.heap F')(a:∀b,F' b->w.heap.size<=b/\b<w'.heap.size):Sep E (A'::L) w':=by
 have h1:Sep E (Sp.emp::L) w:=Sep.emp.2 h;refine h1.change (A':=A') ?_ g.size (λF d _=>⟨λb hb _=>g.heap b hb,F',c,λb hb=>⟨(a b hb).2,.inr (a b hb).1⟩⟩);simp[World.env,g.os,g.tape,g.output]
def heap_alloc(w:bI)(o:Obj):(w.alloc o).heap[w.heap.size]?=some o:=by
 show(w.heap.push o)[w.heap.size]?=some o;simp
def size_alloc(w:bI)(o:Obj):(w.alloc o).heap.size=w.heap.size+1:=by
 show(w.heap.push o).size=_;simp
def Sep.alloc(h:Sep E L w)(c:cf bH)(t:bZ):Sep E (bD w.heap.size c.toList::L) (w.alloc (.cells c t)):=
 h.new (Grow.alloc w _) (F':=λx=>x=w.heap.size) ⟨⟨t,(0,0),heap_alloc w _,λ_ _ h=>bu⟩,λ_=>mz⟩ (λb hb=>by subst hb;rw[size_alloc];omega)
def Sep.rK(h:Sep E L w)(es:cf MapEntry)(ck:Nat):Sep E (vg w.heap.size es ck::L) (w.alloc (.map es ck)):=
 h.new (Grow.alloc w _) (F':=λx=>x=w.heap.size) ⟨heap_alloc w _,λ_=>mz⟩ (λb hb=>by subst hb;rw[size_alloc];omega)
def Sep.nQ(h:Sep E L w)(o:Obj):Sep E (da w.heap.size o::L) (w.alloc o):=
 h.new (Grow.alloc w _) (F':=λx=>x=w.heap.size) ⟨heap_alloc w _,λ_=>mz⟩ (λb hb=>by subst hb;rw[size_alloc];omega)
def Sep.e1{b:Nat}{c:bA bH}(h:Sep E (bD b c::L) w){o:Nat}(ho:o<c.length):Vc.e1 w ⟨b,o,none⟩:=by
 refine⟨⟨c[o],?_⟩,?_⟩;·rw[h.cell o];simp[ho]
 ·obtain⟨t,z,d,a⟩:=h.block;simpa[World.frozen?,d]using a o ho
def Sep.setCell{b:Nat}{c:bA bH}(h:Sep E (bD b c::L) w)(o:Nat)(v:bH):Sep E (bD b (c.set o v)::L) (w.setCell ⟨b,o,none⟩ v):=by
 obtain⟨t,z,hb,f⟩:=h.block;refine h.change rfl (by simp[World.setCell]) (λF a d=>⟨λx _ hx=>?_,F,⟨?_,a.2⟩,λx hx=>⟨?_,.inl hx⟩⟩)
 ·have:b≠x:=λe=>hx ((a.2 x).2 e.symm);simp[World.setCell,G8,this]
 ·exact⟨t,z,by simp[World.setCell,G8,hb],by simpa using f⟩
 ·simpa[World.setCell]using d x hx
def St.i{b:Nat}{c:bA bH}{v:bH}{f:bi9}(h:Sep E (bD b c::L) w){o:Nat}(ho:o<c.length)(k:∀a,Sep E (bD b (c.set o v)::L) a->f a):St ⟨b,o,none⟩ v f w:=⟨h.e1 ho,k _ (h.setCell o v)⟩
def Al.i{c:cf bH}{t:bZ}{f:Addr->bi9}(h:Sep E L w)(k:∀b a,Sep E (bD b c.toList::L) a->f ⟨b,0,none⟩ a):Al (.cells c t) f w:=k _ _ (h.alloc c t)
def m0.i{f:Nat->bi9}(h:Sep E L w)(k:∀b a,Sep E (vg b #[] 0::L) a->f b a):m0 f w:=k _ _ (h.rK _ _)
def Dr.i{f:bi9}(h:Sep E L w)(k:∀a,Sep E L a->f a):Dr f w:=k _ h.drew
def BN.i{f:bi9}(h:Sep E L w)(k:∀a,Sep E L a->f a):BN f w:=λ_ g=>k _ (h.grow g)
def cA:cr->Asn
 |[]=>emp
 |A::a=>star A (cA a)
def Sep.cA:∀ {a:cr} {L:cr},Sep E (cA a::L) w↔Sep E (a++L) w
 |[],_=>Sep.emp
 |A::a,L=>by
  refine Sep.star.trans ⟨λh=>?_,λh=>?_⟩
  ·have h1:=Sep.cA.1 h.swap;exact⟨h1.env,dv.front h1.heap⟩
  ·refine Sep.swap (Sep.cA.2 (h.perm ?_));exact(jo).symm
end
end Go.Sp
namespace Go.Sp
open Go Go.Vc
abbrev cZ(E:Env)(x:bH)(L:cr):=cC λv w=>v=x/\Sep E L w
end Go.Sp
