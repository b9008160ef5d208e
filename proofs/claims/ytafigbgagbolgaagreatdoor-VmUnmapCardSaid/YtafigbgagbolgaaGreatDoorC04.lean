/- Part of a proof about the core: of its walks and plain laws. -/
import Derived.Test.YtafigbgagbolgaaGreatDoorC03
import Derived.RangeFuncIn
import Derived.RangeFuncLeaves
import Derived.RangeFuncRecord
import Derived.RangeFuncCalls
import Derived.RangeFuncSeq
import Derived.Sort.LoopGhostIn
import Derived.OrdersIn
import Derived.Test.YtafigbgagbolgaaGreatDoorProg
import Derived.Test.YtafigbgagbolgaaGreatDoorChecked
set_option linter.all false
set_option maxRecDepth 100000
open Go.IntKind(i64 u64)
namespace Go.Kv
open Go Go.Vc Go.Sp
def RT:Nat->Type
 |0=>List (Option Nat)
 |n+1=>List (Option (Nat×RT n))
def hasB:List Bool->Nat
 |[]=>0
 |b::r=>(if b then 1 else 0)+2*hasB r
def l9(ks:List (Option Nat)):List Value:=ks.map λk=>.pointer (k.map λb=>⟨b,0,none⟩)
def mU(ws:List (Option Nat)):List Value:=ws.map λx=>.int .u64 ((x.getD 0:Nat):Int)
def gn(ks ws:List (Option Nat))(h:Nat):List Value:=l9 ks++(mU ws++[.int .u16 (h:Int)])
def dB:List (Option Nat):=List.replicate 16 none
def RT.vs:(n:Nat)->RT n->List Value
 |0,ws=>gn dB ws (hasB (List.map Option.isSome (ws:List (Option Nat))))
 |n+1,ks=>gn (List.map (Option.map Prod.fst) (ks:List (Option (Nat×RT n)))) dB (hasB (List.map Option.isSome (ks:List (Option (Nat×RT n)))))
def RT.zero:(n:Nat)->RT n
 |0=>(List.replicate 16 none:List (Option Nat))
 |n+1=>(List.replicate 16 none:List (Option (Nat×RT n)))
def RT.look:(n:Nat)->RT n->Nat->Option Nat
 |0,ws,p=>List.getD (ws:List (Option Nat)) (p%16) none
 |n+1,ks,p=>match List.getD (ks:List (Option (Nat×RT n))) (p/16^(n+1)%16) none with
  |none=>none
  |some (_,t)=>RT.look n t p
def RT.ok:(n:Nat)->RT n->Prop
 |0,ws=>List.length (ws:List (Option Nat))=16
 |n+1,ks=>List.length (ks:List (Option (Nat×RT n)))=16/\∀(i b:Nat) (t:RT n),List.getD (ks:List (Option (Nat×RT n))) i none=some (b,t)->RT.ok n t
def dJ:(n:Nat)->Nat->RT n->ch
 |0,b,ws=>[bE b (RT.vs 0 ws)]
 |n+1,b,ks=>bE b (RT.vs (n+1) ks)::List.flatMap (λk:Option (Nat×RT n)=>match k with|none=>[]|some (a,t)=>dJ n a t) (ks:List (Option (Nat×RT n)))
def eZ(n:Nat)(k:Option (Nat×RT n)):ch:=match k with|none=>[]|some (a,t)=>dJ n a t
def jN(n:Nat)(ks:List (Option (Nat×RT n)))(d:Nat):ch:=(ks.take d).flatMap (eZ n)++(ks.drop (d+1)).flatMap (eZ n)
def IN(n b:Nat)(ks:List (Option (Nat×RT n))):dJ (n+1) b ks=bE b (RT.vs (n+1) ks)::ks.flatMap (eZ n):=rfl
def tq{α β:Type}{f:α->List β}:∀ {l:List α} {d:Nat} {x:α},l[d]?=some x->l.flatMap f=(l.take d).flatMap f++(f x++(l.drop (d+1)).flatMap f)
 |[],_,_,h=>by cases h
 |a::l,0,x,h=>by cases h;simp
 |a::l,d+1,x,h=>by
  have:=tq (f:=f) (l:=l) (d:=d) h;rw[nX,this,List.take_succ_cons,nX,List.drop_succ_cons,dc]
def RT.lD:∀n,RT.ok n (RT.zero n)
 |0=>by show(List.replicate 16 (none:Option Nat)).length=16;simp
 |n+1=>by
  refine⟨?_,λi b t h=>?_⟩;·show(List.replicate 16 (none:Option (Nat×RT n))).length=16;simp
  ·have h:List.getD (List.replicate 16 (none:Option (Nat×RT n))) i none=some (b,t):=h;rw[dK,lN]at h;split at h<;>cases h
def RT.jl:∀(n p:Nat),RT.look n (RT.zero n) p=none
 |0,p=>by
  show(List.replicate 16 (none:Option Nat)).getD (p%16) none=none;rw[dK,lN];split<;>rfl
 |n+1,p=>by
  have:List.getD (List.replicate 16 (none:Option (Nat×RT n))) (p/16^(n+1)%16) none=none:=by
   rw[dK,lN];split<;>rfl
  show(match List.getD (List.replicate 16 (none:Option (Nat×RT n))) (p/16^(n+1)%16) none with|none=>none|some (_,t)=>RT.look n t p)=none;rw[this]
variable{E:Env}{L:ch}{w:World}
def dJ.open{n b d a:Nat}{ks:List (Option (Nat×RT n))}{t:RT n}(c:ks[d]?=some (some (a,t)))(h:Sep E (dJ (n+1) b ks++L) w):Sep E (dJ n a t++(bE b (RT.vs (n+1) ks)::(jN n ks d++L))) w:=by
 rw[IN,tq c]at h;refine h.perm ?_;unfold jN;show((bE b (RT.vs (n+1) ks)::(List.flatMap (eZ n) (ks.take d)++(dJ n a t++List.flatMap (eZ n) (ks.drop (d+1)))))++L).Perm _;generalize List.flatMap (eZ n) (ks.take d)=A;generalize List.flatMap (eZ n) (ks.drop (d+1))=B;generalize dJ n a t=C;generalize bE b (RT.vs (n+1) ks)=X;simp only[oJ,dc];refine(List.Perm.cons X ?_).trans il.symm;have:(A++(C++(B++L))).Perm (C++(A++(B++L))):=by
  have h1:=sG (B++L) (lO (l₁:=A) (l₂:=C));rwa[dc,dc]at h1
 exact this
def dJ.shut{n b d a:Nat}{ks:List (Option (Nat×RT n))}{t:RT n}(f:d<ks.length)(h:Sep E (dJ n a t++(bE b (RT.vs (n+1) (ks.set d (some (a,t))))::(jN n ks d++L))) w):Sep E (dJ (n+1) b (ks.set d (some (a,t)))++L) w:=by
 have g:(ks.set d (some (a,t)))[d]?=some (some (a,t)):=iM f;rw[IN,tq g];have c:(ks.set d (some (a,t))).take d=ks.take d:=by rw[T0 (dN d)]
 have e:(ks.set d (some (a,t))).drop (d+1)=ks.drop (d+1):=by rw[T1 bA]
 rw[c,e];refine h.perm ?_;unfold jN;show List.Perm _ ((bE b (RT.vs (n+1) (ks.set d (some (a,t))))::(List.flatMap (eZ n) (ks.take d)++(dJ n a t++List.flatMap (eZ n) (ks.drop (d+1)))))++L);generalize List.flatMap (eZ n) (ks.take d)=A;generalize List.flatMap (eZ n) (ks.drop (d+1))=B;generalize dJ n a t=C;generalize bE b (RT.vs (n+1) (ks.set d (some (a,t))))=X;simp only[oJ,dc];refine il.trans (List.Perm.cons X ?_);have:(C++(A++(B++L))).Perm (A++(C++(B++L))):=by
  have h1:=sG (B++L) (lO (l₁:=C) (l₂:=A));rwa[dc,dc]at h1
 exact this
def vt:∀(l:List Bool) (d:Nat),hasB l/2^d%2=if l.getD d false then 1 else 0
 |[],d=>by simp[hasB]
 |b::r,0=>by
  simp only[hasB,Ba,Bd];cases b<;>simp<;>omega
 |b::r,d+1=>by
  have:=vt r d;rw[m9,sO,<- m6];have e:hasB (b::r)/2=hasB r:=by simp only[hasB];cases b<;>simp<;>omega
  rw[e,this];rfl
def oZ:∀(l:List Bool),hasB l<2^l.length
 |[]=>by simp[hasB]
 |b::r=>by
  have:=oZ r;simp only[hasB,hS,m9];cases b<;>simp<;>omega
end Go.Kv
namespace Go.Vc
open Go
def FW:Option Nat->Fence
 |none=>Fence.wide
 |some l=>Fence.wide.inRound l
def FW.fn(r:Option Nat)(f:FuncId):(FW r).fn f:=by cases r<;>exact trivial
def FW.depth(r:Option Nat):(FW r).depth=none:=by cases r<;>rfl
section
variable{P:Program}{τ:TypeId->K1}{ρ:TypeId->Kd}{cz:FuncId->Bool}{A:dS}{yl:Nat->Bool}{n:Nat}
def FW.calls{r:Option Nat}{f:FuncId}{args:Array Value}{w:World}{R:Ending->bh6}(h:Calls P f args w R):CallsIn (FW r) n P f args w R:=by
 cases r with
 |none=>exact callsIn_wide.2 h
 |some l=>exact(callsIn_wide.2 h).inRound l
def FW.rows{r:Option Nat}{row:String}{args:Array Value}{w:World}{R:bh7}(h:Rows P row args w R):RowsIn (FW r) n P row args w R:=by
 have h1:RowsIn Fence.wide n P row args w R:=λc cs _=>let ⟨v,w',a,s⟩:=h c cs;⟨v,w',a,stepsIn_wide.2 s⟩;cases r with
 |none=>exact h1
 |some l=>exact h1
def FW.kc{r:Option Nat}{x:Prop}:(FW r).depth.isSome=true->x:=by rw[FW.depth];intro h;cases h
def VS{r:Option Nat}{o:Oper}{a0 a:Act}{w:World}{K i:Act->bh6}{Q Q':Exit->Act->bh6}(p:a0.tmps=a.tmps)(j:∀c,o.op≠ .defer c)(h:o.wp P a0 w K Q)(b:∀v w',K (a0.put o.dst v) w'->i (a.put o.dst v) w')(l:∀d w',¬ K ({a0 with defers:=d::a0.defers}.put o.dst undef) w')(hp:∀g w',Q (.panic g) a0 w'->Q' (.panic g) a w')(m:LetsOut Q->LetsOut Q'):o.wpIn (FW r) n P a w i Q':=by
 refine⟨λf _=>FW.fn r f,?_⟩;have he:a0.eval=a.eval:=by funext x;cases x<;>simp[Act.eval,p]
 rw[Oper.semAt_eq _ _ _ j,<- he];unfold Oper.wp at h;generalize (execOp a0.eval o).run P w=res at h ⊢
 match res with
 |.ok (.value v) w'=>exact b _ _ h
 |.ok .skip w'=>exact b _ _ h
 |.ok (.defer d) w'=>exact absurd h (l d w')
 |.ok (.enter f args) w'=>
  refine⟨FW.kc,FW.calls (Calls.mono h λe k he=>?_)⟩;cases e with
  |returned v=>exact b _ _ he
  |panicked g=>exact hp _ _ he
  |outgrown=>exact m he
 |.ok (.row row args) w'=>exact⟨FW.kc,FW.rows (Rows.mono h λv k q=>b _ _ q)⟩
 |.halt (.panic v) w'=>exact hp _ _ h
def marks(D:List Nat):List Deferred:=D.map λb=> {target:=.collected b,args:= #[]}
structure eR(D:List Nat)(N:Nat)(T:Tr)(a:Act):Prop where
 defers:a.defers=marks D
 rel:Rel N T {tmps:=a.tmps,defers:=[]}
def eR.put{D:List Nat}{N:Nat}{T:Tr}{a:Act}(h:eR D N T a)(b:N<=8000){d:Option Nat}(c:∀t,d=some t->t<N)(v:Value):eR D N (T.put d v) (a.put d v):=by
 have:=h.rel.put b c v;cases d with
 |none=>exact⟨h.defers,this⟩
 |some d=>exact⟨h.defers,this⟩
def eR.same{D:List Nat}{N:Nat}{T T':Tr}{a:Act}(h:eR D N T a)(b:∀t,T'.get t=T.get t):eR D N T' a:=⟨h.defers,h.rel.same b⟩
def eR.ev{D:List Nat}{N:Nat}{T:Tr}{a:Act}(h:eR D N T a):a.eval=T.ev:=by
 rw[<- h.rel.ev];funext x;cases x<;>rfl
def eR.of{N:Nat}{T:Tr}{a:Act}(h:Rel N T a):eR [] N T a:=⟨h.defers,⟨rfl,h.size,h.get⟩⟩
def yd(P:Program)(r:Option Nat)(g:Value)(args:Array Value)(w:World)(R:Ending->bh6):Prop:=
 ∃l,g=.func (.yield l) #[] #[]/\YieldAt (FW r) 0 P l args w R
def vu(yl:Nat->Bool)(o:Oper):Bool:=match o.dst with|some d=>yl d|none=>false
def o0(P:Program)(τ:TypeId->K1)(ρ:TypeId->Kd)(cz:FuncId->Bool)(A:dS)(yl:Nat->Bool)(r:Option Nat)(o:Oper)(T:Tr)(w:World)(next:Tr->bh6)(Q:Exit->Tr->bh6):Prop:=
 bif vu yl o then(match o.op with
  |.call {callee:=.value g,args,.. } =>yd P r (T.ev g) (args.map T.ev) w λe w'=>(ρ o.type).ex λv=>e=.returned v/\next (T.put o.dst v) w'
  |_=>False)
 else nd P τ ρ cz A o T w next Q
def ye(P:Program)(τ:TypeId->K1)(ρ:TypeId->Kd)(cz:FuncId->Bool)(A:dS)(yl:Nat->Bool)(r:Option Nat)(ops:Array Oper)(Q:Exit->Tr->bh6):List Oper->Tr->bh6
 |[],T,w=>Q .normal T w
 |o::rest,T,w=>j0 ops o T (λT=>o0 P τ ρ cz A yl r o T w (ye P τ ρ cz A yl r ops Q rest) Q) (λT=>ye P τ ρ cz A yl r ops Q rest (T.put o.dst undef) w)
def tr(P:Program)(τ:TypeId->K1)(ρ:TypeId->Kd)(cz:FuncId->Bool)(A:dS)(yl:Nat->Bool)(r:Option Nat)(ops:Array Oper)(Q:Exit->Tr->bh6):Nat->Array Bool->Tr->bh6
 |0,listed,T,w=>match Region.ready .any ops listed with
  |[]=>Q .normal T w
  |_=>False
 |fuel+1,listed,T,w=>match Region.ready .any ops listed with
  |[]=>Q .normal T w
  |i::l=>u9 (λi=>match ops[i]? with
   |none=>False
   |some o=>j0 ops o T (λT=>o0 P τ ρ cz A yl r o T w (tr P τ ρ cz A yl r ops Q fuel (listed.setIfInBounds i true)) Q) (λT=>tr P τ ρ cz A yl r ops Q fuel (listed.setIfInBounds i true) (T.put o.dst undef) w)) (i::l)
def VT(b:Nat)(c:Code)(done ret:bh6):Ending->bh6
 |.returned _,w=>∃r:Loop,w.heap[b+1]?=some (.loop r)/\r.state≠ .busy/\(match r.pending with
  |none=>done (w.putObj (b+1) (.loop {r with state:=.exhausted}))
  |some c'=>c'=c/\ret (w.putObj (b+1) (.loop {r with state:=.exhausted})))
 |_,_=>False
def tt(fn:FuncId)(a:Array Value)(ps:Array Tmp)(assign body:Code)(b:Nat):Loop:={state:=.ready,pending:=none,fn,tmps:=a,params:=ps,assign,body,defers:=b}
def rN(T:Tr)(a:Array Value):Prop:=∀t,a.getD t undef=T.get t
def ib(P:Program)(N:Nat)(g:Value)(ps:Array Tmp)(assign body c:Code)(T:Tr)(w:World)(done ret:Nat->bh6):Prop:=
 ∃(f:FuncId) (fi ca b:Array Value),g=.func (.func f) fi ca/\b=fi++ #[.func (.yield (w.heap.size+1)) #[] #[]]++ca/\ky P f=true/\∀(fn:FuncId) (a:Array Value),a.size=N->rN T a->
  Calls P f b ((w.alloc (.deferred (some []))).alloc (.loop (tt fn a ps assign body w.heap.size))) (VT w.heap.size c (done w.heap.size) (ret w.heap.size))
def Cc:Option Nat->Code
 |none=>.ret
 |some i=>.exit i
def Cd:Option Nat->Exit
 |none=>.ret
 |some i=>.exit i
def IP(next:List Nat->Tr->bh6)(Q:List Nat->Exit->Tr->bh6):List Nat->Exit->Tr->bh6
 |D,.normal,T,w=>next D T w
 |D,e,T,w=>Q D e T w
def VU(id:Nat)(Q:List Nat->Exit->Tr->bh6):List Nat->Exit->Tr->bh6
 |D,.exit a,T,w=>bif Nat.beq a id then Q D .normal T w else Q D (.exit a) T w
 |D,e,T,w=>Q D e T w
def kd(P:Program)(τ:TypeId->K1)(ρ:TypeId->Kd)(cz:FuncId->Bool)(A:dS)(yl:Nat->Bool)(N:Nat)(r:Option Nat):Nat->Code->(List Nat->Exit->Tr->bh6)->List Nat->Tr->bh6
 |0,_,_,_,_,_=>False
 |n+1,c,Q,D,T,w=>match c with
  |.skip=>Q D .normal T w
  |.label _=>Q D .normal T w
  |.exit id=>Q D (.exit id) T w
  |.ret=>Q D .ret T w
  |.region id ops draw=>match draw with
   |false=>ye P τ ρ cz A yl r ops (Q D) ops.toList T w
   |true=>bif A.head id==ops.size then Dr (λw'=>u7 P τ ρ ops w' (λT'=>Q D .normal T' w') ops.toList T) w else Dr (λw'=>tr P τ ρ cz A yl r ops (Q D) ops.size (Array.replicate ops.size false) T w') w
  |.seq x y=>kd P τ ρ cz A yl N r n x (IP (λD T w=>kd P τ ρ cz A yl N r n y Q D T w) Q) D T w
  |.cond c x y=>match T.ev c with
   |.bool t=>bif t then kd P τ ρ cz A yl N r n x Q D T w else kd P τ ρ cz A yl N r n y Q D T w
   |_=>False
  |.block id c=>kd P τ ρ cz A yl N r n c (VU id Q) D T w
  |.loop c=>xM (A.loop ((lW c).getD 0)) (wr c) (λnext=>kd P τ ρ cz A yl N r n c (IP (λa T w=>a=D/\next T w) Q) D) T w
  |.rangeFunc g ps assign body=>match r with
   |none=>ib P N (T.ev g) ps assign body (Cc A.brk) T w (λb w'=>Q (b::D) .normal T w') (λb w'=>Q (b::D) (Cd A.brk) T w')
   |some _=>False
  |_=>False
def gF(P:Program)(N:Nat)(A:dS):Code->Bool
 |.region id ops _=>(gT P N ops.toList&&ops.toList.all λo=>match o.op with | .defer _=>false|_=>true)&&(bif A.head id==ops.size then Region.lexB .any ops else true)
 |.seq x y=>gF P N A x&&gF P N A y
 |.cond _ x y=>gF P N A x&&gF P N A y
 |.block _ c=>gF P N A c
 |.loop c=>gF P N A c&&okW c&&ni (A.loop ((lW c).getD 0))
 |_=>true
def IQ{D:List Nat}{r:Option Nat}{N:Nat}{o:Oper}{T:Tr}{a:Act}{w:World}{next:Tr->bh6}{next':Act->bh6}{Q:Exit->Tr->bh6}{Q':Exit->Act->bh6}(y:eR D N T a)(C:∀s d x,o.op=.convert s d x->(P.underlying s).isSome=true)(q:∀c,o.op≠ .defer c)(h:o0 P τ ρ cz A yl r o T w next Q)(u:∀v w',next (T.put o.dst v) w'->next' (a.put o.dst v) w')(hp:∀m w',Q (.panic m) T w'->Q' (.panic m) a w'):o.wpIn (FW r) 0 P a w next' Q':=by
 unfold o0 at h;cases z:vu yl o with
 |true=>
  rw[z,hr]at h;split at h
  ·rename_i g args ts ho;obtain⟨l,t,fn,tmps,assign,body,p,n⟩:=h;refine⟨λf _=>FW.fn r f,?_⟩;rw[<- y.ev]at t p;have he:(execOp a.eval o).run P w=.ok (.round l fn tmps assign body) w:=by
    simp only[execOp,ho,resolve,t,Deferred.ofValue,Sem.run_bind,Sem.run_pure,Result.andThen,invoke];simpa using p
   rw[Oper.semAt_eq _ _ _ q,he];refine⟨FW.kc,n.mono λe w' he=>?_⟩;obtain⟨v,rfl,j⟩:=Kd.eT he;exact u _ _ j
  ·exact h.elim
 |false=>
  rw[z,g8]at h;have:=xR (next':=λb w'=>∃v,b= {tmps:=(a.put o.dst v).tmps,defers:=[]} /\next (T.put o.dst v) w') (Q':=λe _ w'=>match e with | .panic m=>Q (.panic m) T w' | _=>False) y.rel C h
   (λv w' j=>⟨v,by cases o.dst<;>rfl,j⟩) (λm w' h=>h)
  refine VS (a0:={tmps:=a.tmps,defers:=[]}) rfl q this (λv w' j=>?_) (λd w' E=>?_) (λm w' h=>hp _ _ h) (λ⟨_,_,h⟩=>h.elim)
  ·obtain⟨B,k,j⟩:=j;have e:a.put o.dst v=a.put o.dst B:=by
    cases i:o.dst with
    |none=>rfl
    |some d=>
     rw[i]at k;have:=eO Act.tmps k;simp only[Act.put]at this ⊢;rw[this]
   rw[e];exact u _ _ j
  ·obtain⟨B,k,_⟩:=E;have:=eO Act.defers k;cases i:o.dst with
   |none=>rw[i]at this;cases this
   |some d=>rw[i]at this;cases this
def Ce{l:List Oper}(h:(l.all λo=>match o.op with | .defer _=>false|_=>true)=true){o:Oper}(ho:o∈l):∀c,o.op≠ .defer c:=by
 intro c e;have:=fB.1 h o ho;rw[e]at this;cases this
def IS{D:List Nat}{N:Nat}{ops:Array Oper}{o:Oper}{T:Tr}{a:Act}{yes no:Tr->Prop}{B:Prop}(c:N<=8000)(b:gT P N ops.toList=true)(e:eR D N T a)(h:j0 ops o T yes no)(f:∀T',(∀t,T'.get t=T.get t)->yes T'->Region.wanted o (yielded ops a.tmps)=true->B)(d:∀T',(∀t,T'.get t=T.get t)->no T'->Region.wanted o (yielded ops a.tmps)=false->B):B:=
 pO (B:=B) c b e.rel h f d
def Cf{D:List Nat}{r:Option Nat}{N:Nat}(i:N<=8000){ops:Array Oper}(d:gT P N ops.toList=true){Q:Exit->Tr->bh6}{Q':Exit->Act->bh6}:∀(l:List Oper) (T:Tr) (a:Act) (w:World),
  gT P N l=true->(l.all λo=>match o.op with | .defer _=>false|_=>true)=true->eR D N T a->
  ye P τ ρ cz A yl r ops Q l T w->(∀e T' w' a',Q e T' w'->Fr (eI l) T T'->eR D N T' a'->Q' e a' w')->wpListIn (FW r) 0 P ops Q' l a w
 |[],T,a,w,_,_,s,h,q=>q _ _ _ _ h (.refl _ _) s
 |o::l,T,a,w,n,j,s,h,q=>by
  have p:=xQ n;have k:(l.all λo=>match o.op with | .defer _=>false|_=>true)=true:=by rw[A8,dG]at j;exact j.2
  have H:=oP n (fj (a:=o) (l:=l));have c:=lX n (fj (a:=o) (l:=l));have G:=Ce j (fj (a:=o) (l:=l));have y:∀t,t∈eI l->t∈eI (o::l):=λt z=>by
   unfold eI at z ⊢;rw[GS];split<;>simp_all
  have m:∀t,o.dst=some t->t∈eI (o::l)/\t<8000:=λt z=>⟨by simp[eI,z],mz (c t z) i⟩
  refine IS (B:=wpListIn (FW r) 0 P ops Q' (o::l) a w) i d s h ?_ ?_
  ·intro T' x J hw;unfold wpListIn;rw[hw,bM rfl];have b:=s.same x;have g:Fr (eI (o::l)) T T':=λt _=>x t;refine IQ b H G J (λv w' h'=>?_) (λK w' F=>q _ _ _ _ F g b);exact Cf i d l _ _ _ p k (b.put i c v) h' (λe C w2 E he hf u=>q e C w2 E he ((g.trans (Fr.put _ _ _ _ m)).trans (hf.mono y)) u)
  ·intro T' x I hw;unfold wpListIn;rw[hw,bJ bO];have b:=s.same x;have g:Fr (eI (o::l)) T T':=λt _=>x t;exact⟨λf _=>FW.fn r f,Cf i d l _ _ _ p k (b.put i c undef) I (λe C w2 E he hf u=>q e C w2 E he ((g.trans (Fr.put _ _ _ _ m)).trans (hf.mono y)) u)⟩
def Cg{D:List Nat}{r:Option Nat}{N:Nat}(k:N<=8000){ops:Array Oper}(b:gT P N ops.toList=true)(m:(ops.toList.all λo=>match o.op with | .defer _=>false|_=>true)=true){Q:Exit->Tr->bh6}{Q':Exit->Act->bh6}{u:Tr}(q:∀e T' w' a',Q e T' w'->Fr (eI ops.toList) u T'->eR D N T' a'->Q' e a' w'):
  ∀(fuel:Nat) (listed:Array Bool) (T:Tr) (a:Act) (w:World),Fr (eI ops.toList) u T->eR D N T a->tr P τ ρ cz A yl r ops Q fuel listed T w->wpAnyIn (FW r) 0 P .any ops Q' fuel listed a w
 |0,listed,T,a,w,hf,l,h=>by
  unfold tr at h;unfold wpAnyIn;split at h;·next e=>exact⟨e,q _ _ _ _ h hf l⟩
  ·exact h.elim
 |fuel+1,listed,T,a,w,hf,l,h=>by
  unfold tr at h;unfold wpAnyIn;split at h
  ·next e=>
   refine⟨λ_=>q _ _ _ _ h hf l,λi n=>?_⟩;rw[e]at n;cases n
  ·next i0 J e=>
   refine⟨λy=>(by rw[e]at y;cases y),λi n=>?_⟩;rw[e]at n;have x:=aux h i n;unfold wpOpIn;cases ho:ops[i]? with
   |none=>simp only[ho]at x
   |some o=>
    simp only[ho]at x;have j:o∈ops.toList:=by
     have:=ku ho;simpa using this
    have F:=oP b j;have d:=lX b j;have C:=Ce m j;have p:∀t,o.dst=some t->t∈eI ops.toList/\t<8000:=λt E=>⟨by unfold eI;exact xw.2 ⟨o,j,E⟩,mz (d t E) k⟩
    refine IS (B:=if Region.wanted o (yielded ops a.tmps)then o.wpIn (FW r) 0 P a w (wpAnyIn (FW r) 0 P .any ops Q' fuel (listed.setIfInBounds i true)) Q' else(∀f,o.about P w a.eval=some f->(FW r).fn f)/\wpAnyIn (FW r) 0 P .any ops Q' fuel (listed.setIfInBounds i true) (a.put o.dst undef) w) k b l x ?_ ?_
    ·intro T' s H hw;rw[hw,bM rfl];have c:=l.same s;have g:Fr (eI ops.toList) u T':=hf.trans (λt _=>s t);refine IQ c F C H (λv w' h'=>?_) (λI w' z=>q _ _ _ _ z g c);exact Cg k b m q fuel _ _ _ _ (g.trans (Fr.put _ _ _ _ p)) (c.put k d v) h'
    ·intro T' s G hw;rw[hw,bJ bO];have c:=l.same s;have g:Fr (eI ops.toList) u T':=hf.trans (λt _=>s t);exact⟨λf _=>FW.fn r f,Cg k b m q fuel _ _ _ _ (g.trans (Fr.put _ _ _ _ p)) (c.put k d undef) G⟩
def VV{D:List Nat}{r:Option Nat}{N:Nat}{c:Code}{l:List (Nat×C1)}{body:(Tr->bh6)->Tr->bh6}{Q':Exit->Act->bh6}{T:Tr}{a:Act}{w:World}(z:∀t∈wr c,t<8000)(B:pN l)(Q:eR D N T a)(i:∀(next:Tr->bh6) (next':Act->bh6) (d:Tr) (g:Act) (j:World),Fr (wr c) T d->eR D N d g->body next d j->(∀T' w' a',next T' w'->Fr (wr c) d T'->eR D N T' a'->next' a' w')->
   c.wpIn (FW r) 0 P (Exit.then next' Q') g j)(h:xM l (wr c) body T w):(Code.loop c).wpIn (FW r) 0 P Q' a w:=by
 obtain⟨H,S,I,h⟩:=h;let J:Nat->Act->bh6:=λn a' w'=>∃T',eR D N T' a'/\Fr (wr c) T T'/\∃u:Nat->Value,n4 l H S (mH u (mG (wr c) l) T) (λv s G=>(∀t,T'.get t=v.get t)/\s w'/\G w'=n);have e:∃n,J n a w:=by
  obtain⟨n,O⟩:=vh l H S T _ w B I (sZ T _ _ T (s0 z) (λ_ _=>rfl));exact⟨n,T,Q,.refl _ _,_,O⟩
 obtain⟨R,e⟩:=e;refine wpIn_loop_ghost J R e ?_;rintro n g j ⟨d,C,A,u,hex⟩;obtain⟨x,s,G,M,b,L,rfl⟩:=vg l H S _ _ _ (h u) hex;have E:eR D N x g:=C.same (λt=>(b t).symm);have f:Fr (wr c) T x:=λt q=>(b t).symm.trans (A t q);refine i _ _ _ _ _ f E (M j L) (λy U a3 K k F=>?_);have p:Fr (wr c) d y:=λt q=>(k t q).trans (b t).symm;obtain⟨m,hm,o⟩:=BL z B hex (λ_ _ _ h=>h.1) p K;exact⟨m,hm,y,F,f.trans k,_,o⟩
def VW{D:List Deferred}{r:Option Nat}{ops:Array Oper}{w:World}{i:Nat}{a0 a:Act}{K:Act->Prop}{m:Act->bh6}{Q':Exit->Act->bh6}(n:∀o,ops[i]?=some o->∀c,o.op≠ .defer c)(k:a0.tmps=a.tmps)(l:a.defers=D)(h:∀b0 b:Act,b0.tmps=b.tmps->b.defers=D->K b0->m b w)(g:stOp P ops w i K a0):wpOpIn (FW r) 0 P ops Q' i m a w:=by
 have j:∀(d:Option Tmp) (v:Value),(a0.put d v).tmps=(a.put d v).tmps/\(a.put d v).defers=D:=by
  intro d v;cases d with
  |none=>exact⟨k,l⟩
  |some d=>exact⟨by simp only[Act.put,k],l⟩
 have he:a0.eval=a.eval:=by funext x;cases x<;>simp[Act.eval,k]
 unfold stOp at g;unfold wpOpIn;cases ho:ops[i]? with
 |none=>simp only[ho]at g;exact h _ _ k l g
 |some o=>
  simp only[ho]at g;dsimp only;rw[k]at g;split
  ·rename_i hw;simp only[hw,fP]at g;refine⟨λf _=>FW.fn r f,?_⟩;rw[Oper.semAt_eq _ _ _ (n o ho),<- he];unfold Oper.still at g;generalize (execOp a0.eval o).run P w=res at g ⊢
   match res with
   |.ok (.value v) w'=>obtain⟨rfl,g⟩:=g;exact h _ _ (j _ _).1 (j _ _).2 g
   |.ok .skip w'=>obtain⟨rfl,g⟩:=g;exact h _ _ (j _ _).1 (j _ _).2 g
   |.ok (.enter f args) w'=>
    obtain⟨rfl,v,p,g⟩:=g;refine⟨FW.kc,FW.calls (p.mono λe q he=>?_)⟩;obtain⟨rfl,rfl⟩:=he;exact h _ _ (j _ _).1 (j _ _).2 g
  ·rename_i hw;simp only[hw]at g;exact⟨λf _=>FW.fn r f,h _ _ (j _ _).1 (j _ _).2 g⟩
def IT{D:List Deferred}{r:Option Nat}{ops:Array Oper}{md:Region.Mode}{w:World}{Q:Act->Prop}{Q':Exit->Act->bh6}(f:∀(i:Nat) o,ops[i]?=some o->∀c,o.op≠ .defer c)(g:∀a0 a:Act,a0.tmps=a.tmps->a.defers=D->Q a0->Q' .normal a w):∀(fuel:Nat) (listed:Array Bool) (a0 a:Act),a0.tmps=a.tmps->a.defers=D->
  wpAnyS P md ops w Q fuel listed a0->wpAnyIn (FW r) 0 P md ops Q' fuel listed a w
 |0,_,_,_,e,d,h=>⟨h.1,g _ _ e d h.2⟩
 |fuel+1,_,_,_,e,d,h=>⟨λj=>g _ _ e d (h.1 j),λi m=>VW (f i) e d (λb0 b h1 k l=>IT f g fuel _ b0 b h1 k l) (h.2 i m)⟩
def Ch(hm:P.follows .mixedOrders=true){N:Nat}(S:N<=8000){r:Option Nat}:∀(n:Nat) (c:Code) (Q:List Nat->Exit->Tr->bh6) (Q':Exit->Act->bh6) (D:List Nat) (T:Tr) (a:Act) (w:World),gF P N A c=true->eR D N T a->
  kd P τ ρ cz A yl N r n c Q D T w->(∀u e T' w' a',Q u e T' w'->Fr (wr c) T T'->eR u N T' a'->Q' e a' w')->c.wpIn (FW r) 0 P Q' a w:=by
 intro n;induction n with
 |zero=>intro c Q Q' D T a w _ _ h;exact h.elim
 |succ n E=>
 intro c;cases c with
 |skip=>intro Q Q' D T a w _ k h d;exact wpIn_skip (d _ _ _ _ _ h (.refl _ _) k)
 |label l=>intro Q Q' D T a w _ k h d;exact wpIn_label (d _ _ _ _ _ h (.refl _ _) k)
 |exit id=>intro Q Q' D T a w _ k h d;exact wpIn_exit (d _ _ _ _ _ h (.refl _ _) k)
 |ret=>intro Q Q' D T a w _ k h d;exact wpIn_ret (d _ _ _ _ _ h (.refl _ _) k)
 |region id ops draw=>
  intro Q Q' D T a w j k h d;unfold gF at j;simp only[dG]at j;obtain⟨⟨ho,I⟩,z⟩:=j;cases draw with
  |false=>exact wpIn_region_list (Cf S ho _ _ _ _ ho I k h (λe T' w' a' h1 F G=>d _ _ _ _ _ h1 F G))
  |true=>
   refine wpIn_region_any hm ?_;unfold kd at h;dsimp only at h;cases H:A.head id==ops.size with
   |true=>
    rw[H,hr]at h z;have ag:∀(i:Nat) o,ops[i]?=some o->∀c,o.op≠ .defer c:=λi o ae=>Ce I (by have:=ku ae;simpa using this);simp only[Region.lexB,dG]at z;have h1:=vf (Q':=λa0=>∀p:Act,a0.tmps=p.tmps->p.defers=marks D->Q' .normal p w.drew) S ho _ _ _ ho k.rel h (λT' a0 Z hf b p m V=>d _ _ _ _ _ Z hf ⟨V,by
     have:=b;exact⟨rfl,by rw[<- m];exact this.size,λt=>by rw[<- m];exact this.get t⟩⟩)
    have F:=wpAnyS_lex (md:=.any) z.1 ops.toList 0 (Array.replicate ops.size false) _ (by simp) (by simpa using z.2) h1;have G:wpAnyS P .any ops w.drew (λa0=>∀p:Act,a0.tmps=p.tmps->p.defers=marks D->Q' .normal p w.drew) ops.size (Array.replicate ops.size false) {tmps:=a.tmps,defers:=[]} :=by simpa using F
    exact IT (D:=marks D) ag (λa0 p m V ak=>ak p m V) _ _ {tmps:=a.tmps,defers:=[]} a rfl k.defers G
   |false=>
    rw[H,g8]at h;exact Cg S ho I (λe T' w' a' h1 F G=>d D e T' w' a' h1 F G) _ _ _ _ _ (Fr.refl _ _) k h
 |seq x y=>
  intro Q Q' D T a w j k h d;unfold gF at j;simp only[dG]at j;have hx:∀t,t∈wr x->t∈wr (.seq x y):=λt m=>mw _ m;have ar:∀t,t∈wr y->t∈wr (.seq x y):=λt m=>nU _ m;refine wpIn_seq (E x _ _ _ _ _ _ j.1 k h (λu e T' w' a' he hf b=>?_));cases e with
  |normal=>exact E y _ _ _ _ _ _ j.2 b he (λau e aw w2 ax aa ab ai=>d _ _ _ _ _ aa ((hf.mono hx).trans (ab.mono ar)) ai)
  |exit id=>exact d _ _ _ _ _ he (hf.mono hx) b
  |goto l=>exact d _ _ _ _ _ he (hf.mono hx) b
  |ret=>exact d _ _ _ _ _ he (hf.mono hx) b
  |panic O=>exact d _ _ _ _ _ he (hf.mono hx) b
  |outgrown=>exact d _ _ _ _ _ he (hf.mono hx) b
 |cond c x y=>
  intro Q Q' D T a w j k h d;unfold gF at j;simp only[dG]at j;unfold kd at h;dsimp only at h;split at h
  ·rename_i t m;have M:a.eval c=.bool t:=by rw[k.ev];exact m
   cases t with
   |true=>exact wpIn_cond_true M (E x _ _ _ _ _ _ j.1 k h (λu e T' w' a' he hf b=>d _ _ _ _ _ he (hf.mono (λt m=>mw _ m)) b))
   |false=>exact wpIn_cond_false M (E y _ _ _ _ _ _ j.2 k h (λu e T' w' a' he hf b=>d _ _ _ _ _ he (hf.mono (λt m=>nU _ m)) b))
  ·exact h.elim
 |block id c=>
  intro Q Q' D T a w j k h d;refine wpIn_block (E c _ _ _ _ _ _ j k h (λu e T' w' a' he hf b=>?_));cases e with
  |exit q=>
   replace he:bif Nat.beq q id then Q u .normal T' w' else Q u (.exit q) T' w':=he
   show if q=id then Q' .normal a' w' else Q' (.exit q) a' w'
   rw[jM]at he;by_cases e:q=id;·simp only[e,uQ,hr]at he;rw[bM e];exact d _ _ _ _ _ he hf b
   ·have:(q==id)=false:=by simpa using e
    rw[this,g8]at he;rw[bJ e];exact d _ _ _ _ _ he hf b
  |normal=>exact d _ _ _ _ _ he hf b
  |goto l=>exact d _ _ _ _ _ he hf b
  |ret=>exact d _ _ _ _ _ he hf b
  |panic O=>exact d _ _ _ _ _ he hf b
  |outgrown=>exact d _ _ _ _ _ he hf b
 |loop c=>
  intro Q Q' D T a w j k h d;unfold gF at j;simp only[dG]at j;obtain⟨⟨j,al⟩,af⟩:=j;unfold kd at h;dsimp only at h;refine VV (vd al) (xP af) k (λnext next' av p az B ah am ap=>?_) h;refine E c _ _ _ _ _ _ j ah am (λu e T' w' a' he hf b=>?_);cases e with
  |normal=>
   obtain⟨rfl,he⟩:=he;exact ap _ _ _ he hf b
  |exit id=>exact d _ _ _ _ _ he (B.trans hf) b
  |goto l=>exact d _ _ _ _ _ he (B.trans hf) b
  |ret=>exact d _ _ _ _ _ he (B.trans hf) b
  |panic O=>exact d _ _ _ _ _ he (B.trans hf) b
  |outgrown=>exact d _ _ _ _ _ he (B.trans hf) b
 |rangeFunc g ps assign body=>
  intro Q Q' D T a w j k h d;unfold kd at h;dsimp only at h;cases r with
  |some l=>exact h.elim
  |none=>
   obtain⟨f,fi,ca,ay,ad,has,C,J⟩:=h;subst has;refine wpIn_rangeFunc (λfn _=>?_);have an:=J fn a.tmps k.rel.size k.rel.get;unfold ky at C;split at C
   ·rename_i R W;simp only[dG,hR,uM]at C;obtain⟨X,Y⟩:=C;have K:¬ R.body=none:=by intro hx;simp[hx]at X
    refine⟨w.heap.size+1,[{target:=.collected w.heap.size,args:= #[]}],(w.alloc (.deferred (some []))).alloc (.loop (tt fn a.tmps ps assign body w.heap.size)), {target:=.fn (.func f) ca,args:=fi++ #[.func (.yield (w.heap.size+1)) #[] #[]]},(w.alloc (.deferred (some []))).alloc (.loop (tt fn a.tmps ps assign body w.heap.size)),f,fi++ #[.func (.yield (w.heap.size+1)) #[] #[]]++ca,(w.alloc (.deferred (some []))).alloc (.loop (tt fn a.tmps ps assign body w.heap.size)),run_enterLoop_outer fn a.tmps ps assign body,?_,λf' _=>trivial,?_,FW.kc (r:=none),?_⟩
    ·rw[<- k.ev]at ad;have U:a.eval (.const (.func (.yield (w.heap.size+1)) #[] #[]))=.func (.yield (w.heap.size+1)) #[] #[]:=rfl;simp[resolve,ad,U,Deferred.ofValue]
    ·simp[invoke,callFunc,W,Y,K]
    ·refine callsIn_wide.2 (Calls.mono an λe w' he=>?_);cases e with
     |panicked O=>exact he.elim
     |outgrown=>exact he.elim
     |returned v=>
      obtain⟨aj,ao,aq,he⟩:=he;refine⟨aj.pending,_,run_endLoop ao aq,?_⟩;generalize w'.putObj (w.heap.size+1) (.loop {aj with state:=.exhausted})=aA at he ⊢;have b:eR (w.heap.size::D) N T {a with defers:=[{target:=.collected w.heap.size,args:= #[]}]++a.defers} :=⟨by simp[k.defers,marks],k.rel⟩
      split at he;·next hp=>rw[hp];exact d _ _ _ _ _ he (.refl _ _) b
      ·next c' hp=>
       obtain⟨rfl,he⟩:=he;rw[hp];cases L:A.brk with
       |none=>rw[L]at he;exact wpIn_ret (d _ _ _ _ _ he (.refl _ _) b)
       |some i=>rw[L]at he;exact wpIn_exit (d _ _ _ _ _ he (.refl _ _) b)
   ·cases C
 |scope c=>intro Q Q' D T a w _ _ h _;unfold kd at h;exact h.elim
 |goto l=>intro Q Q' D T a w _ _ h _;unfold kd at h;exact h.elim
 |refuse s=>intro Q Q' D T a w _ _ h _;unfold kd at h;exact h.elim
def shut:List Nat->World->(bh6)->Prop
 |[],w,f=>f w
 |b::D,w,f=>w.heap[b]?=some (.deferred (some []))/\shut D (w.putObj b (.deferred none)) f
def VX(P:Program)(τ:TypeId->K1)(rs:List ResultVar)(K:bh7):List Nat->Exit->Tr->bh6
 |D,.normal,T,w=>shut D w λw=>ir P τ w T rs #[] λvs=>K (oneOf vs) w
 |D,.ret,T,w=>shut D w λw=>ir P τ w T rs #[] λvs=>K (oneOf vs) w
 |_,_,_,_=>False
def mV(P:Program)(τ:TypeId->K1)(ρ:TypeId->Kd)(cz:FuncId->Bool)(A:dS)(yl:Nat->Bool)(fn:Func)(args:Array Value)(K:bh7)(w:World):Prop:=
 match fn.body with
 |some c=>kd P τ ρ cz A yl fn.ntmps none 1000 c (VX P τ fn.results.toList K) [] (iQ args.toList 0 .nil) w
 |none=>False
def mW(P:Program)(A:dS)(fn:Func)(n:Nat):Bool:=match fn.body with
 |some c=>gF P fn.ntmps A c&&Nat.ble fn.ntmps 8000&&Nat.ble n fn.ntmps
 |none=>false
def IU{fn:Func}{tmps:Array Value}{R:Ending->bh6}:∀ {D:List Nat} {w:World} {f:bh6},shut D w f->(∀w',f w'->LeavesIn Fence.wide 0 P fn tmps R [] .returning w')->LeavesInM Fence.wide 0 P fn tmps R (marks D) .returning w
 |[],w,f,h,hf=>hf w h
 |b::D,w,f,h,hf=>⟨by simp,.inl ⟨b,_,rfl,run_takeDeferred h.1,IU h.2 hf⟩⟩
def oh{g:FuncId}{fn:Func}{args:Array Value}{w:World}{K:bh7}(hm:P.follows .mixedOrders=true)(hf:P.funcs[g]?=some fn)(a:mW P A fn args.size=true)(h:mV P τ ρ cz A yl fn args K w):Calls P g args w (bW K):=by
 unfold mV at h;unfold mW at a;split at h
 ·rename_i c f;rw[f]at a;simp only[dG]at a;obtain⟨⟨a,k⟩,m⟩:=a;have b:fn.ntmps<=8000:=by simpa using k
  have i:args.size<=fn.ntmps:=by simpa using m
  refine(callsIn_wide (n:=0)).1 (callsIn_of_wp_marks (F:=Fence.wide) hf f trivial ?_);refine Ch (r:=none) hm b 1000 c _ _ _ _ _ _ a (eR.of (Rel.init b i)) h (λD e T' w' a' he _ j=>?_);have key:(shut D w' λw=>ir P τ w T' fn.results.toList #[] λvs=>K (oneOf vs) w)->LeavesInM Fence.wide 0 P fn a'.tmps (bW K) a'.defers .returning w':=λh=>by
   rw[j.defers];refine IU h (λw2 d=>?_);obtain⟨vs,h1,d⟩:=BN j.rel d;exact⟨_,h1,_,rfl,d⟩
  cases e with
  |normal=>exact key he
  |ret=>exact key he
  |panic o=>exact he.elim
  |exit id=>exact he.elim
  |goto l=>exact he.elim
  |outgrown=>exact he.elim
 ·exact h.elim
def kU(l:Nat)(f:bh6)(W:World):Prop:=∃r:Loop,W.heap[l]?=some (.loop r)/\r.state=.ready/\f (W.putObj l (.loop {r with state:=.busy}))
def e0(l:Nat)(j:Option Code)(R:Ending->bh6)(W:World):Prop:=
 ∃r:Loop,W.heap[l]?=some (.loop r)/\R (.returned (.bool j.isNone)) (W.putObj l (.loop {r with state:=if j.isNone then .ready else .done,pending:=j}))
def ny(l:Nat)(R:Ending->bh6):List Nat->Exit->Tr->bh6
 |_,.normal,_,w=>e0 l none R w
 |_,.ret,_,w=>e0 l (some .ret) R w
 |_,.exit id,_,w=>e0 l (some (.exit id)) R w
 |_,_,_,_=>False
def ma(P:Program)(τ:TypeId->K1)(ρ:TypeId->Kd)(cz:FuncId->Bool)(A:dS)(yl:Nat->Bool)(N l:Nat)(assign body:Code)(T:Tr)(W:World)(R:Ending->bh6):Prop:=
 kd P τ ρ cz A yl N (some l) 1000 assign (λD e a b=>match e with
  |.normal=>kU l (kd P τ ρ cz A yl N (some l) 1000 body (ny l R) D a) b
  |_=>False) [] T W
def kV:Code->Option (Code×Code)
 |.rangeFunc _ _ a b=>some (a,b)
 |.seq x y=>match kV x with
  |some p=>some p
  |none=>kV y
 |.cond _ x y=>match kV x with
  |some p=>some p
  |none=>kV y
 |.block _ c=>kV c
 |_=>none
def jO(c:Option Code):Code:=((c.bind kV).map (·.1)).getD .skip
def jP(c:Option Code):Code:=((c.bind kV).map (·.2)).getD .skip
noncomputable def kW:List (Tmp×Value)->Tr->Tr
 |[],T=>T
 |(t,v)::l,T=>kW l (T.put (some t) v)
def VY{l N:Nat}{r:Loop}{args:Array Value}{T:Tr}{W:World}{R:Ending->bh6}(hm:P.follows .mixedOrders=true)(k:N<=8000)(H:W.heap[l]?=some (.loop r))(C:args.size=r.params.size)(w:r.tmps.size=N)(j:rN T r.tmps)(y:∀t∈r.params.toList,t<N)(m:gF P N A r.assign=true)(n:gF P N A r.body=true)(h:ma P τ ρ cz A yl N l r.assign r.body (kW (r.params.zip args).toList T) W R):YieldAt Fence.wide 0 P l args W R:=by
 refine⟨_,_,_,_,run_yield H C,roundIn_of_wpIn trivial ?_⟩;have o:∀(ps:List (Tmp×Value)) (g:Array Value) (T:Tr),(∀p∈ps,p.1<N)->g.size=N->rN T g->
   eR [] N (kW ps T) {tmps:=ps.foldl (λtmps (p:Tmp×Value)=>tmps.setIfInBounds p.1 p.2) g,defers:=[]} :=by
  intro ps;induction ps with
  |nil=>intro g T _ s j;exact⟨rfl,⟨rfl,s,j⟩⟩
  |cons p ps K=>
   intro g T hp s j;have h1:eR [] N T {tmps:=g,defers:=[]} :=⟨rfl,⟨rfl,s,j⟩⟩
   have v:=h1.put k (d:=some p.1) (λt J=>by cases J;exact hp p (fj ..)) p.2;exact K _ _ (λq I=>hp q (fI _ I)) v.rel.size v.rel.get
 have u:=o (r.params.zip args).toList r.tmps T (λp hp=>y p.1 (by
  rw[Array.toList_zip]at hp;exact(List.of_mem_zip (a:=p.1) (b:=p.2) hp).1)) w j
 have hf:(r.params.zip args).foldl (λtmps (p:Tmp×Value)=>tmps.setIfInBounds p.1 p.2) r.tmps=(r.params.zip args).toList.foldl (λtmps (p:Tmp×Value)=>tmps.setIfInBounds p.1 p.2) r.tmps:=by
  rw[Array.foldl_toList]
 rw[<- hf]at u;refine Ch (r:=some l) hm k 1000 _ _ _ _ _ _ _ m u h (λD e O S V he L z=>?_);cases e with
 |normal=>
  obtain⟨Y,x,B,he⟩:=he;refine⟨_,run_beginRound x B,?_⟩;refine Ch (r:=some l) hm k 1000 _ _ _ _ _ _ _ n z he (λM G Q U X c _ _=>?_);cases G with
  |normal=>obtain⟨E,f,i⟩:=c;exact⟨_,_,run_endRound none f,i⟩
  |ret=>obtain⟨E,f,i⟩:=c;exact⟨_,_,run_endRound (some .ret) f,i⟩
  |exit id=>obtain⟨E,f,i⟩:=c;exact⟨_,_,run_endRound (some (.exit id)) f,i⟩
  |goto t=>exact c.elim
  |panic F=>exact c.elim
  |outgrown=>exact c.elim
 |exit id=>exact he.elim
 |goto t=>exact he.elim
 |ret=>exact he.elim
 |panic F=>exact he.elim
 |outgrown=>exact he.elim
end
end Go.Vc
namespace Go.Mp
open Go Go.Vc
noncomputable abbrev P:Program:=Go.Proofs.Tryz.prog
abbrev hb:TypeId:=3
abbrev vv:TypeId:=4
abbrev VZ:TypeId:=5
abbrev Ci:TypeId:=9
abbrev jB:TypeId:=22
abbrev tu:TypeId:=28
abbrev tv:TypeId:=35
abbrev V0:TypeId:=39
abbrev yf:TypeId:=54
abbrev yg:TypeId:=60
abbrev V3:TypeId:=69
abbrev Cj:TypeId:=81
abbrev tw:TypeId:=82
abbrev Ck:TypeId:=84
abbrev V4:TypeId:=97
abbrev V5:TypeId:=109
abbrev IV:TypeId:=117
abbrev V6:TypeId:=137
abbrev Cl:TypeId:=140
abbrev V7:TypeId:=179
abbrev IW:TypeId:=190
abbrev lE:TypeId:=194
abbrev yh:TypeId:=239
abbrev yi:TypeId:=245
abbrev tx:TypeId:=272
abbrev IX:TypeId:=276
abbrev yj:TypeId:=297
abbrev acl:FuncId:=17
abbrev rO:FuncId:=18
abbrev om:FuncId:=19
abbrev nz:FuncId:=20
abbrev iz:FuncId:=21
abbrev o1:FuncId:=23
abbrev nA:FuncId:=24
abbrev IY:FuncId:=27
abbrev rP:FuncId:=28
abbrev tz:FuncId:=29
abbrev tA:FuncId:=30
abbrev Cm:FuncId:=34
abbrev yk:FuncId:=35
abbrev IZ:FuncId:=36
abbrev I0:FuncId:=37
abbrev I1:FuncId:=38
abbrev vw:FuncId:=39
abbrev Cn:FuncId:=40
abbrev pU:FuncId:=41
abbrev pV:FuncId:=43
abbrev Co:FuncId:=44
abbrev vx:FuncId:=45
abbrev Cp:FuncId:=46
abbrev Cq:FuncId:=47
abbrev Cr:FuncId:=48
abbrev Ct:FuncId:=49
abbrev Cu:FuncId:=50
abbrev ym:FuncId:=51
abbrev yn:FuncId:=52
abbrev yo:FuncId:=53
abbrev yp:FuncId:=54
abbrev yq:FuncId:=55
abbrev yr:FuncId:=56
abbrev ys:FuncId:=57
abbrev yt:FuncId:=58
abbrev yu:FuncId:=59
abbrev yv:FuncId:=60
abbrev yw:FuncId:=61
abbrev yx:FuncId:=62
abbrev yy:FuncId:=63
abbrev yz:FuncId:=64
abbrev I2:FuncId:=65
abbrev yA:FuncId:=66
abbrev Cv:FuncId:=67
abbrev yB:FuncId:=68
abbrev tB:FuncId:=69
abbrev Cw:FuncId:=70
abbrev yC:FuncId:=72
abbrev Cx:FuncId:=73
abbrev I3:FuncId:=74
abbrev I4:FuncId:=75
abbrev I5:FuncId:=76
abbrev yD:FuncId:=77
abbrev I6:FuncId:=78
abbrev jR:FuncId:=79
abbrev I7:FuncId:=80
abbrev I8:FuncId:=81
abbrev Cy:FuncId:=82
abbrev I9:FuncId:=83
abbrev Ja:FuncId:=84
abbrev Jb:FuncId:=85
abbrev Cz:FuncId:=86
abbrev yE:FuncId:=87
abbrev yF:FuncId:=88
abbrev Jc:FuncId:=89
abbrev Jd:FuncId:=90
abbrev CA:FuncId:=91
abbrev CB:FuncId:=92
abbrev CC:FuncId:=93
abbrev CD:FuncId:=94
abbrev Je:FuncId:=95
abbrev CE:FuncId:=96
abbrev Jf:FuncId:=97
abbrev Jg:FuncId:=98
abbrev Jh:FuncId:=99
abbrev Ji:FuncId:=100
abbrev Jj:FuncId:=101
abbrev vy:FuncId:=102
abbrev oo:FuncId:=103
abbrev yG:FuncId:=105
abbrev tC:FuncId:=106
abbrev CF:FuncId:=107
abbrev Jk:FuncId:=109
abbrev tD:FuncId:=110
abbrev Jl:FuncId:=111
abbrev Jm:FuncId:=112
abbrev Jn:FuncId:=113
abbrev Jo:FuncId:=114
abbrev Jp:FuncId:=115
abbrev CG:FuncId:=116
abbrev Jq:FuncId:=117
abbrev tE:FuncId:=118
abbrev CH:FuncId:=119
abbrev yH:FuncId:=120
abbrev tF:FuncId:=121
abbrev Jr:FuncId:=122
abbrev rQ:FuncId:=123
abbrev vz:FuncId:=124
abbrev vA:FuncId:=125
abbrev Js:FuncId:=126
abbrev Jt:FuncId:=127
abbrev yI:FuncId:=128
abbrev tG:FuncId:=129
abbrev CI:FuncId:=130
abbrev Ju:FuncId:=131
abbrev Jv:FuncId:=132
abbrev CJ:FuncId:=133
abbrev CK:FuncId:=134
abbrev Jw:FuncId:=135
abbrev CL:FuncId:=136
abbrev CM:FuncId:=137
abbrev yJ:FuncId:=138
abbrev CN:FuncId:=139
abbrev Jx:FuncId:=140
abbrev Jy:FuncId:=141
abbrev CO:FuncId:=142
abbrev CP:FuncId:=143
abbrev Jz:FuncId:=144
abbrev yK:FuncId:=145
abbrev vB:FuncId:=146
abbrev JA:FuncId:=147
abbrev CQ:FuncId:=148
abbrev JB:FuncId:=149
abbrev JC:FuncId:=150
abbrev JD:FuncId:=151
abbrev CR:FuncId:=152
abbrev JF:FuncId:=153
abbrev CS:FuncId:=154
abbrev JG:FuncId:=155
abbrev CT:FuncId:=156
abbrev rR:FuncId:=157
abbrev CU:FuncId:=158
abbrev adc:FuncId:=159
abbrev CV:FuncId:=160
abbrev yL:FuncId:=161
abbrev CW:FuncId:=164
abbrev tH:FuncId:=165
abbrev CX:FuncId:=166
abbrev CY:FuncId:=167
abbrev CZ:FuncId:=168
abbrev C0:FuncId:=169
abbrev JH:FuncId:=170
abbrev C2:FuncId:=171
abbrev JI:FuncId:=172
abbrev yM:FuncId:=173
abbrev C3:FuncId:=174
abbrev C4:FuncId:=175
abbrev JJ:FuncId:=176
abbrev C5:FuncId:=177
abbrev C6:FuncId:=178
abbrev C7:FuncId:=179
abbrev C8:FuncId:=180
abbrev C9:FuncId:=181
abbrev Da:FuncId:=182
abbrev pW:FuncId:=183
abbrev JK:FuncId:=184
abbrev JL:FuncId:=185
abbrev Db:FuncId:=186
abbrev Dc:FuncId:=187
abbrev vC:FuncId:=188
abbrev vD:FuncId:=189
abbrev yN:FuncId:=190
abbrev JM:FuncId:=191
abbrev Dd:FuncId:=192
abbrev JN:FuncId:=193
abbrev JO:FuncId:=194
abbrev JP:FuncId:=195
abbrev yO:FuncId:=196
abbrev De:FuncId:=197
abbrev Df:FuncId:=198
abbrev JQ:FuncId:=199
abbrev Dg:FuncId:=200
abbrev yP:FuncId:=201
abbrev JR:FuncId:=202
abbrev JS:FuncId:=203
abbrev Dh:FuncId:=204
abbrev Di:FuncId:=205
abbrev yQ:FuncId:=206
abbrev yR:FuncId:=207
abbrev Dj:FuncId:=208
abbrev Dk:FuncId:=209
abbrev JT:FuncId:=210
abbrev tI:FuncId:=211
abbrev JU:FuncId:=212
abbrev Dl:FuncId:=213
abbrev vF:FuncId:=214
abbrev Dm:FuncId:=215
abbrev Dn:FuncId:=216
abbrev JV:FuncId:=217
abbrev JW:FuncId:=218
abbrev Dp:FuncId:=219
abbrev Dq:FuncId:=231
abbrev Ds:FuncId:=232
abbrev Dt:FuncId:=233
abbrev Du:FuncId:=234
abbrev vG:FuncId:=235
abbrev Dv:FuncId:=236
abbrev Dw:FuncId:=237
abbrev yS:FuncId:=238
abbrev JX:FuncId:=239
abbrev JY:FuncId:=240
abbrev Dx:FuncId:=241
abbrev Dy:FuncId:=242
abbrev V8:FuncId:=243
abbrev yT:FuncId:=244
abbrev vH:FuncId:=245
abbrev JZ:FuncId:=246
abbrev Dz:FuncId:=247
abbrev J0:FuncId:=248
abbrev DA:FuncId:=249
abbrev J1:FuncId:=250
abbrev J2:FuncId:=251
abbrev J3:FuncId:=252
abbrev J4:FuncId:=253
abbrev J5:FuncId:=254
abbrev J6:FuncId:=255
abbrev J7:FuncId:=256
abbrev DB:FuncId:=257
abbrev J8:FuncId:=258
abbrev DC:FuncId:=259
abbrev J9:FuncId:=260
abbrev Ka:FuncId:=261
abbrev yU:FuncId:=262
abbrev DD:FuncId:=263
abbrev Kb:FuncId:=264
abbrev DE:FuncId:=265
abbrev DF:FuncId:=266
abbrev DG:FuncId:=272
abbrev vI:FuncId:=273
abbrev tJ:FuncId:=274
abbrev V9:FuncId:=275
abbrev Ke:FuncId:=276
abbrev DH:FuncId:=277
abbrev yV:FuncId:=278
abbrev Kg:FuncId:=279
abbrev Kh:FuncId:=280
abbrev tK:FuncId:=281
abbrev vJ:FuncId:=282
abbrev DI:FuncId:=283
abbrev yW:FuncId:=284
abbrev Ki:FuncId:=285
abbrev DJ:FuncId:=286
abbrev Kj:FuncId:=287
abbrev Kk:FuncId:=288
abbrev Kl:FuncId:=289
abbrev Km:FuncId:=290
abbrev DK:FuncId:=291
abbrev DL:FuncId:=292
abbrev Kn:FuncId:=293
abbrev DM:FuncId:=294
abbrev DN:FuncId:=296
abbrev vK:FuncId:=297
abbrev DO:FuncId:=298
abbrev vL:FuncId:=299
abbrev Ko:FuncId:=300
abbrev DP:FuncId:=301
abbrev DQ:FuncId:=302
abbrev Kp:FuncId:=303
abbrev Wa:FuncId:=304
abbrev Wb:FuncId:=305
abbrev Kq:FuncId:=306
abbrev Kr:FuncId:=307
abbrev Ks:FuncId:=308
abbrev yX:FuncId:=309
abbrev yY:FuncId:=310
noncomputable abbrev kX:Checked:=Go.Proofs.Tryz.checked
def cm:K1:=.one .raw
def h0:K1:=.one .ptr
def lF:K1:=.one .slice
def pX:K1:=.agg [.int .i64,.int .i64]
def pY:K1:=.one .map
def rS:K1:=.one (.int .i64)
def yZ:K1:=.one (.int .u8)
def y0:K1:=.one (.int .u64)
def y1:K1:=.agg [.ptr]
def y2:K1:=.agg [.int .i64,.int .i64,.bool]
def y3:K1:=.agg [.slice]
def y4:K1:=.agg [.ptr,.ptr,.ptr,.ptr,.ptr,.ptr,.ptr,.ptr,.ptr,.ptr,.ptr,.ptr,.ptr,.ptr,.ptr,.ptr,.int .u64,.int .u64,.int .u64,.int .u64,.int .u64,.int .u64,.int .u64,.int .u64,.int .u64,.int .u64,.int .u64,.int .u64,.int .u64,.int .u64,.int .u64,.int .u64,.int .u16]
def DR:K1:=.one (.int .i32)
def Ku:K1:=.agg [.int .i64,.int .i64,.bool,.int .u8]
def Kx:K1:=.agg [.str,.int .u64]
def Ky:K1:=.agg [.int .i64,.int .i64,.slice]
def Kz:K1:=.agg [.int .i64,.int .i64,.int .i64,.int .i64,.int .i64]
def KA:K1:=.agg [.int .i64,.int .i64,.int .i64,.int .i64,.int .i64,.int .i64,.int .i64,.bool,.bool]
def KB:K1:=.agg [.ptr,.ptr,.ptr]
def KC:K1:=.agg [.ptr,.ptr,.ptr,.ptr,.ptr,.ptr,.ptr,.ptr,.ptr,.ptr,.ptr,.map,.slice,.slice]
def KD:K1:=.agg [.int .i64,.int .i64,.int .i64,.int .i64,.int .i64,.ptr,.ptr,.int .i64,.int .i64,.slice]
def KE:K1:=.agg [.int .i64,.ptr]
def KF:K1:=.agg [.int .i64,.int .i64,.int .i64,.int .i64]
def KG:K1:=.agg [.map,.map,.map,.int .i64]
def KH:K1:=.agg [.int .i64,.int .i64,.bool,.bool]
def KI:K1:=.agg [.int .i64,.bool]
def KJ:K1:=.agg [.slice,.map,.int .i64]
def KK:K1:=.agg [.int .i64,.int .i64,.int .i64,.int .i64,.int .i64,.bool]
def KL:K1:=.agg [.int .i64,.slice]
def KM:K1:=.agg [.int .i64,.int .i64,.int .i64]
def KN:K1:=.agg [.int .i64,.int .u64]
def KO:K1:=.agg [.ptr,.ptr,.ptr,.str]
def KP:K1:=.agg [.int .u64,.int .u64,.int .u32,.int .u8,.int .u8,.int .u8,.int .u8,.raw,.ptr,.int .i32,.int .i32]
def vM:List K1:=[cm,cm,rS,rS,.one .bool,yZ,yZ,Ku,Ku,.one .str,.one .str,.one .str,y0,Kx,Kx,h0,h0,h0,y1,y1,cm,DR,lF,lF,cm,cm,h0,cm,h0,cm,cm,rS,Ky,Ky,cm,rS,Kz,Kz,cm,lF,cm,y2,y2,h0,cm,cm,cm,cm,cm,cm,cm,cm,cm,pX,pX,rS,KA,KA,cm,cm,lF,cm,h0,cm,cm,cm,cm,cm,cm,lF,.agg [.ptr,.slice],.agg [.ptr,.slice],h0,h0,h0,KB,KB,h0,h0,h0,h0,pY,lF,KC,KC,cm,pY,cm,cm,pY,cm,h0,KD,KD,KE,KE,cm,lF,y3,y3,cm,cm,cm,cm,cm,cm,KF,KF,cm,lF,h0,.agg [.slice,.ptr],.agg [.slice,.ptr],cm,cm,cm,cm,pY,h0,pY,pY,KG,KG,rS,KH,KH,cm,cm,h0,y1,y1,cm,KI,KI,cm,cm,cm,pY,KJ,KJ,pY,.agg [.map],.agg [.map],pX,pX,cm,cm,cm,cm,cm,cm,cm,cm,cm,cm,cm,cm,cm,cm,cm,cm,KK,KK,cm,cm,cm,cm,cm,cm,cm,cm,cm,cm,cm,y0,cm,cm,cm,cm,lF,KL,KL,cm,cm,cm,lF,y3,y3,y2,y2,.agg [.ptr,.ptr],cm,h0,cm,lF,cm,cm,cm,cm,cm,cm,cm,y0,cm,cm,cm,cm,cm,cm,cm,cm,cm,cm,cm,cm,cm,cm,cm,cm,cm,h0,.agg [.ptr,.ptr,.ptr,.ptr,.ptr,.ptr,.ptr,.ptr,.ptr,.ptr,.ptr,.ptr,.ptr,.ptr,.ptr,.ptr],.arr 16 .u64,.one (.int .u16),y4,y4,y4,y4,cm,cm,cm,cm,cm,cm,cm,cm,cm,cm,pX,pX,cm,cm,cm,cm,cm,lF,KM,KM,cm,cm,cm,cm,cm,cm,cm,cm,cm,cm,cm,cm,cm,cm,cm,cm,cm,cm,h0,cm,cm,cm,cm,cm,lF,cm,cm,pX,pX,cm,rS,cm,cm,cm,cm,cm,cm,.one (.int .u32),cm,cm,cm,.agg [.bool,.bool,.bool,.bool,.bool,.bool,.bool,.bool,.bool,.bool,.bool,.bool,.bool,.bool,.bool,.bool,.bool,.bool,.bool,.bool,.bool,.bool,.bool,.bool,.bool,.bool,.bool,.bool,.bool,.bool,.bool,.bool,.bool,.bool,.bool,.bool,.bool,.bool,.bool,.bool,.bool,.bool,.bool,.bool,.bool,.bool,.bool,.bool,.bool,.bool,.bool,.bool,.bool,.bool,.bool,.bool,.bool,.bool,.bool,.bool,.bool,.bool,.bool,.bool],cm,cm,cm,cm,cm,cm,cm,lF,cm,cm,cm,KN,KN,cm,cm,cm,cm,cm,cm,cm,cm,cm,cm,cm,cm,cm,cm,cm,.arr 16 .u8,.arr 16 .u8,cm,cm,y0,cm,cm,cm,h0,cm,cm,cm,cm,cm,cm,cm,cm,cm,cm,cm,cm,cm,cm,cm,cm,cm,cm,h0,cm,cm,cm,cm,cm,cm,h0,cm,cm,.arr 64 .u8,cm,KO,KO,.agg [],.agg [],.agg [],yZ,yZ,cm,h0,DR,DR,KP,KP,cm]
def fD(t:TypeId):K1:=vM.getD t (.one .raw)
def DS:Kd:=.iN [.one (.int .i64),.one (.int .i64)]
def KQ:Kd:=.iN [.one .slice,.one (.int .i64)]
def DT:List Kd:=(vM.take 371).map .k|>.set 0 (.iN [])|>.set 58 (.iN [.agg [.int .i64,.int .i64,.int .i64,.int .i64,.int .i64,.int .i64,.int .i64,.bool,.bool],.one (.int .i64)])|>.set 65 DS|>.set 126 (.iN [.agg [.int .i64,.int .i64,.bool,.bool],.one .bool])|>.set 152 DS|>.set 164 (.iN [.one (.int .i64),.agg [.int .i64,.int .i64,.int .i64,.int .i64,.int .i64,.bool],.one .bool])|>.set 166 (.iN [.one (.int .i64),.one .bool])|>.set 168 (.iN [.one (.int .u8),.one (.int .i64)])|>.set 175 (.iN [.one (.int .u64),.one .bool])|>.set 177 (.iN [.agg [.int .i64,.int .i64,.bool,.bool],.one (.int .i64)])|>.set 199 KQ|>.set 203 (.iN [.agg [.int .i64,.int .i64,.int .i64,.int .i64,.int .i64,.bool],.one .bool])|>.set 206 (.iN [.one (.int .i64),.one (.int .i64),.one (.int .i64)])|>.set 231 KQ|>.set 261 (.iN [.one .str,.one (.int .i64)])|>.set 268 (.iN [.agg [.int .i64,.int .i64],.one .bool])|>.set 279 DS|>.set 298 (.iN [.one (.int .u64),.one (.int .u64)])|>.set 314 (.iN [.one .str,.one .bool])|>.set 316 (.iN [.one (.int .u64),.one (.int .i64)])|>.set 336 (.iN [.one (.int .i64),.one (.int .i64),.one .bool])|>.set 343 (.iN [.one (.int .i64),.one (.int .u64)])
def gG(t:TypeId):Kd:=DT.getD t (.k (.one .raw))
abbrev pe(v:Value):PanicEntry:={v:=v,recovered:=false}
def cz(f:FuncId):Bool:=[].contains f
def mixed:P.follows .mixedOrders=true:=Checked.mixed Go.Proofs.Tryz.checked
end Go.Mp
namespace Go
abbrev Iv(n:Int):Value:=.int .i64 n
abbrev Sv(s:Vc.Sl):Value:=.slice s.p s.n s.c
abbrev Pv(a:cg):Value:=.pointer a
abbrev Pb(b:Nat):Value:=.pointer (some ⟨b,0,none⟩)
end Go
namespace Go.Mp
open Go Go.Vc
def bL(A:dS){g:FuncId}{fn:Func}(args:Array Value)(K:bh7)(w:World){S:Prop}(hf:P.funcs[g]?=some fn)(h:S)(a:kP P A fn args.size=true:=by kernel_rfl)(b:j3 P fD gG cz A fn args K (λ_ _=>False) w=S:=by kernel_rfl):Calls P g args w (bW K):=
 BO mixed hf a (by rw[b];exact h)
def z8(q:List Nat:=[])(s:List (Nat×List (List Nat)×List Nat):=[])(l j:List (Nat×List (Nat×C1)):=[]):dS:={quiet:=λd=>q.contains d,sig:=λr=>s.lookup r,loop:=λr=>(l.lookup r).getD [],join:=λr=>j.lookup r}
abbrev jQ:=List.range
abbrev jZ:=C1.int .i64
def qQ(f:FuncId)(a:Array Value)(w:World)(g:Int->bh6):Prop:=Calls P f a w λe w2=>∃a0,e=.returned (Iv a0)/\g a0 w2
def qZ(w:World)(a:Addr)(n:Nat)(g:cg->Prop):Prop:=∃x,w.cell? (a.add n)=some (Pv x)/\g x
def qJ(f:FuncId)(a:Array Value)(w:World)(g:Sl->bh6):Prop:=Calls P f a w λe w2=>∃a0,e=.returned (Sv a0)/\g a0 w2
def qX(f:FuncId)(a:Array Value)(w:World)(g:Int->Int->Int->Int->Int->Int->Int->Bool->Bool->Int->bh6):Prop:=Calls P f a w λe w2=>∃a0,∃b,∃c,∃a3,∃a4,∃a5,∃d,∃h,∃i,∃a9,e=.returned (.tuple #[.agg #[Iv a0,Iv b,Iv c,Iv a3,Iv a4,Iv a5,Iv d,.bool h,.bool i],Iv a9])/\g a0 b c a3 a4 a5 d h i a9 w2
def qY(w:World)(a:Addr)(g:Int->Int->Int->Int->Int->Int->Int->Bool->Bool->Prop):Prop:=∃a0,w.cell? (a.add 0)=some (Iv a0)/\∃b,w.cell? (a.add 1)=some (Iv b)/\∃c,w.cell? (a.add 2)=some (Iv c)/\∃a3,w.cell? (a.add 3)=some (Iv a3)/\∃a4,w.cell? (a.add 4)=some (Iv a4)/\∃a5,w.cell? (a.add 5)=some (Iv a5)/\∃d,w.cell? (a.add 6)=some (Iv d)/\∃e,w.cell? (a.add 7)=some (.bool e)/\∃f,w.cell? (a.add 8)=some (.bool f)/\g a0 b c a3 a4 a5 d e f
def qV(w:World)(g:Addr->bh6):Prop:=Al (.cells #[Iv 0,Iv 0,Iv 0,Iv 0,Iv 0,Iv 0,Iv 0,.bool false,.bool false] 57) g w
def qU(l:List Value)(a:Addr)(w:World)(g:bh6):Prop:=jt l a g w
def qK(w:World)(a:Addr)(n:Nat)(g:Sl->Prop):Prop:=∃x,w.cell? (a.add n)=some (Sv x)/\g x
def qG(w:World)(a:Addr)(n:Nat)(v:Value)(g:cg->Prop):Prop:=∃x,w.cell? (a.add n)=some (Pv x)/\(Pv x)=v/\g x
def qH(f:FuncId)(a:Array Value)(w:World)(g:Int->Int->Int->Int->bh6):Prop:=Calls P f a w λe w2=>∃a0,∃b,∃c,∃a3,e=.returned (.agg #[Iv a0,Iv b,Iv c,Iv a3])/\g a0 b c a3 w2
def qN(f:FuncId)(a:Array Value)(w:World)(g:bh7):Prop:=Calls P f a w λe w2=>∃a0,e=.returned a0/\g a0 w2
def qM(w:World)(a:Addr)(n:Nat)(g:Option Nat->Prop):Prop:=∃x,w.cell? (a.add n)=some (.map x)/\g x
def qR(f:FuncId)(a:Array Value)(w:World)(g:cg->bh6):Prop:=Calls P f a w λe w2=>∃a0,e=.returned (Pv a0)/\g a0 w2
def qP(w:World)(a:Addr)(g:cg->cg->cg->Prop):Prop:=∃a0,w.cell? (a.add 0)=some (Pv a0)/\∃b,w.cell? (a.add 1)=some (Pv b)/\∃c,w.cell? (a.add 2)=some (Pv c)/\g a0 b c
def qO(a0:Int)(w:World)(g:(Int->bh6)->Int->bh6):Prop:=∃(b:Int->bh6) (M:Int->World->Nat),b a0 w/\∀_:Nat->Value,∀b0,∀w,b b0 w->g (λa v=>b a v/\M a v<M b0 w) b0 w
def qD(w:World)(a:Addr)(g:Int->Prop):Prop:=∃x,w.cell? a=some (Iv x)/\g x
def qC(a:Array Value)(w:World)(g:Addr->bh6):Prop:=Al (.cells a 3) g w
def qB(w:World)(g:Addr->bh6):Prop:=Al (.cells #[Iv 0,Iv 0,Iv 0,Iv 0,Iv 0,Iv 0,Iv 0,Iv 0,Iv 0,Iv 0,Iv 0,Iv 0,Iv 0,Iv 0,Iv 0,Iv 0,Iv 0,Iv 0,Iv 0,Iv 0,Iv 0,Iv 0,Iv 0,Iv 0,Iv 0,Iv 0,Iv 0,Iv 0,Iv 0,Iv 0,Iv 0,Iv 0,Iv 0,Iv 0,Iv 0,Iv 0,Iv 0,Iv 0,Iv 0,Iv 0,Iv 0,Iv 0,Iv 0,Iv 0,Iv 0,Iv 0,Iv 0,Iv 0,Iv 0,Iv 0,Iv 0,Iv 0,Iv 0,Iv 0,Iv 0,Iv 0,Iv 0,Iv 0,Iv 0,Iv 0,Iv 0,Iv 0,Iv 0,Iv 0,Iv 0,Iv 0,Iv 0,Iv 0,Iv 0,Iv 0,Iv 0,Iv 0,Iv 0,Iv 0,Iv 0,Iv 0,Iv 0,Iv 0,Iv 0,Iv 0,Iv 0,Iv 0,Iv 0,Iv 0,Iv 0,Iv 0,Iv 0,Iv 0,Iv 0,Iv 0,Iv 0,Iv 0,Iv 0,Iv 0,Iv 0,Iv 0,Iv 0,Iv 0,Iv 0,Iv 0,Iv 0,Iv 0,Iv 0,Iv 0,Iv 0,Iv 0,Iv 0,Iv 0,Iv 0,Iv 0,Iv 0,Iv 0,Iv 0,Iv 0,Iv 0,Iv 0,Iv 0,Iv 0,Iv 0,Iv 0,Iv 0,Iv 0,Iv 0,Iv 0,Iv 0,Iv 0,Iv 0,Iv 0] 147) g w
def qF(f:FuncId)(a:Array Value)(w:World)(g:Bool->bh6):Prop:=Calls P f a w λe w2=>∃a0,e=.returned (.bool a0)/\g a0 w2
def qA(w:World)(a:Addr)(g:Int->Int->Int->Int->Prop):Prop:=∃a0,w.cell? (a.add 0)=some (Iv a0)/\∃b,w.cell? (a.add 1)=some (Iv b)/\∃c,w.cell? (a.add 2)=some (Iv c)/\∃a3,w.cell? (a.add 3)=some (Iv a3)/\g a0 b c a3
def qE(f:FuncId)(a:Array Value)(w:World)(g:bh6):Prop:=Calls P f a w λe w2=>e=.returned (.tuple #[])/\g w2
def qL(w:World)(a:Addr)(n:Nat)(g:Int->Prop):Prop:=∃x,w.cell? (a.add n)=some (Iv x)/\g x
def qI(a0 d:Int)(w:World)(g:(Int->Int->bh6)->Int->Int->bh6):Prop:=∃(c:Int->Int->bh6) (M:Int->Int->World->Nat),c a0 d w/\∀_:Nat->Value,∀b0 b1,∀w,c b0 b1 w->g (λa b v=>c a b v/\M a b v<M b0 b1 w) b0 b1 w
def qW(l:Sl)(i:Int)(k:Nat)(g:Addr->Prop):Prop:=cx l.p l.n i k g
def qz(w:World)(g:Addr->bh6):Prop:=Al (.cells #[Iv 0,Iv 0,Iv 0,Iv 0,Iv 0,Iv 0,Iv 0,Iv 0,Iv 0,Iv 0,Iv 0,Iv 0,Iv 0,Iv 0,Iv 0,Iv 0,Iv 0,Iv 0,Iv 0,Iv 0,Iv 0,Iv 0,Iv 0,Iv 0,Iv 0,Iv 0,Iv 0,Iv 0,Iv 0,Iv 0,Iv 0,Iv 0,Iv 0,Iv 0,Iv 0,Iv 0,Iv 0,Iv 0,Iv 0,Iv 0,Iv 0,Iv 0,Iv 0,Iv 0,Iv 0,Iv 0,Iv 0,Iv 0,Iv 0,Iv 0,Iv 0,Iv 0,Iv 0,Iv 0,Iv 0,Iv 0,Iv 0,Iv 0,Iv 0,Iv 0,Iv 0,Iv 0,Iv 0,Iv 0,Iv 0,Iv 0,Iv 0,Iv 0,Iv 0,Iv 0,Iv 0,Iv 0,Iv 0,Iv 0,Iv 0,Iv 0,Iv 0,Iv 0,Iv 0,Iv 0,Iv 0,Iv 0,Iv 0,Iv 0,Iv 0,Iv 0,Iv 0,Iv 0,Iv 0,Iv 0,Iv 0,Iv 0,Iv 0,Iv 0,Iv 0,Iv 0,Iv 0,Iv 0,Iv 0,Iv 0,Iv 0,Iv 0,Iv 0,Iv 0,Iv 0,Iv 0,Iv 0,Iv 0,Iv 0,Iv 0,Iv 0,Iv 0,Iv 0,Iv 0,Iv 0,Iv 0,Iv 0,Iv 0,Iv 0,Iv 0,Iv 0,Iv 0,Iv 0,Iv 0,Iv 0,Iv 0,Iv 0,Iv 0,Iv 0,Iv 0,Iv 0,Iv 0,Iv 0,Iv 0,Iv 0,Iv 0,Iv 0,Iv 0,Iv 0,Iv 0,Iv 0,Iv 0,Iv 0,Iv 0,Iv 0,Iv 0,Iv 0,Iv 0,Iv 0,Iv 0,Iv 0,Iv 0,Iv 0,Iv 0,Iv 0,Iv 0,Iv 0,Iv 0,Iv 0,Iv 0,Iv 0,Iv 0,Iv 0,Iv 0,Iv 0,Iv 0,Iv 0,Iv 0,Iv 0,Iv 0,Iv 0,Iv 0,Iv 0,Iv 0,Iv 0,Iv 0,Iv 0,Iv 0,Iv 0,Iv 0,Iv 0,Iv 0,Iv 0,Iv 0,Iv 0,Iv 0,Iv 0,Iv 0,Iv 0,Iv 0,Iv 0,Iv 0,Iv 0,Iv 0,Iv 0,Iv 0,Iv 0,Iv 0,Iv 0,Iv 0,Iv 0,Iv 0,Iv 0,Iv 0,Iv 0,Iv 0,Iv 0,Iv 0,Iv 0,Iv 0,Iv 0,Iv 0,Iv 0,Iv 0,Iv 0,Iv 0,Iv 0,Iv 0,Iv 0,Iv 0,Iv 0,Iv 0,Iv 0,Iv 0,Iv 0,Iv 0,Iv 0,Iv 0,Iv 0,Iv 0,Iv 0,Iv 0,Iv 0,Iv 0,Iv 0,Iv 0,Iv 0,Iv 0,Iv 0,Iv 0,Iv 0,Iv 0,Iv 0,Iv 0,Iv 0,Iv 0,Iv 0,Iv 0,Iv 0,Iv 0,Iv 0,Iv 0,Iv 0,Iv 0,Iv 0,Iv 0] 151) g w
def qj(f:FuncId)(a:Array Value)(w:World)(g:Int->Int->bh6):Prop:=Calls P f a w λe w2=>∃a0,∃b,e=.returned (.tuple #[Iv a0,Iv b])/\g a0 b w2
def qx(w:World)(g:Addr->bh6):Prop:=Al (.cells #[Iv 0,Iv 0,.bool false] 189) g w
def qy(w:World)(a:Addr)(n:Nat)(g:Bool->Prop):Prop:=∃x,w.cell? (a.add n)=some (.bool x)/\g x
def qg(f:(bh6)->Prop)(g:bh6):Prop:=∃J,f J/\∀_:Nat->Value,∀w,J w->g w
def qh(f:(Bool->bh6)->Prop)(g:Bool->bh6):Prop:=∃J,f J/\∀_:Nat->Value,∀b0 w,J b0 w->g b0 w
def qm(w:World)(a:Addr)(g:Bool->Prop):Prop:=∃x,w.cell? a=some (.bool x)/\g x
def qp(f:FuncId)(a:Array Value)(w:World)(g:Int->Bool->bh6):Prop:=Calls P f a w λe w2=>∃a0,∃b,e=.returned (.tuple #[Iv a0,.bool b])/\g a0 b w2
def qo(f:FuncId)(a:Array Value)(w:World)(g:Int->Int->bh6):Prop:=Calls P f a w λe w2=>∃a0,∃b,e=.returned (.tuple #[.int .u8 a0,Iv b])/\g a0 b w2
def qd(w:World)(g:(bh6)->bh6):Prop:=∃(a:bh6) (M:World->Nat),a w/\∀_:Nat->Value,∀w,a w->g (λv=>a v/\M v<M w) w
def qc(w:World)(a:Addr)(g:Sl->Prop):Prop:=∃x,w.cell? a=some (Sv x)/\g x
def qb(w:World)(a:Addr)(g:cg->Prop):Prop:=∃x,w.cell? a=some (Pv x)/\g x
def qf(a0:Sl)(d:Int)(w:World)(g:(Sl->Int->bh6)->Sl->Int->bh6):Prop:=∃(c:Sl->Int->bh6) (M:Sl->Int->World->Nat),c a0 d w/\∀_:Nat->Value,∀b0 b1,∀w,c b0 b1 w->g (λa b v=>c a b v/\M a b v<M b0 b1 w) b0 b1 w
def qa(w:World)(a:Addr)(g:Int->Int->Bool->Prop):Prop:=∃a0,w.cell? (a.add 0)=some (Iv a0)/\∃b,w.cell? (a.add 1)=some (Iv b)/\∃c,w.cell? (a.add 2)=some (.bool c)/\g a0 b c
def ql(w:World)(a:Addr)(g:Int->Int->Int->Prop):Prop:=∃a0,w.cell? (a.add 0)=some (Iv a0)/\∃b,w.cell? (a.add 1)=some (Iv b)/\∃c,w.cell? (a.add 2)=some (Iv c)/\g a0 b c
def qi(w:World)(g:Addr->bh6):Prop:=Al (.cells #[Iv 0,Iv 0,Iv 0] 247) g w
def qw(w:World)(g:Addr->bh6):Prop:=Al (.cells #[Iv 0,Iv 0] 239) g w
def q9(f:(Int->bh6)->Prop)(g:Int->bh6):Prop:=∃J,f J/\∀_:Nat->Value,∀b0 w,J b0 w->g b0 w
def zQ(f:FuncId)(a:Array Value)(w:World)(g:ByteArray->Int->bh6):Prop:=Calls P f a w λe w2=>∃a0,∃b,e=.returned (.tuple #[.string a0,Iv b])/\g a0 b w2
def zZ(w:World)(a:Addr)(g:Int->Int->Prop):Prop:=∃a0,w.cell? (a.add 0)=some (Iv a0)/\∃b,w.cell? (a.add 1)=some (Iv b)/\g a0 b
def zJ(f:FuncId)(a:Array Value)(w:World)(g:ByteArray->bh6):Prop:=Calls P f a w λe w2=>∃a0,e=.returned (.string a0)/\g a0 w2
def zX(f:FuncId)(a:Array Value)(w:World)(g:Int->Int->Int->bh6):Prop:=Calls P f a w λe w2=>∃a0,∃b,∃c,e=.returned (.tuple #[Iv a0,Iv b,Iv c])/\g a0 b c w2
def zY(a:Array Value)(w:World)(g:Addr->bh6):Prop:=Al (.cells a 162) g w
def zV(a0:Int)(e:Sl)(f:Int)(w:World)(g:(Int->Sl->Int->bh6)->Int->Sl->Int->bh6):Prop:=∃(d:Int->Sl->Int->bh6) (M:Int->Sl->Int->World->Nat),d a0 e f w/\∀_:Nat->Value,∀b0 b1 b2,∀w,d b0 b1 b2 w->g (λa b c v=>d a b c v/\M a b c v<M b0 b1 b2 w) b0 b1 b2 w
def zU(f:FuncId)(a:Array Value)(w:World)(g:Int->bh6):Prop:=Calls P f a w λe w2=>∃a0,e=.returned (.int .u64 a0)/\g a0 w2
def zK(w:World)(g:Addr->bh6):Prop:=Al (.cells #[.bool false,.bool false,.bool false,.bool false,.bool false,.bool false,.bool false,.bool false,.bool false,.bool false,.bool false,.bool false,.bool false,.bool false,.bool false,.bool false,.bool false,.bool false,.bool false,.bool false,.bool false,.bool false,.bool false,.bool false,.bool false,.bool false,.bool false,.bool false,.bool false,.bool false,.bool false,.bool false,.bool false,.bool false,.bool false,.bool false,.bool false,.bool false,.bool false,.bool false,.bool false,.bool false,.bool false,.bool false,.bool false,.bool false,.bool false,.bool false,.bool false,.bool false,.bool false,.bool false,.bool false,.bool false,.bool false,.bool false,.bool false,.bool false,.bool false,.bool false,.bool false,.bool false,.bool false,.bool false] 289) g w
def zG(w:World)(a:Addr)(v:Value)(g:Int->Prop):Prop:=∃x,w.cell? a=some (Iv x)/\(Iv x)=v/\g x
def zH(w:World)(a:Addr)(n:Nat)(v:Value)(g:Int->Prop):Prop:=∃x,w.cell? (a.add n)=some (Iv x)/\(Iv x)=v/\g x
def zT(a0:Sl)(e f:Int)(w:World)(g:(Sl->Int->Int->bh6)->Sl->Int->Int->bh6):Prop:=∃(d:Sl->Int->Int->bh6) (M:Sl->Int->Int->World->Nat),d a0 e f w/\∀_:Nat->Value,∀b0 b1 b2,∀w,d b0 b1 b2 w->g (λa b c v=>d a b c v/\M a b c v<M b0 b1 b2 w) b0 b1 b2 w
def zN(f:FuncId)(a:Array Value)(w:World)(g:Int->Int->bh6):Prop:=Calls P f a w λe w2=>∃a0,∃b,e=.returned (.tuple #[.int .u64 a0,.int .u64 b])/\g a0 b w2
def zM(w:World)(a:Addr)(g:Int->Int->Prop):Prop:=∃a0,w.cell? (a.add 0)=some (Iv a0)/\∃b,w.cell? (a.add 1)=some (.int .u64 b)/\g a0 b
def zS(w:World)(a:Addr)(n:Nat)(v:Value)(g:Option Nat->Prop):Prop:=∃x,w.cell? (a.add n)=some (.map x)/\(.map x)=v/\g x
def zR(w:World)(a:Addr)(g:Int->Int->Int->Int->Int->Bool->Prop):Prop:=∃a0,w.cell? (a.add 0)=some (Iv a0)/\∃b,w.cell? (a.add 1)=some (Iv b)/\∃c,w.cell? (a.add 2)=some (Iv c)/\∃a3,w.cell? (a.add 3)=some (Iv a3)/\∃a4,w.cell? (a.add 4)=some (Iv a4)/\∃a5,w.cell? (a.add 5)=some (.bool a5)/\g a0 b c a3 a4 a5
def zP(f:(Int->Int->bh6)->Prop)(g:Int->Int->bh6):Prop:=∃J,f J/\∀_:Nat->Value,∀b0 b1 w,J b0 b1 w->g b0 b1 w
def zO(f:FuncId)(a:Array Value)(w:World)(g:Int->Int->Bool->bh6):Prop:=Calls P f a w λe w2=>∃a0,∃b,∃c,e=.returned (.tuple #[Iv a0,Iv b,.bool c])/\g a0 b c w2
def zD(w:World)(g:Addr->bh6):Prop:=Al (.cells #[.int .u8 0,.int .u8 0,.int .u8 0,.int .u8 0,.int .u8 0,.int .u8 0,.int .u8 0,.int .u8 0,.int .u8 0,.int .u8 0,.int .u8 0,.int .u8 0,.int .u8 0,.int .u8 0,.int .u8 0,.int .u8 0] 318) g w
def zC(f:FuncId)(a:Array Value)(w:World)(g:Int->Int->bh6):Prop:=Calls P f a w λe w2=>∃a0,∃b,e=.returned (.tuple #[Iv a0,.int .u64 b])/\g a0 b w2
def zB(f:FuncId)(a:Array Value)(w:World)(g:Int->Int->bh6):Prop:=Calls P f a w λe w2=>∃a0,∃b,e=.returned (.tuple #[.int .u64 a0,Iv b])/\g a0 b w2
def zF(f:FuncId)(a:Array Value)(w:World)(g:Sl->Int->bh6):Prop:=Calls P f a w λe w2=>∃a0,∃b,e=.returned (.tuple #[Sv a0,Iv b])/\g a0 b w2
def zA(a0 e f:Int)(w:World)(g:(Int->Int->Int->bh6)->Int->Int->Int->bh6):Prop:=∃(d:Int->Int->Int->bh6) (M:Int->Int->Int->World->Nat),d a0 e f w/\∀_:Nat->Value,∀b0 b1 b2,∀w,d b0 b1 b2 w->g (λa b c v=>d a b c v/\M a b c v<M b0 b1 b2 w) b0 b1 b2 w
def zL(w:World)(a:Addr)(g:Int->Int->Int->Int->Int->Prop):Prop:=∃a0,w.cell? (a.add 0)=some (Iv a0)/\∃b,w.cell? (a.add 1)=some (Iv b)/\∃c,w.cell? (a.add 2)=some (Iv c)/\∃a3,w.cell? (a.add 3)=some (Iv a3)/\∃a4,w.cell? (a.add 4)=some (Iv a4)/\g a0 b c a3 a4
def zI(w:World)(a:Addr)(g:Int->Int->Sl->Prop):Prop:=∃a0,w.cell? (a.add 0)=some (Iv a0)/\∃b,w.cell? (a.add 1)=some (Iv b)/\∃c,w.cell? (a.add 2)=some (Sv c)/\g a0 b c
def zW(w:World)(g:Addr->bh6):Prop:=Al (.cells #[Iv 0,Iv 0,.slice none 0 0] 33) g w
def zq(w:World)(a:Addr)(g:Int->cg->Prop):Prop:=∃a0,w.cell? (a.add 0)=some (Iv a0)/\∃b,w.cell? (a.add 1)=some (Pv b)/\g a0 b
def zz(w:World)(g:Addr->bh6):Prop:=Al (.cells #[Iv 0,Iv 0,.bool false] 42) g w
def zx(f:FuncId)(a:Array Value)(w:World)(g:Int->Int->Sl->bh6):Prop:=Calls P f a w λe w2=>∃a0,∃b,∃c,e=.returned (.agg #[Iv a0,Iv b,Sv c])/\g a0 b c w2
def zy(f:FuncId)(a:Array Value)(w:World)(g:Int->Int->Bool->Bool->Bool->bh6):Prop:=Calls P f a w λe w2=>∃a0,∃b,∃c,∃a3,∃a4,e=.returned (.tuple #[.agg #[Iv a0,Iv b,.bool c,.bool a3],.bool a4])/\g a0 b c a3 a4 w2
def zu(w:World)(g:Addr->bh6):Prop:=Al (.cells #[Iv 0,Iv 0,.bool false,.bool false] 125) g w
def zk(f:FuncId)(a:Array Value)(w:World)(g:Int->Int->Int->Int->Int->Int->Bool->Bool->bh6):Prop:=Calls P f a w λe w2=>∃a0,∃b,∃c,∃a3,∃a4,∃a5,∃d,∃h,e=.returned (.tuple #[Iv a0,.agg #[Iv b,Iv c,Iv a3,Iv a4,Iv a5,.bool d],.bool h])/\g a0 b c a3 a4 a5 d h w2
def zg(w:World)(g:Addr->bh6):Prop:=Al (.cells #[Iv 0,Iv 0,Iv 0,Iv 0,Iv 0,.bool false] 162) g w
def zh(f:FuncId)(a:Array Value)(w:World)(g:Int->Bool->bh6):Prop:=Calls P f a w λe w2=>∃a0,∃b,e=.returned (.tuple #[.int .u64 a0,.bool b])/\g a0 b w2
def zt(f:FuncId)(a:Array Value)(w:World)(g:Int->Int->Bool->Bool->Int->bh6):Prop:=Calls P f a w λe w2=>∃a0,∃b,∃c,∃a3,∃a4,e=.returned (.tuple #[.agg #[Iv a0,Iv b,.bool c,.bool a3],Iv a4])/\g a0 b c a3 a4 w2
def zn(w:World)(a:Addr)(g:Int->Int->Bool->Bool->Prop):Prop:=∃a0,w.cell? (a.add 0)=some (Iv a0)/\∃b,w.cell? (a.add 1)=some (Iv b)/\∃c,w.cell? (a.add 2)=some (.bool c)/\∃a3,w.cell? (a.add 3)=some (.bool a3)/\g a0 b c a3
def zm(f:FuncId)(a:Array Value)(w:World)(g:Int->Int->Int->Int->Int->Bool->Bool->bh6):Prop:=Calls P f a w λe w2=>∃a0,∃b,∃c,∃a3,∃a4,∃a5,∃d,e=.returned (.tuple #[.agg #[Iv a0,Iv b,Iv c,Iv a3,Iv a4,.bool a5],.bool d])/\g a0 b c a3 a4 a5 d w2
def zo(w:World)(a:Addr)(v:Value)(g:cg->Prop):Prop:=∃x,w.cell? a=some (Pv x)/\(Pv x)=v/\g x
def zb(a0:cg)(d:Int)(w:World)(g:(cg->Int->bh6)->cg->Int->bh6):Prop:=∃(c:cg->Int->bh6) (M:cg->Int->World->Nat),c a0 d w/\∀_:Nat->Value,∀b0 b1,∀w,c b0 b1 w->g (λa b v=>c a b v/\M a b v<M b0 b1 w) b0 b1 w
def zf(f:FuncId)(a:Array Value)(w:World)(g:Int->Int->Int->Int->Int->Bool->bh6):Prop:=Calls P f a w λe w2=>∃a0,∃b,∃c,∃a3,∃a4,∃a5,e=.returned (.agg #[Iv a0,Iv b,Iv c,Iv a3,Iv a4,.bool a5])/\g a0 b c a3 a4 a5 w2
def za(w:World)(a:Addr)(n:Nat)(v:Value)(g:Bool->Prop):Prop:=∃x,w.cell? (a.add n)=some (.bool x)/\(.bool x)=v/\g x
end Go.Mp
namespace Go.Mp
open Go Go.Vc Go.Proofs
variable{K:bh7}{w:World}
variable(K w)
def KR(c:cg)(g:Int):=
 NN c λa=>qZ w (a.add 1) 2 λd=>qQ yk #[Pv d,Iv g] w λe b=>K (Iv e) b
def KS(c:cg)(g:Int):=
 NN c λa=>qZ w (a.add 4) 2 λd=>qQ yk #[Pv d,Iv g] w λe b=>K (Iv e) b
def KT(c:cg)(id:Int):=
 qV w λb w2=>NN c λa3=>qZ w2 a3 10 λu=>qX pU #[Pv u,Iv id] w2 λv x y m n o p q r s t=>qU [Iv v,Iv x,Iv y,Iv m,Iv n,Iv o,Iv p,.bool q,.bool r] b t λa=>qY a b λd e f g h i j k l=>K (.tuple #[.agg #[Iv d,Iv e,Iv f,Iv g,Iv h,Iv i,Iv j,.bool k,.bool l],Iv s]) a
def KU(c:cg):=
 NN c λa=>qZ w a 0 λb=>K (Pv b) w
def KV(c:cg)(g:Int):=
 qH Cu #[Pv c,Iv g] w λb d e f a=>K (Iv b) a
def KW(t:cg):=
 NN t λa=>qM w a 0 λd=>qN Cv #[.map d] w λe b=>qJ yA #[e] b λf c=>K (Sv f) c
def KX(t:cg)(id:Int):=
 qV w λa w2=>NN t λa3=>qM w2 a3 0 λF=>∃d:cg,gk P 117 (.map F) (Iv id) false w2 (Pv d)/\cond (!d.isNone) (NN d λE=>qY w2 E λG H I y z A B C D=>qU [Iv G,Iv H,Iv I,Iv y,Iv z,Iv A,Iv B,.bool C,.bool D] a w2 λb=>qY b a λe f g h i j k l m=>K (.tuple #[.agg #[Iv e,Iv f,Iv g,Iv h,Iv i,Iv j,Iv k,.bool l,.bool m],Iv 0]) b) (qU [Iv 0,Iv 0,Iv 0,Iv 0,Iv 0,Iv 0,Iv 0,.bool false,.bool false] a w2 λc=>qY c a λn o p q r s u v x=>K (.tuple #[.agg #[Iv n,Iv o,Iv p,Iv q,Iv r,Iv s,Iv u,.bool v,.bool x],Iv 2]) c)
def KY(t:cg)(g:Int):=
 qN Cx #[Pv t,Iv g] w λc a=>qJ yC #[c] a λd b=>K (Sv d) b
def KZ:=
 Al (.cells #[Iv (-1),.bool true] 133) (λa w2=>Al (.cells #[.slice (some a) 1 1] 99) (λb c=>K (Pv (some b)) c) w2) w
def K0(n:Int):=
 Al (.cells #[Pv none,Pv none,Pv none] 76) (λb w2=>qR I3 #[Iv n] w2 λj g=>qR I4 #[Iv n] g λk h=>qR I5 #[] h λf i=>qU [Pv j,Pv k,Pv f] b i λa=>qP a b λc d e=>K (.agg #[Pv c,Pv d,Pv e]) a) w
def K2(bP:Sl):=
 mE (λo w2=>Al (.cells #[.slice none 0 0,.map (some o),Iv 0] 139) (λd p=>((0:Int)<=(min1 ((bP.n:Nat):Int) 32)/\(min1 ((bP.n:Nat):Int) 32)<=((bP.c:Nat):Int))/\qO 0 p λn e a=>cond (decide (e<((((min1 ((bP.n:Nat):Int) 32).toNat-0):Nat):Int))) (cx (gb bP.p 0 bP.c 1) ((min1 ((bP.n:Nat):Int) 32).toNat-0) e 1 λf=>qD a f λl=>NN (some d) λg=>qK a g 0 λm=>qC #[Iv (min1 (dy l 0) 4096)] a λi j=>∃c:Sl,∃b:World,Sem.run P (Builtin.append_ #[22,22] 22 #[Sv m,.slice (some i) 1 1]) j=.ok (Sv c) b/\NN (some d) λh=>St (h.add 0) (Sv c) (λk=>(n (i64.wrap (e+1)) k)) b) (K (Pv (some d)) a)) w2) w
def K3:=
 mE (λa w2=>Al (.cells #[.map (some a)] 142) (λb c=>K (Pv (some b)) c) w2) w
def K4:=
 qB w λa w2=>K (Pv (some a)) w2
def K5:=
 mE (λa w2=>mE (λb e=>mE (λc f=>Al (.cells #[.map (some a),.map (some b),.map (some c),Iv 0] 122) (λd g=>K (Pv (some d)) g) f) e) w2) w
def K6(c:cg)(g:Int):=
 Al (.cells #[Iv 0,Iv 0,Iv 0,Iv 0] 107) (λa w2=>qF yD #[Iv g] w2 λu d=>cond (!u) (qU [Iv 0,Iv 0,Iv 0,Iv 0] a d λm=>qA m a λr s t h=>K (.agg #[Iv r,Iv s,Iv t,Iv h]) m) (NN c λe=>cx (some (e.add 0)) 64 g 4 λf=>qA d f λn o p q=>qU [Iv n,Iv o,Iv p,Iv q] a d λb=>qA b a λi j k l=>K (.agg #[Iv i,Iv j,Iv k,Iv l]) b)) w
def K7(m:cg):=
 NN m λa=>qL w a 0 λb=>K (Iv b) w
def K8(seq:Value):=
 qJ Jk #[.slice none 0 0,seq] w λb a=>K (Sv b) a
def K9(t:cg)(g:Int):=
 Al (.cells #[Pv t] 62) (λa w2=>qC #[Iv g] w2 λb c=>K (.func (.func tD) #[] #[Pv (some a),Pv (some b)]) c) w
def La(n:Int):=
 qR Jl #[Iv (min1 n 1024)] w λd b=>Al (.cells #[Pv d] 130) (λa c=>K (Pv (some a)) c) b
def Lb(n:Int):=
 ∃b:Sl,∃a:World,Sem.run P (Instr.makeSlice 185 (Iv (min1 (dy n 0) 1024)) (Iv (min1 (dy n 0) 1024))) w=.ok (Sv b) a/\Al (.cells #[Sv b] 187) (λc d=>K (Pv (some c)) d) a
def Lc:=
 qz w λb w2=>qO 0 w2 λe a d=>cond (decide (a<64)) (NN (some b) λf=>cx (some (f.add 0)) 64 a 4 λa9=>St (a9.add 1) (Iv 1099511627776) (λc=>(e (i64.wrap (a+1)) c)) d) (K (Pv (some b)) d)
def Ld(g:Int):=
 cond (decide ((0:Int)<=g)) (K (.bool (decide (g<64))) w) (K (.bool false) w)
def Le(c:cg)(parent:Int):=
 NN c λr=>qZ w r 0 λu=>qj Jm #[Pv u,Iv parent] w λq h g=>cond (h==0) (NN c λs=>qK g s 12 λv=>qx g λt m=>∃e:Sl,∃a:World,Sem.run P (Builtin.append_ #[82,82] 82 #[Sv v,.slice (some t) 1 1]) m=.ok (Sv e) a/\NN c λi=>St (i.add 12) (Sv e) (λb=>NN c λj=>qK b j 13 λp=>qC #[Iv parent] b λl n=>∃f:Sl,∃d:World,Sem.run P (Builtin.append_ #[22,22] 22 #[Sv p,.slice (some l) 1 1]) n=.ok (Sv f) d/\NN c λk=>St (k.add 13) (Sv f) (λo=>K (.tuple #[Iv q,Iv h]) o) d) a) (K (.tuple #[Iv q,Iv h]) g)
def Lf(t:cg)(g:Int):=
 cond (decide ((0:Int)<=g)) (NN t λa=>qK w a 0 λb=>cond (decide (g<((b.n:Nat):Int))) (NN t λa3=>qK w a3 0 λc=>qW c g 2 λa5=>qy w a5 1 λd=>K (.bool d) w) (K (.bool false) w)) (K (.bool false) w)
def Lg(c:cg)(g:Int):=
 NN c λI=>qZ w I 0 λL=>qQ Jn #[Pv L,Iv g] w λH u=>NN c λJ=>qZ u J 0 λM=>qQ Jo #[Pv M,Iv g] u λj l=>cond (j !=0) (K (Iv j) l) (NN c λo=>qZ l o 10 λA=>qJ Jp #[Pv A,Iv g] l λk s=>qO 0 s λm d a=>cond (decide (d<((k.n:Nat):Int))) (qW k d 1 λp=>qD a p λB=>NN c λa23=>qZ a a23 10 λC=>qQ CG #[Pv C,Iv B,Iv H] a λN t=>(m (i64.wrap (d+1)) t)) (NN c λa28=>qZ a a28 8 λD=>qQ Jq #[Pv D,Iv g,Iv H] a λO v=>Dr (λb=>NN c λq=>qZ b (q.add 1) 2 λE=>NN c λa36=>qZ b (a36.add 4) 2 λF=>qO 0 b λn e h=>cond (decide (e<2)) (∃f:cg,∃i:World,Sem.run P (Instr.index 190 (.agg #[Pv E,Pv F]) (Iv e)) h=.ok (Pv f) i/\qC #[Iv g] i λr x=>qQ yk #[Pv f,Iv g] x λG y=>qQ tE #[Pv f,.slice (some r) 1 1,Iv G] y λQ z=>(n (i64.wrap (e+1)) z)) (K (Iv 0) h)) v))
def Lh(c:cg)(g c5 n:Int):=
 qg (λt=>NN c λa4=>qZ w a4 0 λu=>qF jR #[Pv u,Iv g] w λv b=>cond (!v) (K (Iv 2) b) (cond (decide (n<0)) (K (Iv 1) b) (cond (decide (n>1099511627776)) (K (Iv 1) b) (t b)))) λw2=>NN c λa9=>qK w2 a9 12 λo=>qW o g 3 λa=>cond (c5==0) (NN (some a) λd=>St (d.add 0) (Iv n) (λi=>K (Iv 0) i) w2) (cond (c5==1) (NN (some a) λe=>St (e.add 1) (Iv n) (λj=>K (Iv 0) j) w2) (cond (c5==2) (NN c λf=>qZ w2 (f.add 1) 2 λp=>qQ CH #[Pv p,Iv g,Iv n] w2 λq k=>K (Iv q) k) (cond (c5==3) (NN c λh=>qZ w2 (h.add 4) 2 λr=>qQ CH #[Pv r,Iv g,Iv n] w2 λs l=>K (Iv s) l) (cond (c5==4) (cond (decide (n>1)) (K (Iv 1) w2) (NN (some a) λa26=>St (a26.add 2) (.bool (n==1)) (λm=>K (Iv 0) m) w2)) (K (Iv 1) w2)))))
def Li(c:cg)(target:Int):=
 NN c λl=>qZ w l 0 λn=>qJ tF #[Pv n,Iv target] w λj m=>qI 0 0 m λk n10 a b=>cond (decide (a<((j.n:Nat):Int))) (qW j a 1 λd=>qD b d λg=>NN c λe=>qZ b e 8 λh=>qQ Jr #[Pv h,Iv g] b λi f=>(k (i64.wrap (n10+i)) (i64.wrap (a+1)) f)) (K (Iv n10) b)
def Lj(c:cg)(target n:Int):=
 qg (λW=>NN c λa4=>qZ w a4 0 λX=>qF jR #[Pv X,Iv target] w λY o=>cond (!Y) (K (Iv 0) o) (cond (decide (n<1)) (K (Iv 0) o) (cond (decide (n>1000)) (K (Iv 0) o) (W o)))) λw2=>NN c λa9=>qZ w2 a9 0 λJ=>qJ tF #[Pv J,Iv target] w2 λd D=>qJ rQ #[Pv c,Iv target,(.func (.func vz) #[] #[])] D λL E=>qJ rQ #[Pv c,Iv target,(.func (.func vA) #[] #[])] E λM F=>∃k:Sl,∃s:World,Sem.run P (Instr.makeSlice 22 (Iv ((d.n:Nat):Int)) (Iv ((d.n:Nat):Int))) F=.ok (Sv k) s/\qO 0 s λp h f=>cond (decide (h<((d.n:Nat):Int))) (qW d h 1 λa27=>qD f a27 λl=>qh (λr=>qW L l 1 λa33=>qm f a33 λO=>cond (!O) (qW M l 1 λa35=>qm f a35 λQ=>r (!Q) f) (r false f)) λN i=>cond N (NN c λB=>qZ i B 8 λR=>qQ Js #[Pv R,Iv l] i λS G=>qW k h 1 λC=>St C (Iv S) (λH=>(p (i64.wrap (h+1)) H)) G) ((p (i64.wrap (h+1)) i))) (qJ Jt #[Iv n,Sv k] f λy I=>qI 0 0 I λz g a j=>cond (decide (a<((y.n:Nat):Int))) (qW y a 1 λa53=>qD j a53 λT=>qI g 0 j λq e m t=>cond (decide (m<T)) (((0:Int)<=(i64.wrap (a+1))/\(i64.wrap (a+1))<=((d.c:Nat):Int))/\((0:Int)<=a/\a<=(((i64.wrap (a+1)).toNat:Nat):Int))/\qF yI #[Pv c,Iv target,.slice (gb d.p a.toNat d.c 1) ((i64.wrap (a+1)).toNat-a.toNat) (d.c-a.toNat),.bool false] t λU u=>cond U ((q (i64.wrap (e+1)) (i64.wrap (m+1)) u)) ((q e (i64.wrap (m+1)) u))) ((z e (i64.wrap (a+1)) t))) (qO g j λA b v=>cond (decide (b<n)) (qF tG #[Pv c,Iv target] v λV x=>cond V ((A (i64.wrap (b+1)) x)) (K (Iv b) x)) (K (Iv b) v)))
def Lk(c:cg):=
 NN c λa=>qZ w a 7 λd=>qQ Jv #[Pv d] w λe b=>K (Iv e) b
def Ll(c:cg)(file:Int):=
 NN c λa=>qZ w a 7 λd=>qQ CJ #[Pv d,Iv file] w λe b=>K (Iv e) b
def Lm(c:cg)(id f:Int):=
 qp CP #[Pv c,Iv id] w λj k b=>cond (!k) (K (.tuple #[.int .u8 0,Iv 2]) b) (NN c λa5=>qZ b (a5.add 1) 1 λl=>qo Jz #[Pv l,Iv j,Iv f] b λi a d=>cond (a==0) (NN c λe=>qZ d e 8 λh=>qQ yK #[Pv h,Iv id] d λm g=>K (.tuple #[.int .u8 i,Iv a]) g) (K (.tuple #[.int .u8 i,Iv a]) d))
def Ln(c:cg)(id i b:Int):=
 qp CP #[Pv c,Iv id] w λm n d=>cond (!n) (K (Iv 2) d) (NN c λa5=>qZ d (a5.add 1) 1 λo=>qQ JD #[Pv o,Iv m,Iv i,.int .u8 b] d λf e=>cond (f==0) (NN c λg=>qZ e g 8 λk=>qQ yK #[Pv k,Iv id] e λp a=>NN c λh=>qZ a h 10 λl=>qQ CR #[Pv l,Iv id,.bool true] a λq j=>K (Iv f) j) (K (Iv f) e))
def Lo(c:cg)(id n:Int):=
 NN c λam=>qZ w am 10 λan=>qj JG #[Pv an,Iv id,Iv n] w λao o m=>qg (λal=>cond (o !=0) (K (Iv o) m) (cond (decide (ao>0)) (K (Iv o) m) (al m))) λB=>NN c λp=>qZ B p 10 λC=>qX pU #[Pv C,Iv id] B λD E F G H I J L M ap t=>qV t λa u=>qU [Iv D,Iv E,Iv F,Iv G,Iv H,Iv I,Iv J,.bool L,.bool M] a u λv=>Dr (λe=>NN c λa28=>qZ e a28 0 λN=>qL e a 4 λO=>qJ pV #[Pv N,Iv O] e λk b=>qg (λd=>qL b a 2 λl=>cond (l==1) (qY b a λP Q R S T U V W X=>qE CT #[Pv c,Iv id,.agg #[Iv P,Iv Q,Iv R,Iv S,Iv T,Iv U,Iv V,.bool W,.bool X]] b λx=>Dr (λf=>NN c λq=>qP f (q.add 1) λY Z aa=>qL f a 3 λab=>qE rR #[.agg #[Pv Y,Pv Z,Pv aa],Iv ab,Sv k] f λi=>NN c λa57=>qZ i a57 8 λad=>qQ CU #[Pv ad,Iv id] i λaq y=>d y) x) (cond (l==2) (Dr (λg=>NN c λa63=>qP g (a63.add 4) λae af ag=>qL g a 3 λah=>qE rR #[.agg #[Pv ae,Pv af,Pv ag],Iv ah,Sv k] g λz=>d z) b) (d b))) λh=>NN c λr=>qZ h r 10 λai=>qQ adc #[Pv ai,Iv id,Iv 0,Iv 0] h λar j=>NN c λs=>qZ j s 10 λaj=>qQ CV #[Pv aj,Iv id] j λak A=>K (Iv ak) A) v
variable{K w}
def Wc(c g)(h:KR K w c g):=bL {} #[Pv c,Iv g] K w Tryz.func19 h
def Wd(c g)(h:KS K w c g):=bL {} #[Pv c,Iv g] K w Tryz.func20 h
def We(c id)(h:KT K w c id):=bL {} #[Pv c,Iv id] K w Tryz.func28 h
def Wf(c)(h:KU K w c):=bL {} #[Pv c] K w Tryz.func30 h
def Wg(c g)(h:KV K w c g):=bL {} #[Pv c,Iv g] K w Tryz.func35 h
def Wh(t)(h:KW K w t):=bL {} #[Pv t] K w Tryz.func39 h
def Wi(t id)(h:KX K w t id):=bL (z8 [14]) #[Pv t,Iv id] K w Tryz.func41 h
def Wj(t g)(h:KY K w t g):=bL {} #[Pv t,Iv g] K w Tryz.func43 h
def Wk(h:KZ K w):=bL {} #[] K w Tryz.func44 h
def Wl(n)(h:K0 K w n):=bL {} #[Iv n] K w Tryz.func45 h
def Wm(bP)(h:K2 K w bP):=bL (z8 [11,12,14,16,25,26,31] [] [(3,[(15,jZ)])]) #[Sv bP] K w Tryz.func46 h
def Wn(h:K3 K w):=bL {} #[] K w Tryz.func47 h
def Wo(h:K4 K w):=bL {} #[] K w Tryz.func48 h
def Wp(h:K5 K w):=bL {} #[] K w Tryz.func49 h
def Wq(c g)(h:K6 K w c g):=bL {} #[Pv c,Iv g] K w Tryz.func50 h
def Wr(m)(h:K7 K w m):=bL {} #[Pv m] K w Tryz.func70 h
def Ws(seq)(h:K8 K w seq):=bL {} #[seq] K w Tryz.func72 h
def Wt(t g)(h:K9 K w t g):=bL {} #[Pv t,Iv g] K w Tryz.func73 h
def Wu(n)(h:La K w n):=bL (z8 [4]) #[Iv n] K w Tryz.func74 h
def Wv(n)(h:Lb K w n):=bL (z8 [4,5]) #[Iv n] K w Tryz.func75 h
def Ww(h:Lc K w):=bL (z8 [6,14] [] [(3,[(5,jZ)])]) #[] K w Tryz.func76 h
def Wx(g)(h:Ld K w g):=bL (z8 [4,7]) #[Iv g] K w Tryz.func77 h
def Wy(c parent)(h:Le K w c parent):=bL (z8 [18]) #[Pv c,Iv parent] K w Tryz.func78 h
def Wz(t g)(h:Lf K w t g):=bL (z8 [6,13,14]) #[Pv t,Iv g] K w Tryz.func79 h
def WA(c g)(h:Lg K w c g):=bL {(z8 [24,32,34,44,64,73] [] [(6,[(33,jZ)]),(12,[(63,jZ)])]:dS)with head:=λr=>(bif r==11 then 12 else 0)} #[Pv c,Iv g] K w Tryz.func80 h
def WB(c g c5 n)(h:Lh K w c g c5 n):=bL (z8 [20,23,33,39,45,55,65,67,70] [] [] [(5,[])]) #[Pv c,Iv g,Iv c5,Iv n] K w Tryz.func81 h
def WC(c target)(h:Li K w c target):=bL (z8 [14,16,26,27] [] [(3,[(5,jZ),(15,jZ)])]) #[Pv c,Iv target] K w Tryz.func84 h
def WD(c target n)(h:Lj K w c target n):=bL (z8 [25,29,44,47,49,74,78,80,86,92,96,97,98,101,108] [] [(6,[(48,jZ)]),(13,[(13,jZ),(79,jZ)]),(16,[(13,jZ),(85,jZ)]),(21,[(13,jZ)])] [(3,[]),(9,[(64,.bool)])]) #[Pv c,Iv target,Iv n] K w Tryz.func85 h
def WE(c)(h:Lk K w c):=bL {} #[Pv c] K w Tryz.func89 h
def WG(c file)(h:Ll K w c file):=bL {} #[Pv c,Iv file] K w Tryz.func90 h
def WH(c id a)(h:Lm K w c id a):=bL (z8 [32]) #[Pv c,Iv id,Iv a] K w Tryz.func95 h
def WI(c id a b)(h:Ln K w c id a b):=bL (z8 [30]) #[Pv c,Iv id,Iv a,.int .u8 b] K w Tryz.func100 h
def WJ(c id n)(h:Lo K w c id n):=bL (z8 [23,26,48,68] [(5,[jQ 8],[6]),(9,[jQ 8],[7]),(12,[jQ 8],[7])] [] [(4,[]),(13,[])]) #[Pv c,Iv id,Iv n] K w Tryz.func102 h
end Go.Mp
