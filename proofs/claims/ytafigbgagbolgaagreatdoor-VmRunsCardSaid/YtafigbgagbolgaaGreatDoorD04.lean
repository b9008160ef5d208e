/- A part of the proof. -/
import Derived.Test.YtafigbgagbolgaaGreatDoorD03
import Derived.RangeFuncIn
import Derived.RangeFuncLeaves
import Derived.RangeFuncRecord
import Derived.RangeFuncCalls
import Derived.RangeFuncSeq
import Derived.Sort.LoopGhostIn
import Derived.OrdersIn
import Derived.Test.YtafigbgagbolgaaGreatDoorProg
import Derived.Test.YtafigbgagbolgaaGreatDoorChecked
set_option linter.all false
set_option maxRecDepth 100000
open Go.IntKind(i64 u64)
open Go.Proofs.Tryz
namespace Go.Kv
open Go Go.Vc Go.Sp
def RT:Nat->Type
 |0=>bA (bX Nat)
 |n+1=>bA (bX (Nat×RT n))
def hasB:bA Bool->Nat
 |[]=>0
 |b::r=>(if b then 1 else 0)+2*hasB r
def mL(ks:bA (bX Nat)):bA bH:=ks.map λk=>.pointer (k.map λb=>⟨b,0,none⟩)
def nh(ws:bA (bX Nat)):bA bH:=ws.map λx=>.int .u64 ((x.getD 0:Nat):Int)
def gF(ks ws:bA (bX Nat))(h:Nat):bA bH:=mL ks++(nh ws++[.int .u16 (h:Int)])
def dJ:bA (bX Nat):=List.replicate 16 none
def RT.vs:(n:Nat)->RT n->bA bH
 |0,ws=>gF dJ ws (hasB (List.map Option.isSome (ws:bA (bX Nat))))
 |n+1,ks=>gF (List.map (Option.map Prod.fst) (ks:bA (bX (Nat×RT n)))) dJ (hasB (List.map Option.isSome (ks:bA (bX (Nat×RT n)))))
def RT.zero:(n:Nat)->RT n
 |0=>(List.replicate 16 none:bA (bX Nat))
 |n+1=>(List.replicate 16 none:bA (bX (Nat×RT n)))
def RT.look:(n:Nat)->RT n->Nat->bX Nat
 |0,ws,p=>List.getD (ws:bA (bX Nat)) (p%16) none
 |n+1,ks,p=>match List.getD (ks:bA (bX (Nat×RT n))) (p/16^(n+1)%16) none with
  |none=>none
  |some (_,t)=>RT.look n t p
def RT.ok:(n:Nat)->RT n->Prop
 |0,ws=>List.length (ws:bA (bX Nat))=16
 |n+1,ks=>List.length (ks:bA (bX (Nat×RT n)))=16/\∀(i b:Nat) (t:RT n),List.getD (ks:bA (bX (Nat×RT n))) i none=some (b,t)->RT.ok n t
def dR:(n:Nat)->Nat->RT n->cr
 |0,b,ws=>[bD b (RT.vs 0 ws)]
 |n+1,b,ks=>bD b (RT.vs (n+1) ks)::List.flatMap (λk:bX (Nat×RT n)=>match k with|none=>[]|some (a,t)=>dR n a t) (ks:bA (bX (Nat×RT n)))
def ff(n:Nat)(k:bX (Nat×RT n)):cr:=match k with|none=>[]|some (a,t)=>dR n a t
def ko(n:Nat)(ks:bA (bX (Nat×RT n)))(d:Nat):cr:=(ks.take d).flatMap (ff n)++(ks.drop (d+1)).flatMap (ff n)
def Jb(n b:Nat)(ks:bA (bX (Nat×RT n))):dR (n+1) b ks=bD b (RT.vs (n+1) ks)::ks.flatMap (ff n):=rfl
def ta{α β:Type}{f:α->bA β}:∀ {l:bA α} {d:Nat} {x:α},l[d]?=some x->l.flatMap f=(l.take d).flatMap f++(f x++(l.drop (d+1)).flatMap f)
 |[],_,_,h=>by cases h
 |a::l,0,x,h=>by cases h;simp
 |a::l,d+1,x,h=>by
  have:=ta (f:=f) (l:=l) (d:=d) h;rw[oq,this,List.take_succ_cons,oq,List.drop_succ_cons,dp]
def RT.mb:∀n,RT.ok n (RT.zero n)
 |0=>by show(List.replicate 16 (none:bX Nat)).length=16;simp
 |n+1=>by
  refine⟨?_,λi b t h=>?_⟩;·show(List.replicate 16 (none:bX (Nat×RT n))).length=16;simp
  ·have h:List.getD (List.replicate 16 (none:bX (Nat×RT n))) i none=some (b,t):=h;rw[dC,oh]at h;split at h<;>cases h
def RT.jJ:∀(n p:Nat),RT.look n (RT.zero n) p=none
 |0,p=>by
  show(List.replicate 16 (none:bX Nat)).getD (p%16) none=none;rw[dC,oh];split<;>rfl
 |n+1,p=>by
  have:List.getD (List.replicate 16 (none:bX (Nat×RT n))) (p/16^(n+1)%16) none=none:=by
   rw[dC,oh];split<;>rfl
  show(match List.getD (List.replicate 16 (none:bX (Nat×RT n))) (p/16^(n+1)%16) none with|none=>none|some (_,t)=>RT.look n t p)=none;rw[this]
variable{E:Env}{L:cr}{w:bI}
def dR.open{n b d a:Nat}{ks:bA (bX (Nat×RT n))}{t:RT n}(hk:ks[d]?=some (some (a,t)))(h:Sep E (dR (n+1) b ks++L) w):Sep E (dR n a t++(bD b (RT.vs (n+1) ks)::(ko n ks d++L))) w:=by
 rw[Jb,ta hk]at h;refine h.perm ?_;unfold ko;show((bD b (RT.vs (n+1) ks)::(List.flatMap (ff n) (ks.take d)++(dR n a t++List.flatMap (ff n) (ks.drop (d+1)))))++L).Perm _;generalize List.flatMap (ff n) (ks.take d)=A;generalize List.flatMap (ff n) (ks.drop (d+1))=B;generalize dR n a t=C;generalize bD b (RT.vs (n+1) ks)=X;simp only[pK,dp];refine(List.Perm.cons X ?_).trans jo.symm;have:(A++(C++(B++L))).Perm (C++(A++(B++L))):=by
  have h1:=sC (B++L) (mu (l₁:=A) (l₂:=C));rwa[dp,dp]at h1
 exact this
def dR.shut{n b d a:Nat}{ks:bA (bX (Nat×RT n))}{t:RT n}(f:d<ks.length)(h:Sep E (dR n a t++(bD b (RT.vs (n+1) (ks.set d (some (a,t))))::(ko n ks d++L))) w):Sep E (dR (n+1) b (ks.set d (some (a,t)))++L) w:=by
 have hk:(ks.set d (some (a,t)))[d]?=some (some (a,t)):=jm f;rw[Jb,ta hk];have c:(ks.set d (some (a,t))).take d=ks.take d:=by rw[Ul (ec d)]
 have e:(ks.set d (some (a,t))).drop (d+1)=ks.drop (d+1):=by rw[Um bu]
 rw[c,e];refine h.perm ?_;unfold ko;show List.Perm _ ((bD b (RT.vs (n+1) (ks.set d (some (a,t))))::(List.flatMap (ff n) (ks.take d)++(dR n a t++List.flatMap (ff n) (ks.drop (d+1)))))++L);generalize List.flatMap (ff n) (ks.take d)=A;generalize List.flatMap (ff n) (ks.drop (d+1))=B;generalize dR n a t=C;generalize bD b (RT.vs (n+1) (ks.set d (some (a,t))))=X;simp only[pK,dp];refine jo.trans (List.Perm.cons X ?_);have:(C++(A++(B++L))).Perm (A++(C++(B++L))):=by
  have h1:=sC (B++L) (mu (l₁:=C) (l₂:=A));rwa[dp,dp]at h1
 exact this
def vu:∀(l:bA Bool) (d:Nat),hasB l/2^d%2=if l.getD d false then 1 else 0
 |[],d=>by simp[hasB]
 |b::r,0=>by
  simp only[hasB,Bm,Bo];cases b<;>simp<;>omega
 |b::r,d+1=>by
  have:=vu r d;rw[ry,xG,<- G6];have e:hasB (b::r)/2=hasB r:=by simp only[hasB];cases b<;>simp<;>omega
  rw[e,this];rfl
def pb:∀(l:bA Bool),hasB l<2^l.length
 |[]=>by simp[hasB]
 |b::r=>by
  have:=pb r;simp only[hasB,hN,ry];cases b<;>simp<;>omega
end Go.Kv
namespace Go.Vc
open Go
def FW:bX Nat->Fence
 |none=>Fence.wide
 |some l=>Fence.wide.inRound l
def FW.fn(r:bX Nat)(f:bj6):(FW r).fn f:=by cases r<;>exact trivial
def FW.depth(r:bX Nat):(FW r).depth=none:=by cases r<;>rfl
section
variable{P:cS}{τ:bZ->K1}{ρ:bZ->Kd}{cD:bj6->Bool}{A:dU}{yl:Nat->Bool}{n:Nat}
def FW.calls{r:bX Nat}{f:bj6}{args:cf bH}{w:bI}{R:Ending->bi9}(h:Calls P f args w R):CallsIn (FW r) n P f args w R:=by
 cases r with
 |none=>exact callsIn_wide.2 h
 |some l=>exact(callsIn_wide.2 h).inRound l
def FW.rows{r:bX Nat}{row:String}{args:cf bH}{w:bI}{R:bj0}(h:Rows P row args w R):RowsIn (FW r) n P row args w R:=by
 have h1:RowsIn Fence.wide n P row args w R:=λc cs _=>let ⟨v,w',a,s⟩:=h c cs;⟨v,w',a,stepsIn_wide.2 s⟩;cases r with
 |none=>exact h1
 |some l=>exact h1
def FW.kO{r:bX Nat}{x:Prop}:(FW r).depth.isSome=true->x:=by rw[FW.depth];intro h;cases h
def Wf{r:bX Nat}{o:Oper}{a0 a:Act}{w:bI}{K g:Act->bi9}{Q Q':Exit->Act->bi9}(l:a0.tmps=a.tmps)(i:∀c,o.op≠ .defer c)(h:o.wp P a0 w K Q)(hn:∀v w',K (a0.put o.dst v) w'->g (a.put o.dst v) w')(k:∀d w',¬ K ({a0 with defers:=d::a0.defers}.put o.dst undef) w')(hp:∀b w',Q (.panic b) a0 w'->Q' (.panic b) a w')(hl:LetsOut Q->LetsOut Q'):o.wpIn (FW r) n P a w g Q':=by
 refine⟨λf _=>FW.fn r f,?_⟩;have he:a0.eval=a.eval:=by funext x;cases x<;>simp[Act.eval,l]
 rw[Oper.semAt_eq _ _ _ i,<- he];unfold Oper.wp at h;generalize (execOp a0.eval o).run P w=res at h ⊢
 match res with
 |.ok (.value v) w'=>exact hn _ _ h
 |.ok .skip w'=>exact hn _ _ h
 |.ok (.defer d) w'=>exact absurd h (k d w')
 |.ok (.enter f args) w'=>
  refine⟨FW.kO,FW.calls (Calls.mono h λe j he=>?_)⟩;cases e with
  |returned v=>exact hn _ _ he
  |panicked b=>exact hp _ _ he
  |outgrown=>exact hl he
 |.ok (.row row args) w'=>exact⟨FW.kO,FW.rows (Rows.mono h λv j m=>hn _ _ m)⟩
 |.halt (.panic v) w'=>exact hp _ _ h
def marks(D:bA Nat):bA Deferred:=D.map λb=> {target:=.collected b,args:= #[]}
structure e2(D:bA Nat)(N:Nat)(T:Tr)(a:Act):Prop where
 defers:a.defers=marks D
 rel:Rel N T {tmps:=a.tmps,defers:=[]}
def e2.put{D:bA Nat}{N:Nat}{T:Tr}{a:Act}(h:e2 D N T a)(b:N<=8000){d:bX Nat}(c:∀t,d=some t->t<N)(v:bH):e2 D N (T.put d v) (a.put d v):=by
 have:=h.rel.put b c v;cases d with
 |none=>exact⟨h.defers,this⟩
 |some d=>exact⟨h.defers,this⟩
def e2.same{D:bA Nat}{N:Nat}{T T':Tr}{a:Act}(h:e2 D N T a)(b:∀t,T'.get t=T.get t):e2 D N T' a:=⟨h.defers,h.rel.same b⟩
def e2.ev{D:bA Nat}{N:Nat}{T:Tr}{a:Act}(h:e2 D N T a):a.eval=T.ev:=by
 rw[<- h.rel.ev];funext x;cases x<;>rfl
def e2.of{N:Nat}{T:Tr}{a:Act}(h:Rel N T a):e2 [] N T a:=⟨h.defers,⟨rfl,h.size,h.get⟩⟩
def yj(P:cS)(r:bX Nat)(g:bH)(args:cf bH)(w:bI)(R:Ending->bi9):Prop:=
 ∃l,g=.func (.yield l) #[] #[]/\YieldAt (FW r) 0 P l args w R
def vv(yl:Nat->Bool)(o:Oper):Bool:=match o.dst with|some d=>yl d|none=>false
def pc(P:cS)(τ:bZ->K1)(ρ:bZ->Kd)(cD:bj6->Bool)(A:dU)(yl:Nat->Bool)(r:bX Nat)(o:Oper)(T:Tr)(w:bI)(next:Tr->bi9)(Q:Exit->Tr->bi9):Prop:=
 bif vv yl o then(match o.op with
  |.call {callee:=.value g,args,.. } =>yj P r (T.ev g) (args.map T.ev) w λe w'=>(ρ o.type).ex λv=>e=.returned v/\next (T.put o.dst v) w'
  |_=>False)
 else nD P τ ρ cD A o T w next Q
def yk(P:cS)(τ:bZ->K1)(ρ:bZ->Kd)(cD:bj6->Bool)(A:dU)(yl:Nat->Bool)(r:bX Nat)(ops:cf Oper)(Q:Exit->Tr->bi9):bA Oper->Tr->bi9
 |[],T,w=>Q .normal T w
 |o::rest,T,w=>kF ops o T (λT=>pc P τ ρ cD A yl r o T w (yk P τ ρ cD A yl r ops Q rest) Q) (λT=>yk P τ ρ cD A yl r ops Q rest (T.put o.dst undef) w)
def td(P:cS)(τ:bZ->K1)(ρ:bZ->Kd)(cD:bj6->Bool)(A:dU)(yl:Nat->Bool)(r:bX Nat)(ops:cf Oper)(Q:Exit->Tr->bi9):Nat->cf Bool->Tr->bi9
 |0,listed,T,w=>match Region.ready .any ops listed with
  |[]=>Q .normal T w
  |_=>False
 |fuel+1,listed,T,w=>match Region.ready .any ops listed with
  |[]=>Q .normal T w
  |i::l=>u4 (λi=>match ops[i]? with
   |none=>False
   |some o=>kF ops o T (λT=>pc P τ ρ cD A yl r o T w (td P τ ρ cD A yl r ops Q fuel (listed.setIfInBounds i true)) Q) (λT=>td P τ ρ cD A yl r ops Q fuel (listed.setIfInBounds i true) (T.put o.dst undef) w)) (i::l)
def Wg(b:Nat)(c:Code)(done ret:bi9):Ending->bi9
 |.returned _,w=>∃r:Loop,w.heap[b+1]?=some (.loop r)/\r.state≠ .busy/\(match r.pending with
  |none=>done (w.putObj (b+1) (.loop {r with state:=.exhausted}))
  |some c'=>c'=c/\ret (w.putObj (b+1) (.loop {r with state:=.exhausted})))
 |_,_=>False
def te(fn:bj6)(a:cf bH)(ps:cf Tmp)(assign body:Code)(b:Nat):Loop:={state:=.ready,pending:=none,fn,tmps:=a,params:=ps,assign,body,defers:=b}
def rV(T:Tr)(a:cf bH):Prop:=∀t,a.getD t undef=T.get t
def iJ(P:cS)(N:Nat)(g:bH)(ps:cf Tmp)(assign body c:Code)(T:Tr)(w:bI)(done ret:Nat->bi9):Prop:=
 ∃(f:bj6) (fi ca b:cf bH),g=.func (.func f) fi ca/\b=fi++ #[.func (.yield (w.heap.size+1)) #[] #[]]++ca/\k6 P f=true/\∀(fn:bj6) (a:cf bH),a.size=N->rV T a->
  Calls P f b ((w.alloc (.deferred (some []))).alloc (.loop (te fn a ps assign body w.heap.size))) (Wg w.heap.size c (done w.heap.size) (ret w.heap.size))
def Cq:bX Nat->Code
 |none=>.ret
 |some i=>.exit i
def Cr:bX Nat->Exit
 |none=>.ret
 |some i=>.exit i
def Jc(next:bA Nat->Tr->bi9)(Q:bA Nat->Exit->Tr->bi9):bA Nat->Exit->Tr->bi9
 |D,.normal,T,w=>next D T w
 |D,e,T,w=>Q D e T w
def Wh(id:Nat)(Q:bA Nat->Exit->Tr->bi9):bA Nat->Exit->Tr->bi9
 |D,.exit a,T,w=>bif Nat.beq a id then Q D .normal T w else Q D (.exit a) T w
 |D,e,T,w=>Q D e T w
def kP(P:cS)(τ:bZ->K1)(ρ:bZ->Kd)(cD:bj6->Bool)(A:dU)(yl:Nat->Bool)(N:Nat)(r:bX Nat):Nat->Code->(bA Nat->Exit->Tr->bi9)->bA Nat->Tr->bi9
 |0,_,_,_,_,_=>False
 |n+1,c,Q,D,T,w=>match c with
  |.skip=>Q D .normal T w
  |.label _=>Q D .normal T w
  |.exit id=>Q D (.exit id) T w
  |.ret=>Q D .ret T w
  |.region id ops draw=>match draw with
   |false=>yk P τ ρ cD A yl r ops (Q D) ops.toList T w
   |true=>bif A.head id==ops.size then Dr (λw'=>u3 P τ ρ ops w' (λT'=>Q D .normal T' w') ops.toList T) w else Dr (λw'=>td P τ ρ cD A yl r ops (Q D) ops.size (Array.replicate ops.size false) T w') w
  |.seq x y=>kP P τ ρ cD A yl N r n x (Jc (λD T w=>kP P τ ρ cD A yl N r n y Q D T w) Q) D T w
  |.cond c x y=>match T.ev c with
   |.bool t=>bif t then kP P τ ρ cD A yl N r n x Q D T w else kP P τ ρ cD A yl N r n y Q D T w
   |_=>False
  |.block id c=>kP P τ ρ cD A yl N r n c (Wh id Q) D T w
  |.loop c=>xQ (A.loop ((mC c).getD 0)) (wr c) (λnext=>kP P τ ρ cD A yl N r n c (Jc (λa T w=>a=D/\next T w) Q) D) T w
  |.rangeFunc g ps assign body=>match r with
   |none=>iJ P N (T.ev g) ps assign body (Cq A.brk) T w (λb w'=>Q (b::D) .normal T w') (λb w'=>Q (b::D) (Cr A.brk) T w')
   |some _=>False
  |_=>False
def gY(P:cS)(N:Nat)(A:dU):Code->Bool
 |.region id ops _=>(hi P N ops.toList&&ops.toList.all λo=>match o.op with | .defer _=>false|_=>true)&&(bif A.head id==ops.size then Region.lexB .any ops else true)
 |.seq x y=>gY P N A x&&gY P N A y
 |.cond _ x y=>gY P N A x&&gY P N A y
 |.block _ c=>gY P N A c
 |.loop c=>gY P N A c&&okW c&&nH (A.loop ((mC c).getD 0))
 |_=>true
def Jd{D:bA Nat}{r:bX Nat}{N:Nat}{o:Oper}{T:Tr}{a:Act}{w:bI}{next:Tr->bi9}{next':Act->bi9}{Q:Exit->Tr->bi9}{Q':Exit->Act->bi9}(hr:e2 D N T a)(z:∀s d x,o.op=.convert s d x->(P.underlying s).isSome=true)(q:∀c,o.op≠ .defer c)(h:pc P τ ρ cD A yl r o T w next Q)(hn:∀v w',next (T.put o.dst v) w'->next' (a.put o.dst v) w')(hp:∀m w',Q (.panic m) T w'->Q' (.panic m) a w'):o.wpIn (FW r) 0 P a w next' Q':=by
 unfold pc at h;cases u:vv yl o with
 |true=>
  rw[u,hU]at h;split at h
  ·rename_i g args ts ho;obtain⟨l,t,fn,tmps,assign,body,p,n⟩:=h;refine⟨λf _=>FW.fn r f,?_⟩;rw[<- hr.ev]at t p;have he:(execOp a.eval o).run P w=.ok (.round l fn tmps assign body) w:=by
    simp only[execOp,ho,resolve,t,Deferred.ofValue,Sem.run_bind,Sem.run_pure,Result.andThen,invoke];simpa using p
   rw[Oper.semAt_eq _ _ _ q,he];refine⟨FW.kO,n.mono λe w' he=>?_⟩;obtain⟨v,rfl,j⟩:=Kd.e5 he;exact hn _ _ j
  ·exact h.elim
 |false=>
  rw[u,hF]at h;have:=xV (next':=λb w'=>∃v,b= {tmps:=(a.put o.dst v).tmps,defers:=[]} /\next (T.put o.dst v) w') (Q':=λe _ w'=>match e with | .panic m=>Q (.panic m) T w' | _=>False) hr.rel z h
   (λv w' j=>⟨v,by cases o.dst<;>rfl,j⟩) (λm w' h=>h)
  refine Wf (a0:={tmps:=a.tmps,defers:=[]}) rfl q this (λv w' j=>?_) (λd w' B=>?_) (λm w' h=>hp _ _ h) (λ⟨_,_,h⟩=>h.elim)
  ·obtain⟨y,k,j⟩:=j;have e:a.put o.dst v=a.put o.dst y:=by
    cases i:o.dst with
    |none=>rfl
    |some d=>
     rw[i]at k;have:=eO Act.tmps k;simp only[Act.put]at this ⊢;rw[this]
   rw[e];exact hn _ _ j
  ·obtain⟨y,k,_⟩:=B;have:=eO Act.defers k;cases i:o.dst with
   |none=>rw[i]at this;cases this
   |some d=>rw[i]at this;cases this
def Ct{l:bA Oper}(h:(l.all λo=>match o.op with | .defer _=>false|_=>true)=true){o:Oper}(ho:o∈l):∀c,o.op≠ .defer c:=by
 intro c e;have:=fM.1 h o ho;rw[e]at this;cases this
def Je{D:bA Nat}{N:Nat}{ops:cf Oper}{o:Oper}{T:Tr}{a:Act}{yes no:Tr->Prop}{B:Prop}(c:N<=8000)(b:hi P N ops.toList=true)(hr:e2 D N T a)(h:kF ops o T yes no)(d:∀T',(∀t,T'.get t=T.get t)->yes T'->Region.wanted o (yielded ops a.tmps)=true->B)(hn:∀T',(∀t,T'.get t=T.get t)->no T'->Region.wanted o (yielded ops a.tmps)=false->B):B:=
 pV (B:=B) c b hr.rel h d hn
def Cu{D:bA Nat}{r:bX Nat}{N:Nat}(i:N<=8000){ops:cf Oper}(d:hi P N ops.toList=true){Q:Exit->Tr->bi9}{Q':Exit->Act->bi9}:∀(l:bA Oper) (T:Tr) (a:Act) (w:bI),
  hi P N l=true->(l.all λo=>match o.op with | .defer _=>false|_=>true)=true->e2 D N T a->
  yk P τ ρ cD A yl r ops Q l T w->(∀e T' w' a',Q e T' w'->Fr (eS l) T T'->e2 D N T' a'->Q' e a' w')->wpListIn (FW r) 0 P ops Q' l a w
 |[],T,a,w,_,_,hr,h,q=>q _ _ _ _ h (.refl _ _) hr
 |o::l,T,a,w,n,j,hr,h,q=>by
  have p:=xU n;have k:(l.all λo=>match o.op with | .defer _=>false|_=>true)=true:=by rw[Bl,dF]at j;exact j.2
  have G:=o1 n (fS (a:=o) (l:=l));have c:=mD n (fS (a:=o) (l:=l));have F:=Ct j (fS (a:=o) (l:=l));have x:∀t,t∈eS l->t∈eS (o::l):=λt y=>by
   unfold eS at y ⊢;rw[He];split<;>simp_all
  have m:∀t,o.dst=some t->t∈eS (o::l)/\t<8000:=λt y=>⟨by simp[eS,y],lr (c t y) i⟩
  refine Je (B:=wpListIn (FW r) 0 P ops Q' (o::l) a w) i d hr h ?_ ?_
  ·intro T' u H hw;unfold wpListIn;rw[hw,bK rfl];have b:=hr.same u;have g:Fr (eS (o::l)) T T':=λt _=>u t;refine Jd b G F H (λv w' h'=>?_) (λI w' E=>q _ _ _ _ E g b);exact Cu i d l _ _ _ p k (b.put i c v) h' (λe z w2 C he hf s=>q e z w2 C he ((g.trans (Fr.put _ _ _ _ m)).trans (hf.mono x)) s)
  ·intro T' u hn hw;unfold wpListIn;rw[hw,bJ bN];have b:=hr.same u;have g:Fr (eS (o::l)) T T':=λt _=>u t;exact⟨λf _=>FW.fn r f,Cu i d l _ _ _ p k (b.put i c undef) hn (λe z w2 C he hf s=>q e z w2 C he ((g.trans (Fr.put _ _ _ _ m)).trans (hf.mono x)) s)⟩
def Cv{D:bA Nat}{r:bX Nat}{N:Nat}(k:N<=8000){ops:cf Oper}(b:hi P N ops.toList=true)(l:(ops.toList.all λo=>match o.op with | .defer _=>false|_=>true)=true){Q:Exit->Tr->bi9}{Q':Exit->Act->bi9}{s:Tr}(p:∀e T' w' a',Q e T' w'->Fr (eS ops.toList) s T'->e2 D N T' a'->Q' e a' w'):
  ∀(fuel:Nat) (listed:cf Bool) (T:Tr) (a:Act) (w:bI),Fr (eS ops.toList) s T->e2 D N T a->td P τ ρ cD A yl r ops Q fuel listed T w->wpAnyIn (FW r) 0 P .any ops Q' fuel listed a w
 |0,listed,T,a,w,hf,hr,h=>by
  unfold td at h;unfold wpAnyIn;split at h;·next e=>exact⟨e,p _ _ _ _ h hf hr⟩
  ·exact h.elim
 |fuel+1,listed,T,a,w,hf,hr,h=>by
  unfold td at h;unfold wpAnyIn;split at h
  ·next e=>
   refine⟨λ_=>p _ _ _ _ h hf hr,λi m=>?_⟩;rw[e]at m;cases m
  ·next i0 H e=>
   refine⟨λx=>(by rw[e]at x;cases x),λi m=>?_⟩;rw[e]at m;have u:=BU h i m;unfold wpOpIn;cases ho:ops[i]? with
   |none=>simp only[ho]at u
   |some o=>
    simp only[ho]at u;have j:o∈ops.toList:=by
     have:=lp ho;simpa using this
    have E:=o1 b j;have d:=mD b j;have z:=Ct l j;have n:∀t,o.dst=some t->t∈eS ops.toList/\t<8000:=λt C=>⟨by unfold eS;exact xy.2 ⟨o,j,C⟩,lr (d t C) k⟩
    refine Je (B:=if Region.wanted o (yielded ops a.tmps)then o.wpIn (FW r) 0 P a w (wpAnyIn (FW r) 0 P .any ops Q' fuel (listed.setIfInBounds i true)) Q' else(∀f,o.about P w a.eval=some f->(FW r).fn f)/\wpAnyIn (FW r) 0 P .any ops Q' fuel (listed.setIfInBounds i true) (a.put o.dst undef) w) k b hr u ?_ ?_
    ·intro T' q F hw;rw[hw,bK rfl];have c:=hr.same q;have g:Fr (eS ops.toList) s T':=hf.trans (λt _=>q t);refine Jd c E z F (λv w' h'=>?_) (λG w' y=>p _ _ _ _ y g c);exact Cv k b l p fuel _ _ _ _ (g.trans (Fr.put _ _ _ _ n)) (c.put k d v) h'
    ·intro T' q hn hw;rw[hw,bJ bN];have c:=hr.same q;have g:Fr (eS ops.toList) s T':=hf.trans (λt _=>q t);exact⟨λf _=>FW.fn r f,Cv k b l p fuel _ _ _ _ (g.trans (Fr.put _ _ _ _ n)) (c.put k d undef) hn⟩
def Wi{D:bA Nat}{r:bX Nat}{N:Nat}{c:Code}{l:bA (Nat×C1)}{body:(Tr->bi9)->Tr->bi9}{Q':Exit->Act->bi9}{T:Tr}{a:Act}{w:bI}(z:∀t∈wr c,t<8000)(hl:pU l)(hr:e2 D N T a)(i:∀(next:Tr->bi9) (next':Act->bi9) (d:Tr) (g:Act) (j:bI),Fr (wr c) T d->e2 D N d g->body next d j->(∀T' w' a',next T' w'->Fr (wr c) d T'->e2 D N T' a'->next' a' w')->
   c.wpIn (FW r) 0 P (Exit.then next' Q') g j)(h:xQ l (wr c) body T w):(Code.loop c).wpIn (FW r) 0 P Q' a w:=by
 obtain⟨G,M,H,h⟩:=h;let J:Nat->Act->bi9:=λn a' w'=>∃T',e2 D N T' a'/\Fr (wr c) T T'/\∃u:Nat->bH,ow l G M (m3 u (m2 (wr c) l) T) (λv s F=>(∀t,T'.get t=v.get t)/\s w'/\F w'=n);have e:∃n,J n a w:=by
  obtain⟨n,hn⟩:=ve l G M T _ w hl H (sS T _ _ T (sT z) (λ_ _=>rfl));exact⟨n,T,hr,.refl _ _,_,hn⟩
 obtain⟨L,e⟩:=e;refine wpIn_loop_ghost J L e ?_;rintro n g j ⟨d,B,A,u,hex⟩;obtain⟨x,s,F,hK,b,K,rfl⟩:=vd l G M _ _ _ (h u) hex;have C:e2 D N x g:=B.same (λt=>(b t).symm);have f:Fr (wr c) T x:=λt q=>(b t).symm.trans (A t q);refine i _ _ _ _ _ f C (hK j K) (λy O a3 I k E=>?_);have p:Fr (wr c) d y:=λt q=>(k t q).trans (b t).symm;obtain⟨m,hm,o⟩:=BX z hl hex (λ_ _ _ h=>h.1) p I;exact⟨m,hm,y,E,f.trans k,_,o⟩
def Wj{D:bA Deferred}{r:bX Nat}{ops:cf Oper}{w:bI}{i:Nat}{a0 a:Act}{K:Act->Prop}{m:Act->bi9}{Q':Exit->Act->bi9}(n:∀o,ops[i]?=some o->∀c,o.op≠ .defer c)(k:a0.tmps=a.tmps)(l:a.defers=D)(h:∀b0 b:Act,b0.tmps=b.tmps->b.defers=D->K b0->m b w)(g:stOp P ops w i K a0):wpOpIn (FW r) 0 P ops Q' i m a w:=by
 have j:∀(d:bX Tmp) (v:bH),(a0.put d v).tmps=(a.put d v).tmps/\(a.put d v).defers=D:=by
  intro d v;cases d with
  |none=>exact⟨k,l⟩
  |some d=>exact⟨by simp only[Act.put,k],l⟩
 have he:a0.eval=a.eval:=by funext x;cases x<;>simp[Act.eval,k]
 unfold stOp at g;unfold wpOpIn;cases ho:ops[i]? with
 |none=>simp only[ho]at g;exact h _ _ k l g
 |some o=>
  simp only[ho]at g;dsimp only;rw[k]at g;split
  ·rename_i hw;simp only[hw,g4]at g;refine⟨λf _=>FW.fn r f,?_⟩;rw[Oper.semAt_eq _ _ _ (n o ho),<- he];unfold Oper.still at g;generalize (execOp a0.eval o).run P w=res at g ⊢
   match res with
   |.ok (.value v) w'=>obtain⟨rfl,g⟩:=g;exact h _ _ (j _ _).1 (j _ _).2 g
   |.ok .skip w'=>obtain⟨rfl,g⟩:=g;exact h _ _ (j _ _).1 (j _ _).2 g
   |.ok (.enter f args) w'=>
    obtain⟨rfl,v,p,g⟩:=g;refine⟨FW.kO,FW.calls (p.mono λe q he=>?_)⟩;obtain⟨rfl,rfl⟩:=he;exact h _ _ (j _ _).1 (j _ _).2 g
  ·rename_i hw;simp only[hw]at g;exact⟨λf _=>FW.fn r f,h _ _ (j _ _).1 (j _ _).2 g⟩
def Jf{D:bA Deferred}{r:bX Nat}{ops:cf Oper}{md:Region.Mode}{w:bI}{Q:Act->Prop}{Q':Exit->Act->bi9}(f:∀(i:Nat) o,ops[i]?=some o->∀c,o.op≠ .defer c)(g:∀a0 a:Act,a0.tmps=a.tmps->a.defers=D->Q a0->Q' .normal a w):∀(fuel:Nat) (listed:cf Bool) (a0 a:Act),a0.tmps=a.tmps->a.defers=D->
  wpAnyS P md ops w Q fuel listed a0->wpAnyIn (FW r) 0 P md ops Q' fuel listed a w
 |0,_,_,_,e,d,h=>⟨h.1,g _ _ e d h.2⟩
 |fuel+1,_,_,_,e,d,h=>⟨λj=>g _ _ e d (h.1 j),λi l=>Wj (f i) e d (λb0 b h1 h2 k=>Jf f g fuel _ b0 b h1 h2 k) (h.2 i l)⟩
def Cw(hm:P.follows .mixedOrders=true){N:Nat}(O:N<=8000){r:bX Nat}:∀(n:Nat) (c:Code) (Q:bA Nat->Exit->Tr->bi9) (Q':Exit->Act->bi9) (D:bA Nat) (T:Tr) (a:Act) (w:bI),gY P N A c=true->e2 D N T a->
  kP P τ ρ cD A yl N r n c Q D T w->(∀q e T' w' a',Q q e T' w'->Fr (wr c) T T'->e2 q N T' a'->Q' e a' w')->c.wpIn (FW r) 0 P Q' a w:=by
 intro n;induction n with
 |zero=>intro c Q Q' D T a w _ _ h;exact h.elim
 |succ n C=>
 intro c;cases c with
 |skip=>intro Q Q' D T a w _ hr h d;exact wpIn_skip (d _ _ _ _ _ h (.refl _ _) hr)
 |label l=>intro Q Q' D T a w _ hr h d;exact wpIn_label (d _ _ _ _ _ h (.refl _ _) hr)
 |exit id=>intro Q Q' D T a w _ hr h d;exact wpIn_exit (d _ _ _ _ _ h (.refl _ _) hr)
 |ret=>intro Q Q' D T a w _ hr h d;exact wpIn_ret (d _ _ _ _ _ h (.refl _ _) hr)
 |region id ops draw=>
  intro Q Q' D T a w j hr h d;unfold gY at j;simp only[dF]at j;obtain⟨⟨ho,G⟩,u⟩:=j;cases draw with
  |false=>exact wpIn_region_list (Cu O ho _ _ _ _ ho G hr h (λe T' w' a' h1 h2 E=>d _ _ _ _ _ h1 h2 E))
  |true=>
   refine wpIn_region_any hm ?_;unfold kP at h;dsimp only at h;cases F:A.head id==ops.size with
   |true=>
    rw[F,hU]at h u;have ae:∀(i:Nat) o,ops[i]?=some o->∀c,o.op≠ .defer c:=λi o ab=>Ct G (by have:=lp ab;simpa using this);simp only[Region.lexB,dF]at u;have h1:=vb (Q':=λa0=>∀m:Act,a0.tmps=m.tmps->m.defers=marks D->Q' .normal m w.drew) O ho _ _ _ ho hr.rel h (λT' a0 X hf b m k S=>d _ _ _ _ _ X hf ⟨S,by
     have:=b;exact⟨rfl,by rw[<- k];exact this.size,λt=>by rw[<- k];exact this.get t⟩⟩)
    have h2:=wpAnyS_lex (md:=.any) u.1 ops.toList 0 (Array.replicate ops.size false) _ (by simp) (by simpa using u.2) h1;have E:wpAnyS P .any ops w.drew (λa0=>∀m:Act,a0.tmps=m.tmps->m.defers=marks D->Q' .normal m w.drew) ops.size (Array.replicate ops.size false) {tmps:=a.tmps,defers:=[]} :=by simpa using h2
    exact Jf (D:=marks D) ae (λa0 m k S ai=>ai m k S) _ _ {tmps:=a.tmps,defers:=[]} a rfl hr.defers E
   |false=>
    rw[F,hF]at h;exact Cv O ho G (λe T' w' a' h1 h2 E=>d D e T' w' a' h1 h2 E) _ _ _ _ _ (Fr.refl _ _) hr h
 |seq x y=>
  intro Q Q' D T a w j hr h d;unfold gY at j;simp only[dF]at j;have hx:∀t,t∈wr x->t∈wr (.seq x y):=λt k=>mX _ k;have am:∀t,t∈wr y->t∈wr (.seq x y):=λt k=>om _ k;refine wpIn_seq (C x _ _ _ _ _ _ j.1 hr h (λq e T' w' a' he hf b=>?_));cases e with
  |normal=>exact C y _ _ _ _ _ _ j.2 b he (λan e ap w2 aq Y Z ag=>d _ _ _ _ _ Y ((hf.mono hx).trans (Z.mono am)) ag)
  |exit id=>exact d _ _ _ _ _ he (hf.mono hx) b
  |goto l=>exact d _ _ _ _ _ he (hf.mono hx) b
  |ret=>exact d _ _ _ _ _ he (hf.mono hx) b
  |panic L=>exact d _ _ _ _ _ he (hf.mono hx) b
  |outgrown=>exact d _ _ _ _ _ he (hf.mono hx) b
 |cond c x y=>
  intro Q Q' D T a w j hr h d;unfold gY at j;simp only[dF]at j;unfold kP at h;dsimp only at h;split at h
  ·rename_i t k;have K:a.eval c=.bool t:=by rw[hr.ev];exact k
   cases t with
   |true=>exact wpIn_cond_true K (C x _ _ _ _ _ _ j.1 hr h (λq e T' w' a' he hf b=>d _ _ _ _ _ he (hf.mono (λt k=>mX _ k)) b))
   |false=>exact wpIn_cond_false K (C y _ _ _ _ _ _ j.2 hr h (λq e T' w' a' he hf b=>d _ _ _ _ _ he (hf.mono (λt k=>om _ k)) b))
  ·exact h.elim
 |block id c=>
  intro Q Q' D T a w j hr h d;refine wpIn_block (C c _ _ _ _ _ _ j hr h (λq e T' w' a' he hf b=>?_));cases e with
  |exit p=>
   replace he:bif Nat.beq p id then Q q .normal T' w' else Q q (.exit p) T' w':=he
   show if p=id then Q' .normal a' w' else Q' (.exit p) a' w'
   rw[kl]at he;by_cases e:p=id;·simp only[e,uL,hU]at he;rw[bK e];exact d _ _ _ _ _ he hf b
   ·have:(p==id)=false:=by simpa using e
    rw[this,hF]at he;rw[bJ e];exact d _ _ _ _ _ he hf b
  |normal=>exact d _ _ _ _ _ he hf b
  |goto l=>exact d _ _ _ _ _ he hf b
  |ret=>exact d _ _ _ _ _ he hf b
  |panic L=>exact d _ _ _ _ _ he hf b
  |outgrown=>exact d _ _ _ _ _ he hf b
 |loop c=>
  intro Q Q' D T a w j hr h d;unfold gY at j;simp only[dF]at j;obtain⟨⟨j,aj⟩,ad⟩:=j;unfold kP at h;dsimp only at h;refine Wi (u7 aj) (xT ad) hr (λnext next' ao m au z af hb hn=>?_) h;refine C c _ _ _ _ _ _ j af hb (λq e T' w' a' he hf b=>?_);cases e with
  |normal=>
   obtain⟨rfl,he⟩:=he;exact hn _ _ _ he hf b
  |exit id=>exact d _ _ _ _ _ he (z.trans hf) b
  |goto l=>exact d _ _ _ _ _ he (z.trans hf) b
  |ret=>exact d _ _ _ _ _ he (z.trans hf) b
  |panic L=>exact d _ _ _ _ _ he (z.trans hf) b
  |outgrown=>exact d _ _ _ _ _ he (z.trans hf) b
 |rangeFunc g ps assign body=>
  intro Q Q' D T a w j hr h d;unfold kP at h;dsimp only at h;cases r with
  |some l=>exact h.elim
  |none=>
   obtain⟨f,fi,ca,ar,aa,has,B,H⟩:=h;subst has;refine wpIn_rangeFunc (λfn _=>?_);have ak:=H fn a.tmps hr.rel.size hr.rel.get;unfold k6 at B;split at B
   ·rename_i M U;simp only[dF,ir,xv]at B;obtain⟨V,W⟩:=B;have I:¬ M.body=none:=by intro hx;simp[hx]at V
    refine⟨w.heap.size+1,[{target:=.collected w.heap.size,args:= #[]}],(w.alloc (.deferred (some []))).alloc (.loop (te fn a.tmps ps assign body w.heap.size)), {target:=.fn (.func f) ca,args:=fi++ #[.func (.yield (w.heap.size+1)) #[] #[]]},(w.alloc (.deferred (some []))).alloc (.loop (te fn a.tmps ps assign body w.heap.size)),f,fi++ #[.func (.yield (w.heap.size+1)) #[] #[]]++ca,(w.alloc (.deferred (some []))).alloc (.loop (te fn a.tmps ps assign body w.heap.size)),run_enterLoop_outer fn a.tmps ps assign body,?_,λf' _=>trivial,?_,FW.kO (r:=none),?_⟩
    ·rw[<- hr.ev]at aa;have R:a.eval (.const (.func (.yield (w.heap.size+1)) #[] #[]))=.func (.yield (w.heap.size+1)) #[] #[]:=rfl;simp[resolve,aa,R,Deferred.ofValue]
    ·simp[invoke,callFunc,U,W,I]
    ·refine callsIn_wide.2 (Calls.mono ak λe w' he=>?_);cases e with
     |panicked L=>exact he.elim
     |outgrown=>exact he.elim
     |returned v=>
      obtain⟨ah,hl,al,he⟩:=he;refine⟨ah.pending,_,run_endLoop hl al,?_⟩;generalize w'.putObj (w.heap.size+1) (.loop {ah with state:=.exhausted})=av at he ⊢;have b:e2 (w.heap.size::D) N T {a with defers:=[{target:=.collected w.heap.size,args:= #[]}]++a.defers} :=⟨by simp[hr.defers,marks],hr.rel⟩
      split at he;·next hp=>rw[hp];exact d _ _ _ _ _ he (.refl _ _) b
      ·next c' hp=>
       obtain⟨rfl,he⟩:=he;rw[hp];cases J:A.brk with
       |none=>rw[J]at he;exact wpIn_ret (d _ _ _ _ _ he (.refl _ _) b)
       |some i=>rw[J]at he;exact wpIn_exit (d _ _ _ _ _ he (.refl _ _) b)
   ·cases B
 |scope c=>intro Q Q' D T a w _ _ h _;unfold kP at h;exact h.elim
 |goto l=>intro Q Q' D T a w _ _ h _;unfold kP at h;exact h.elim
 |refuse s=>intro Q Q' D T a w _ _ h _;unfold kP at h;exact h.elim
def shut:bA Nat->bI->(bi9)->Prop
 |[],w,f=>f w
 |b::D,w,f=>w.heap[b]?=some (.deferred (some []))/\shut D (w.putObj b (.deferred none)) f
def Wk(P:cS)(τ:bZ->K1)(rs:bA ResultVar)(K:bj0):bA Nat->Exit->Tr->bi9
 |D,.normal,T,w=>shut D w λw=>iQ P τ w T rs #[] λvs=>K (oneOf vs) w
 |D,.ret,T,w=>shut D w λw=>iQ P τ w T rs #[] λvs=>K (oneOf vs) w
 |_,_,_,_=>False
def ni(P:cS)(τ:bZ->K1)(ρ:bZ->Kd)(cD:bj6->Bool)(A:dU)(yl:Nat->Bool)(fn:Func)(args:cf bH)(K:bj0)(w:bI):Prop:=
 match fn.body with
 |some c=>kP P τ ρ cD A yl fn.ntmps none 1000 c (Wk P τ fn.results.toList K) [] (js args.toList 0 .nil) w
 |none=>False
def nj(P:cS)(A:dU)(fn:Func)(n:Nat):Bool:=match fn.body with
 |some c=>gY P fn.ntmps A c&&Nat.ble fn.ntmps 8000&&Nat.ble n fn.ntmps
 |none=>false
def Jg{fn:Func}{tmps:cf bH}{R:Ending->bi9}:∀ {D:bA Nat} {w:bI} {f:bi9},shut D w f->(∀w',f w'->LeavesIn Fence.wide 0 P fn tmps R [] .returning w')->LeavesInM Fence.wide 0 P fn tmps R (marks D) .returning w
 |[],w,f,h,hf=>hf w h
 |b::D,w,f,h,hf=>⟨by simp,.inl ⟨b,_,rfl,run_takeDeferred h.1,Jg h.2 hf⟩⟩
def oA{g:bj6}{fn:Func}{args:cf bH}{w:bI}{K:bj0}(hm:P.follows .mixedOrders=true)(hf:P.funcs[g]?=some fn)(a:nj P A fn args.size=true)(h:ni P τ ρ cD A yl fn args K w):Calls P g args w (cC K):=by
 unfold ni at h;unfold nj at a;split at h
 ·rename_i c d;rw[d]at a;simp only[dF]at a;obtain⟨⟨a,i⟩,hn⟩:=a;have b:fn.ntmps<=8000:=by simpa using i
  have f:args.size<=fn.ntmps:=by simpa using hn
  refine(callsIn_wide (n:=0)).1 (callsIn_of_wp_marks (F:=Fence.wide) hf d trivial ?_);refine Cw (r:=none) hm b 1000 c _ _ _ _ _ _ a (e2.of (Rel.init b f)) h (λD e T' w' a' he _ hr=>?_);have key:(shut D w' λw=>iQ P τ w T' fn.results.toList #[] λvs=>K (oneOf vs) w)->LeavesInM Fence.wide 0 P fn a'.tmps (cC K) a'.defers .returning w':=λh=>by
   rw[hr.defers];refine Jg h (λw2 h2=>?_);obtain⟨vs,h1,h2⟩:=BZ hr.rel h2;exact⟨_,h1,_,rfl,h2⟩
  cases e with
  |normal=>exact key he
  |ret=>exact key he
  |panic j=>exact he.elim
  |exit id=>exact he.elim
  |goto l=>exact he.elim
  |outgrown=>exact he.elim
 ·exact h.elim
def lI(l:Nat)(f:bi9)(W:bI):Prop:=∃r:Loop,W.heap[l]?=some (.loop r)/\r.state=.ready/\f (W.putObj l (.loop {r with state:=.busy}))
def fg(l:Nat)(j:bX Code)(R:Ending->bi9)(W:bI):Prop:=
 ∃r:Loop,W.heap[l]?=some (.loop r)/\R (.returned (.bool j.isNone)) (W.putObj l (.loop {r with state:=if j.isNone then .ready else .done,pending:=j}))
def nV(l:Nat)(R:Ending->bi9):bA Nat->Exit->Tr->bi9
 |_,.normal,_,w=>fg l none R w
 |_,.ret,_,w=>fg l (some .ret) R w
 |_,.exit id,_,w=>fg l (some (.exit id)) R w
 |_,_,_,_=>False
def mM(P:cS)(τ:bZ->K1)(ρ:bZ->Kd)(cD:bj6->Bool)(A:dU)(yl:Nat->Bool)(N l:Nat)(assign body:Code)(T:Tr)(W:bI)(R:Ending->bi9):Prop:=
 kP P τ ρ cD A yl N (some l) 1000 assign (λD e a b=>match e with
  |.normal=>lI l (kP P τ ρ cD A yl N (some l) 1000 body (nV l R) D a) b
  |_=>False) [] T W
def lJ:Code->bX (Code×Code)
 |.rangeFunc _ _ a b=>some (a,b)
 |.seq x y=>match lJ x with
  |some p=>some p
  |none=>lJ y
 |.cond _ x y=>match lJ x with
  |some p=>some p
  |none=>lJ y
 |.block _ c=>lJ c
 |_=>none
def kp(c:bX Code):Code:=((c.bind lJ).map (·.1)).getD .skip
def kq(c:bX Code):Code:=((c.bind lJ).map (·.2)).getD .skip
noncomputable def lK:bA (Tmp×bH)->Tr->Tr
 |[],T=>T
 |(t,v)::l,T=>lK l (T.put (some t) v)
def Wl{l N:Nat}{r:Loop}{args:cf bH}{T:Tr}{W:bI}{R:Ending->bi9}(hm:P.follows .mixedOrders=true)(k:N<=8000)(hl:W.heap[l]?=some (.loop r))(B:args.size=r.params.size)(v:r.tmps.size=N)(j:rV T r.tmps)(x:∀t∈r.params.toList,t<N)(m:gY P N A r.assign=true)(n:gY P N A r.body=true)(h:mM P τ ρ cD A yl N l r.assign r.body (lK (r.params.zip args).toList T) W R):YieldAt Fence.wide 0 P l args W R:=by
 refine⟨_,_,_,_,run_yield hl B,roundIn_of_wpIn trivial ?_⟩;have o:∀(ps:bA (Tmp×bH)) (g:cf bH) (T:Tr),(∀p∈ps,p.1<N)->g.size=N->rV T g->
   e2 [] N (lK ps T) {tmps:=ps.foldl (λtmps (p:Tmp×bH)=>tmps.setIfInBounds p.1 p.2) g,defers:=[]} :=by
  intro ps;induction ps with
  |nil=>intro g T _ s j;exact⟨rfl,⟨rfl,s,j⟩⟩
  |cons p ps I=>
   intro g T hp s j;have h1:e2 [] N T {tmps:=g,defers:=[]} :=⟨rfl,⟨rfl,s,j⟩⟩
   have h2:=h1.put k (d:=some p.1) (λt H=>by cases H;exact hp p (fS ..)) p.2;exact I _ _ (λq G=>hp q (gn _ G)) h2.rel.size h2.rel.get
 have u:=o (r.params.zip args).toList r.tmps T (λp hp=>x p.1 (by
  rw[Array.toList_zip]at hp;exact(List.of_mem_zip (a:=p.1) (b:=p.2) hp).1)) v j
 have hf:(r.params.zip args).foldl (λtmps (p:Tmp×bH)=>tmps.setIfInBounds p.1 p.2) r.tmps=(r.params.zip args).toList.foldl (λtmps (p:Tmp×bH)=>tmps.setIfInBounds p.1 p.2) r.tmps:=by
  rw[Array.foldl_toList]
 rw[<- hf]at u;refine Cw (r:=some l) hm k 1000 _ _ _ _ _ _ _ m u h (λD e L O S he J y=>?_);cases e with
 |normal=>
  obtain⟨V,w,z,he⟩:=he;refine⟨_,run_beginRound w z,?_⟩;refine Cw (r:=some l) hm k 1000 _ _ _ _ _ _ _ n y he (λK F M Q U c _ _=>?_);cases F with
  |normal=>obtain⟨C,f,i⟩:=c;exact⟨_,_,run_endRound none f,i⟩
  |ret=>obtain⟨C,f,i⟩:=c;exact⟨_,_,run_endRound (some .ret) f,i⟩
  |exit id=>obtain⟨C,f,i⟩:=c;exact⟨_,_,run_endRound (some (.exit id)) f,i⟩
  |goto t=>exact c.elim
  |panic E=>exact c.elim
  |outgrown=>exact c.elim
 |exit id=>exact he.elim
 |goto t=>exact he.elim
 |ret=>exact he.elim
 |panic E=>exact he.elim
 |outgrown=>exact he.elim
end
end Go.Vc
namespace Go.Mp
open Go Go.Vc
noncomputable abbrev P:cS:=Go.Proofs.Tryz.prog
abbrev gu:bZ:=3
abbrev ym:bZ:=4
abbrev Wm:bZ:=5
abbrev Cx:bZ:=9
abbrev jK:bZ:=22
abbrev Cy:bZ:=23
abbrev tf:bZ:=28
abbrev pd:bZ:=35
abbrev p4:bZ:=37
abbrev Wn:bZ:=39
abbrev yn:bZ:=54
abbrev yo:bZ:=60
abbrev Wo:bZ:=69
abbrev Cz:bZ:=81
abbrev tg:bZ:=82
abbrev CA:bZ:=84
abbrev Wp:bZ:=97
abbrev Wq:bZ:=109
abbrev Jh:bZ:=117
abbrev Wr:bZ:=137
abbrev CB:bZ:=140
abbrev Ws:bZ:=179
abbrev Ji:bZ:=190
abbrev mc:bZ:=194
abbrev yp:bZ:=239
abbrev yq:bZ:=245
abbrev th:bZ:=272
abbrev Jj:bZ:=276
abbrev yr:bZ:=297
abbrev vw:bj6:=16
abbrev p5:bj6:=17
abbrev vx:bj6:=18
abbrev ti:bj6:=19
abbrev vy:bj6:=20
abbrev la:bj6:=21
abbrev p6:bj6:=22
abbrev oB:bj6:=23
abbrev p7:bj6:=24
abbrev ys:bj6:=27
abbrev vz:bj6:=28
abbrev tj:bj6:=29
abbrev p8:bj6:=30
abbrev CC:bj6:=34
abbrev yt:bj6:=35
abbrev Jk:bj6:=36
abbrev Jl:bj6:=37
abbrev Jm:bj6:=38
abbrev vA:bj6:=39
abbrev CD:bj6:=40
abbrev p9:bj6:=41
abbrev rW:bj6:=43
abbrev CE:bj6:=44
abbrev vB:bj6:=45
abbrev CF:bj6:=46
abbrev CG:bj6:=47
abbrev CH:bj6:=48
abbrev CI:bj6:=49
abbrev CJ:bj6:=50
abbrev yu:bj6:=51
abbrev yv:bj6:=52
abbrev yw:bj6:=53
abbrev yx:bj6:=54
abbrev yy:bj6:=55
abbrev yz:bj6:=56
abbrev yA:bj6:=57
abbrev yB:bj6:=58
abbrev yC:bj6:=59
abbrev yD:bj6:=60
abbrev yE:bj6:=61
abbrev yF:bj6:=62
abbrev yG:bj6:=63
abbrev yH:bj6:=64
abbrev Jn:bj6:=65
abbrev yI:bj6:=66
abbrev CK:bj6:=67
abbrev yJ:bj6:=68
abbrev tk:bj6:=69
abbrev Jo:bj6:=70
abbrev yK:bj6:=72
abbrev CL:bj6:=73
abbrev Jp:bj6:=74
abbrev Jq:bj6:=75
abbrev Jr:bj6:=76
abbrev yL:bj6:=77
abbrev Js:bj6:=78
abbrev ku:bj6:=79
abbrev Jt:bj6:=80
abbrev Ju:bj6:=81
abbrev CM:bj6:=82
abbrev Jv:bj6:=83
abbrev Jw:bj6:=84
abbrev Jx:bj6:=85
abbrev CN:bj6:=86
abbrev yM:bj6:=87
abbrev yN:bj6:=88
abbrev Jy:bj6:=89
abbrev Jz:bj6:=90
abbrev CO:bj6:=91
abbrev CP:bj6:=92
abbrev CQ:bj6:=93
abbrev CR:bj6:=94
abbrev JA:bj6:=95
abbrev CS:bj6:=96
abbrev JB:bj6:=97
abbrev JC:bj6:=98
abbrev JD:bj6:=99
abbrev JF:bj6:=100
abbrev JG:bj6:=101
abbrev vC:bj6:=102
abbrev oC:bj6:=103
abbrev yO:bj6:=105
abbrev tl:bj6:=106
abbrev CT:bj6:=107
abbrev JH:bj6:=109
abbrev tm:bj6:=110
abbrev JI:bj6:=111
abbrev JJ:bj6:=112
abbrev JK:bj6:=113
abbrev JL:bj6:=114
abbrev JM:bj6:=115
abbrev CU:bj6:=116
abbrev JN:bj6:=117
abbrev tn:bj6:=118
abbrev CV:bj6:=119
abbrev yP:bj6:=120
abbrev tp:bj6:=121
abbrev JO:bj6:=122
abbrev rX:bj6:=123
abbrev vD:bj6:=124
abbrev vF:bj6:=125
abbrev JP:bj6:=126
abbrev JQ:bj6:=127
abbrev yQ:bj6:=128
abbrev tq:bj6:=129
abbrev CW:bj6:=130
abbrev JR:bj6:=131
abbrev JS:bj6:=132
abbrev CX:bj6:=133
abbrev CY:bj6:=134
abbrev JT:bj6:=135
abbrev CZ:bj6:=136
abbrev C0:bj6:=137
abbrev yR:bj6:=138
abbrev C2:bj6:=139
abbrev JU:bj6:=140
abbrev JV:bj6:=141
abbrev C3:bj6:=142
abbrev C4:bj6:=143
abbrev JW:bj6:=144
abbrev yS:bj6:=145
abbrev vG:bj6:=146
abbrev JX:bj6:=147
abbrev C5:bj6:=148
abbrev JY:bj6:=149
abbrev JZ:bj6:=150
abbrev J0:bj6:=151
abbrev C6:bj6:=152
abbrev J1:bj6:=153
abbrev C7:bj6:=154
abbrev J2:bj6:=155
abbrev C8:bj6:=156
abbrev rY:bj6:=157
abbrev C9:bj6:=158
abbrev vH:bj6:=159
abbrev Da:bj6:=160
abbrev yT:bj6:=161
abbrev Db:bj6:=164
abbrev tr:bj6:=165
abbrev Dc:bj6:=166
abbrev Dd:bj6:=167
abbrev De:bj6:=168
abbrev Df:bj6:=169
abbrev J3:bj6:=170
abbrev Dg:bj6:=171
abbrev J4:bj6:=172
abbrev yU:bj6:=173
abbrev Dh:bj6:=174
abbrev Di:bj6:=175
abbrev J5:bj6:=176
abbrev Dj:bj6:=177
abbrev Dk:bj6:=178
abbrev Dl:bj6:=179
abbrev Dm:bj6:=180
abbrev Dn:bj6:=181
abbrev Dp:bj6:=182
abbrev qe:bj6:=183
abbrev J6:bj6:=184
abbrev J7:bj6:=185
abbrev Dq:bj6:=186
abbrev Ds:bj6:=187
abbrev vI:bj6:=188
abbrev vJ:bj6:=189
abbrev yV:bj6:=190
abbrev J8:bj6:=191
abbrev Dt:bj6:=192
abbrev J9:bj6:=193
abbrev Ka:bj6:=194
abbrev Kb:bj6:=195
abbrev yW:bj6:=196
abbrev Du:bj6:=197
abbrev Dv:bj6:=198
abbrev Ke:bj6:=199
abbrev Dw:bj6:=200
abbrev yX:bj6:=201
abbrev Kg:bj6:=202
abbrev Kh:bj6:=203
abbrev Dx:bj6:=204
abbrev Dy:bj6:=205
abbrev yY:bj6:=206
abbrev yZ:bj6:=207
abbrev Dz:bj6:=208
abbrev DA:bj6:=209
abbrev Ki:bj6:=210
abbrev tt:bj6:=211
abbrev Kj:bj6:=212
abbrev DB:bj6:=213
abbrev vK:bj6:=214
abbrev DC:bj6:=215
abbrev DD:bj6:=216
abbrev Kk:bj6:=217
abbrev Kl:bj6:=218
abbrev DE:bj6:=219
abbrev DF:bj6:=231
abbrev DG:bj6:=232
abbrev DH:bj6:=233
abbrev DI:bj6:=234
abbrev vL:bj6:=235
abbrev DJ:bj6:=236
abbrev DK:bj6:=237
abbrev y0:bj6:=238
abbrev Km:bj6:=239
abbrev Kn:bj6:=240
abbrev DL:bj6:=241
abbrev DM:bj6:=242
abbrev Wt:bj6:=243
abbrev y1:bj6:=244
abbrev vM:bj6:=245
abbrev Ko:bj6:=246
abbrev DN:bj6:=247
abbrev Kp:bj6:=248
abbrev DO:bj6:=249
abbrev Kq:bj6:=250
abbrev Kr:bj6:=251
abbrev Ks:bj6:=252
abbrev Ku:bj6:=253
abbrev Kx:bj6:=254
abbrev Ky:bj6:=255
abbrev Kz:bj6:=256
abbrev DP:bj6:=257
abbrev KA:bj6:=258
abbrev DQ:bj6:=259
abbrev KB:bj6:=260
abbrev KC:bj6:=261
abbrev y2:bj6:=262
abbrev DR:bj6:=263
abbrev KD:bj6:=264
abbrev DS:bj6:=265
abbrev DT:bj6:=266
abbrev DU:bj6:=272
abbrev vN:bj6:=273
abbrev adc:bj6:=274
abbrev Wu:bj6:=275
abbrev KE:bj6:=276
abbrev DV:bj6:=277
abbrev y3:bj6:=278
abbrev KF:bj6:=279
abbrev KG:bj6:=280
abbrev tu:bj6:=281
abbrev vO:bj6:=282
abbrev DW:bj6:=283
abbrev y4:bj6:=284
abbrev KH:bj6:=285
abbrev DX:bj6:=286
abbrev KI:bj6:=287
abbrev KJ:bj6:=288
abbrev KK:bj6:=289
abbrev KL:bj6:=290
abbrev DY:bj6:=291
abbrev DZ:bj6:=292
abbrev KM:bj6:=293
abbrev D0:bj6:=294
abbrev D1:bj6:=296
abbrev vP:bj6:=297
abbrev D2:bj6:=298
abbrev vR:bj6:=299
abbrev KN:bj6:=300
abbrev D3:bj6:=301
abbrev D4:bj6:=302
abbrev KO:bj6:=303
abbrev Wv:bj6:=304
abbrev Ww:bj6:=305
abbrev KP:bj6:=306
abbrev KQ:bj6:=307
abbrev KR:bj6:=308
abbrev y5:bj6:=309
abbrev y6:bj6:=310
noncomputable abbrev nk:Checked:=Go.Proofs.Tryz.checked
def cn:K1:=.one .raw
def iA:K1:=.one .ptr
def me:K1:=.one .slice
def qk:K1:=.agg [.int .i64,.int .i64]
def qn:K1:=.one .map
def rZ:K1:=.one (.int .i64)
def y7:K1:=.one (.int .u8)
def y8:K1:=.one (.int .u64)
def y9:K1:=.agg [.ptr]
def zc:K1:=.agg [.int .i64,.int .i64,.bool]
def zd:K1:=.agg [.slice]
def zj:K1:=.agg [.ptr,.ptr,.ptr,.ptr,.ptr,.ptr,.ptr,.ptr,.ptr,.ptr,.ptr,.ptr,.ptr,.ptr,.ptr,.ptr,.int .u64,.int .u64,.int .u64,.int .u64,.int .u64,.int .u64,.int .u64,.int .u64,.int .u64,.int .u64,.int .u64,.int .u64,.int .u64,.int .u64,.int .u64,.int .u64,.int .u16]
def D5:K1:=.one (.int .i32)
def KS:K1:=.agg [.int .i64,.int .i64,.bool,.int .u8]
def KT:K1:=.agg [.str,.int .u64]
def KU:K1:=.agg [.int .i64,.int .i64,.slice]
def KV:K1:=.agg [.int .i64,.int .i64,.int .i64,.int .i64,.int .i64]
def KW:K1:=.agg [.int .i64,.int .i64,.int .i64,.int .i64,.int .i64,.int .i64,.int .i64,.bool,.bool]
def KX:K1:=.agg [.ptr,.ptr,.ptr]
def KY:K1:=.agg [.ptr,.ptr,.ptr,.ptr,.ptr,.ptr,.ptr,.ptr,.ptr,.ptr,.ptr,.map,.slice,.slice]
def KZ:K1:=.agg [.int .i64,.int .i64,.int .i64,.int .i64,.int .i64,.ptr,.ptr,.int .i64,.int .i64,.slice]
def K0:K1:=.agg [.int .i64,.ptr]
def K2:K1:=.agg [.int .i64,.int .i64,.int .i64,.int .i64]
def K3:K1:=.agg [.map,.map,.map,.int .i64]
def K4:K1:=.agg [.int .i64,.int .i64,.bool,.bool]
def K5:K1:=.agg [.int .i64,.bool]
def K6:K1:=.agg [.slice,.map,.int .i64]
def K7:K1:=.agg [.int .i64,.int .i64,.int .i64,.int .i64,.int .i64,.bool]
def K8:K1:=.agg [.int .i64,.slice]
def K9:K1:=.agg [.int .i64,.int .i64,.int .i64]
def La:K1:=.agg [.int .i64,.int .u64]
def Lb:K1:=.agg [.ptr,.ptr,.ptr,.str]
def Lc:K1:=.agg [.int .u64,.int .u64,.int .u32,.int .u8,.int .u8,.int .u8,.int .u8,.raw,.ptr,.int .i32,.int .i32]
def vS:bA K1:=[cn,cn,rZ,rZ,.one .bool,y7,y7,KS,KS,.one .str,.one .str,.one .str,y8,KT,KT,iA,iA,iA,y9,y9,cn,D5,me,me,cn,cn,iA,cn,iA,cn,cn,rZ,KU,KU,cn,rZ,KV,KV,cn,me,cn,zc,zc,iA,cn,cn,cn,cn,cn,cn,cn,cn,cn,qk,qk,rZ,KW,KW,cn,cn,me,cn,iA,cn,cn,cn,cn,cn,cn,me,.agg [.ptr,.slice],.agg [.ptr,.slice],iA,iA,iA,KX,KX,iA,iA,iA,iA,qn,me,KY,KY,cn,qn,cn,cn,qn,cn,iA,KZ,KZ,K0,K0,cn,me,zd,zd,cn,cn,cn,cn,cn,cn,K2,K2,cn,me,iA,.agg [.slice,.ptr],.agg [.slice,.ptr],cn,cn,cn,cn,qn,iA,qn,qn,K3,K3,rZ,K4,K4,cn,cn,iA,y9,y9,cn,K5,K5,cn,cn,cn,qn,K6,K6,qn,.agg [.map],.agg [.map],qk,qk,cn,cn,cn,cn,cn,cn,cn,cn,cn,cn,cn,cn,cn,cn,cn,cn,K7,K7,cn,cn,cn,cn,cn,cn,cn,cn,cn,cn,cn,y8,cn,cn,cn,cn,me,K8,K8,cn,cn,cn,me,zd,zd,zc,zc,.agg [.ptr,.ptr],cn,iA,cn,me,cn,cn,cn,cn,cn,cn,cn,y8,cn,cn,cn,cn,cn,cn,cn,cn,cn,cn,cn,cn,cn,cn,cn,cn,cn,iA,.agg [.ptr,.ptr,.ptr,.ptr,.ptr,.ptr,.ptr,.ptr,.ptr,.ptr,.ptr,.ptr,.ptr,.ptr,.ptr,.ptr],.arr 16 .u64,.one (.int .u16),zj,zj,zj,zj,cn,cn,cn,cn,cn,cn,cn,cn,cn,cn,qk,qk,cn,cn,cn,cn,cn,me,K9,K9,cn,cn,cn,cn,cn,cn,cn,cn,cn,cn,cn,cn,cn,cn,cn,cn,cn,cn,iA,cn,cn,cn,cn,cn,me,cn,cn,qk,qk,cn,rZ,cn,cn,cn,cn,cn,cn,.one (.int .u32),cn,cn,cn,.agg [.bool,.bool,.bool,.bool,.bool,.bool,.bool,.bool,.bool,.bool,.bool,.bool,.bool,.bool,.bool,.bool,.bool,.bool,.bool,.bool,.bool,.bool,.bool,.bool,.bool,.bool,.bool,.bool,.bool,.bool,.bool,.bool,.bool,.bool,.bool,.bool,.bool,.bool,.bool,.bool,.bool,.bool,.bool,.bool,.bool,.bool,.bool,.bool,.bool,.bool,.bool,.bool,.bool,.bool,.bool,.bool,.bool,.bool,.bool,.bool,.bool,.bool,.bool,.bool],cn,cn,cn,cn,cn,cn,cn,me,cn,cn,cn,La,La,cn,cn,cn,cn,cn,cn,cn,cn,cn,cn,cn,cn,cn,cn,cn,.arr 16 .u8,.arr 16 .u8,cn,cn,y8,cn,cn,cn,iA,cn,cn,cn,cn,cn,cn,cn,cn,cn,cn,cn,cn,cn,cn,cn,cn,cn,cn,iA,cn,cn,cn,cn,cn,cn,iA,cn,cn,.arr 64 .u8,cn,Lb,Lb,.agg [],.agg [],.agg [],y7,y7,cn,iA,D5,D5,Lc,Lc,cn]
def fV(t:bZ):K1:=vS.getD t (.one .raw)
def D6:Kd:=.jq [.one (.int .i64),.one (.int .i64)]
def Ld:Kd:=.jq [.one .slice,.one (.int .i64)]
def D7:bA Kd:=(vS.take 371).map .k|>.set 0 (.jq [])|>.set 58 (.jq [.agg [.int .i64,.int .i64,.int .i64,.int .i64,.int .i64,.int .i64,.int .i64,.bool,.bool],.one (.int .i64)])|>.set 65 D6|>.set 126 (.jq [.agg [.int .i64,.int .i64,.bool,.bool],.one .bool])|>.set 152 D6|>.set 164 (.jq [.one (.int .i64),.agg [.int .i64,.int .i64,.int .i64,.int .i64,.int .i64,.bool],.one .bool])|>.set 166 (.jq [.one (.int .i64),.one .bool])|>.set 168 (.jq [.one (.int .u8),.one (.int .i64)])|>.set 175 (.jq [.one (.int .u64),.one .bool])|>.set 177 (.jq [.agg [.int .i64,.int .i64,.bool,.bool],.one (.int .i64)])|>.set 199 Ld|>.set 203 (.jq [.agg [.int .i64,.int .i64,.int .i64,.int .i64,.int .i64,.bool],.one .bool])|>.set 206 (.jq [.one (.int .i64),.one (.int .i64),.one (.int .i64)])|>.set 231 Ld|>.set 261 (.jq [.one .str,.one (.int .i64)])|>.set 268 (.jq [.agg [.int .i64,.int .i64],.one .bool])|>.set 279 D6|>.set 298 (.jq [.one (.int .u64),.one (.int .u64)])|>.set 314 (.jq [.one .str,.one .bool])|>.set 316 (.jq [.one (.int .u64),.one (.int .i64)])|>.set 336 (.jq [.one (.int .i64),.one (.int .i64),.one .bool])|>.set 343 (.jq [.one (.int .i64),.one (.int .u64)])
def gZ(t:bZ):Kd:=D7.getD t (.k (.one .raw))
abbrev pe(v:bH):PanicEntry:={v:=v,recovered:=false}
def cD(f:bj6):Bool:=[].contains f
def mixed:P.follows .mixedOrders=true:=Checked.mixed Go.Proofs.Tryz.checked
end Go.Mp
namespace Go
abbrev Iv(n:Int):bH:=.int .i64 n
abbrev Sv(s:Vc.Sl):bH:=.slice s.p s.n s.c
abbrev Pv(a:cm):bH:=.pointer a
abbrev Pb(b:Nat):bH:=.pointer (some ⟨b,0,none⟩)
end Go
namespace Go.Mp
open Go Go.Vc
def bM(A:dU){g:bj6}{fn:Func}(args:cf bH)(K:bj0)(w:bI){S:Prop}(hf:P.funcs[g]?=some fn)(h:S)(a:lA P A fn args.size=true:=by kernel_rfl)(b:kI P fV gZ cD A fn args K (λ_ _=>False) w=S:=by kernel_rfl):Calls P g args w (cC K):=
 B0 mixed hf a (by rw[b];exact h)
def z8(q:bA Nat:=[])(s:bA (Nat×bA (bA Nat)×bA Nat):=[])(l j:bA (Nat×bA (Nat×C1)):=[]):dU:={quiet:=λd=>q.contains d,sig:=λr=>s.lookup r,loop:=λr=>(l.lookup r).getD [],join:=λr=>j.lookup r}
abbrev jQ:=List.range
abbrev jZ:=C1.int .i64
def qQ(f:bj6)(a:cf bH)(w:bI)(g:Int->bi9):Prop:=Calls P f a w λe w2=>∃a0,e=.returned (Iv a0)/\g a0 w2
def qZ(w:bI)(a:Addr)(n:Nat)(g:cm->Prop):Prop:=∃x,w.cell? (a.add n)=some (Pv x)/\g x
def qJ(f:bj6)(a:cf bH)(w:bI)(g:Sl->bi9):Prop:=Calls P f a w λe w2=>∃a0,e=.returned (Sv a0)/\g a0 w2
def qX(f:bj6)(a:cf bH)(w:bI)(g:Int->Int->Int->Int->Int->Int->Int->Bool->Bool->Int->bi9):Prop:=Calls P f a w λe w2=>∃a0,∃b,∃c,∃a3,∃a4,∃a5,∃d,∃h,∃i,∃a9,e=.returned (.tuple #[.agg #[Iv a0,Iv b,Iv c,Iv a3,Iv a4,Iv a5,Iv d,.bool h,.bool i],Iv a9])/\g a0 b c a3 a4 a5 d h i a9 w2
def qY(w:bI)(a:Addr)(g:Int->Int->Int->Int->Int->Int->Int->Bool->Bool->Prop):Prop:=∃a0,w.cell? (a.add 0)=some (Iv a0)/\∃b,w.cell? (a.add 1)=some (Iv b)/\∃c,w.cell? (a.add 2)=some (Iv c)/\∃a3,w.cell? (a.add 3)=some (Iv a3)/\∃a4,w.cell? (a.add 4)=some (Iv a4)/\∃a5,w.cell? (a.add 5)=some (Iv a5)/\∃d,w.cell? (a.add 6)=some (Iv d)/\∃e,w.cell? (a.add 7)=some (.bool e)/\∃f,w.cell? (a.add 8)=some (.bool f)/\g a0 b c a3 a4 a5 d e f
def qV(w:bI)(g:Addr->bi9):Prop:=Al (.cells #[Iv 0,Iv 0,Iv 0,Iv 0,Iv 0,Iv 0,Iv 0,.bool false,.bool false] 57) g w
def qU(l:bA bH)(a:Addr)(w:bI)(g:bi9):Prop:=k5 l a g w
def qK(w:bI)(a:Addr)(n:Nat)(g:Sl->Prop):Prop:=∃x,w.cell? (a.add n)=some (Sv x)/\g x
def qG(w:bI)(a:Addr)(n:Nat)(v:bH)(g:cm->Prop):Prop:=∃x,w.cell? (a.add n)=some (Pv x)/\(Pv x)=v/\g x
def qH(f:bj6)(a:cf bH)(w:bI)(g:Int->Int->Int->Int->bi9):Prop:=Calls P f a w λe w2=>∃a0,∃b,∃c,∃a3,e=.returned (.agg #[Iv a0,Iv b,Iv c,Iv a3])/\g a0 b c a3 w2
def qN(f:bj6)(a:cf bH)(w:bI)(g:bj0):Prop:=Calls P f a w λe w2=>∃a0,e=.returned a0/\g a0 w2
def qM(w:bI)(a:Addr)(n:Nat)(g:bX Nat->Prop):Prop:=∃x,w.cell? (a.add n)=some (.map x)/\g x
def qR(f:bj6)(a:cf bH)(w:bI)(g:cm->bi9):Prop:=Calls P f a w λe w2=>∃a0,e=.returned (Pv a0)/\g a0 w2
def qP(w:bI)(a:Addr)(g:cm->cm->cm->Prop):Prop:=∃a0,w.cell? (a.add 0)=some (Pv a0)/\∃b,w.cell? (a.add 1)=some (Pv b)/\∃c,w.cell? (a.add 2)=some (Pv c)/\g a0 b c
def qO(a0:Int)(w:bI)(g:(Int->bi9)->Int->bi9):Prop:=∃(b:Int->bi9) (M:Int->bI->Nat),b a0 w/\∀_:Nat->bH,∀b0,∀w,b b0 w->g (λa v=>b a v/\M a v<M b0 w) b0 w
def qD(w:bI)(a:Addr)(g:Int->Prop):Prop:=∃x,w.cell? a=some (Iv x)/\g x
def qC(a:cf bH)(w:bI)(g:Addr->bi9):Prop:=Al (.cells a 3) g w
def qB(w:bI)(g:Addr->bi9):Prop:=Al (.cells #[Iv 0,Iv 0,Iv 0,Iv 0,Iv 0,Iv 0,Iv 0,Iv 0,Iv 0,Iv 0,Iv 0,Iv 0,Iv 0,Iv 0,Iv 0,Iv 0,Iv 0,Iv 0,Iv 0,Iv 0,Iv 0,Iv 0,Iv 0,Iv 0,Iv 0,Iv 0,Iv 0,Iv 0,Iv 0,Iv 0,Iv 0,Iv 0,Iv 0,Iv 0,Iv 0,Iv 0,Iv 0,Iv 0,Iv 0,Iv 0,Iv 0,Iv 0,Iv 0,Iv 0,Iv 0,Iv 0,Iv 0,Iv 0,Iv 0,Iv 0,Iv 0,Iv 0,Iv 0,Iv 0,Iv 0,Iv 0,Iv 0,Iv 0,Iv 0,Iv 0,Iv 0,Iv 0,Iv 0,Iv 0,Iv 0,Iv 0,Iv 0,Iv 0,Iv 0,Iv 0,Iv 0,Iv 0,Iv 0,Iv 0,Iv 0,Iv 0,Iv 0,Iv 0,Iv 0,Iv 0,Iv 0,Iv 0,Iv 0,Iv 0,Iv 0,Iv 0,Iv 0,Iv 0,Iv 0,Iv 0,Iv 0,Iv 0,Iv 0,Iv 0,Iv 0,Iv 0,Iv 0,Iv 0,Iv 0,Iv 0,Iv 0,Iv 0,Iv 0,Iv 0,Iv 0,Iv 0,Iv 0,Iv 0,Iv 0,Iv 0,Iv 0,Iv 0,Iv 0,Iv 0,Iv 0,Iv 0,Iv 0,Iv 0,Iv 0,Iv 0,Iv 0,Iv 0,Iv 0,Iv 0,Iv 0,Iv 0,Iv 0,Iv 0] 147) g w
def qF(f:bj6)(a:cf bH)(w:bI)(g:Bool->bi9):Prop:=Calls P f a w λe w2=>∃a0,e=.returned (.bool a0)/\g a0 w2
def qA(w:bI)(a:Addr)(g:Int->Int->Int->Int->Prop):Prop:=∃a0,w.cell? (a.add 0)=some (Iv a0)/\∃b,w.cell? (a.add 1)=some (Iv b)/\∃c,w.cell? (a.add 2)=some (Iv c)/\∃a3,w.cell? (a.add 3)=some (Iv a3)/\g a0 b c a3
def qE(f:bj6)(a:cf bH)(w:bI)(g:bi9):Prop:=Calls P f a w λe w2=>e=.returned (.tuple #[])/\g w2
def qL(w:bI)(a:Addr)(n:Nat)(g:Int->Prop):Prop:=∃x,w.cell? (a.add n)=some (Iv x)/\g x
def qI(a0 d:Int)(w:bI)(g:(Int->Int->bi9)->Int->Int->bi9):Prop:=∃(c:Int->Int->bi9) (M:Int->Int->bI->Nat),c a0 d w/\∀_:Nat->bH,∀b0 b1,∀w,c b0 b1 w->g (λa b v=>c a b v/\M a b v<M b0 b1 w) b0 b1 w
def qW(l:Sl)(i:Int)(k:Nat)(g:Addr->Prop):Prop:=cF l.p l.n i k g
def qz(w:bI)(g:Addr->bi9):Prop:=Al (.cells #[Iv 0,Iv 0,Iv 0,Iv 0,Iv 0,Iv 0,Iv 0,Iv 0,Iv 0,Iv 0,Iv 0,Iv 0,Iv 0,Iv 0,Iv 0,Iv 0,Iv 0,Iv 0,Iv 0,Iv 0,Iv 0,Iv 0,Iv 0,Iv 0,Iv 0,Iv 0,Iv 0,Iv 0,Iv 0,Iv 0,Iv 0,Iv 0,Iv 0,Iv 0,Iv 0,Iv 0,Iv 0,Iv 0,Iv 0,Iv 0,Iv 0,Iv 0,Iv 0,Iv 0,Iv 0,Iv 0,Iv 0,Iv 0,Iv 0,Iv 0,Iv 0,Iv 0,Iv 0,Iv 0,Iv 0,Iv 0,Iv 0,Iv 0,Iv 0,Iv 0,Iv 0,Iv 0,Iv 0,Iv 0,Iv 0,Iv 0,Iv 0,Iv 0,Iv 0,Iv 0,Iv 0,Iv 0,Iv 0,Iv 0,Iv 0,Iv 0,Iv 0,Iv 0,Iv 0,Iv 0,Iv 0,Iv 0,Iv 0,Iv 0,Iv 0,Iv 0,Iv 0,Iv 0,Iv 0,Iv 0,Iv 0,Iv 0,Iv 0,Iv 0,Iv 0,Iv 0,Iv 0,Iv 0,Iv 0,Iv 0,Iv 0,Iv 0,Iv 0,Iv 0,Iv 0,Iv 0,Iv 0,Iv 0,Iv 0,Iv 0,Iv 0,Iv 0,Iv 0,Iv 0,Iv 0,Iv 0,Iv 0,Iv 0,Iv 0,Iv 0,Iv 0,Iv 0,Iv 0,Iv 0,Iv 0,Iv 0,Iv 0,Iv 0,Iv 0,Iv 0,Iv 0,Iv 0,Iv 0,Iv 0,Iv 0,Iv 0,Iv 0,Iv 0,Iv 0,Iv 0,Iv 0,Iv 0,Iv 0,Iv 0,Iv 0,Iv 0,Iv 0,Iv 0,Iv 0,Iv 0,Iv 0,Iv 0,Iv 0,Iv 0,Iv 0,Iv 0,Iv 0,Iv 0,Iv 0,Iv 0,Iv 0,Iv 0,Iv 0,Iv 0,Iv 0,Iv 0,Iv 0,Iv 0,Iv 0,Iv 0,Iv 0,Iv 0,Iv 0,Iv 0,Iv 0,Iv 0,Iv 0,Iv 0,Iv 0,Iv 0,Iv 0,Iv 0,Iv 0,Iv 0,Iv 0,Iv 0,Iv 0,Iv 0,Iv 0,Iv 0,Iv 0,Iv 0,Iv 0,Iv 0,Iv 0,Iv 0,Iv 0,Iv 0,Iv 0,Iv 0,Iv 0,Iv 0,Iv 0,Iv 0,Iv 0,Iv 0,Iv 0,Iv 0,Iv 0,Iv 0,Iv 0,Iv 0,Iv 0,Iv 0,Iv 0,Iv 0,Iv 0,Iv 0,Iv 0,Iv 0,Iv 0,Iv 0,Iv 0,Iv 0,Iv 0,Iv 0,Iv 0,Iv 0,Iv 0,Iv 0,Iv 0,Iv 0,Iv 0,Iv 0,Iv 0,Iv 0,Iv 0,Iv 0,Iv 0,Iv 0,Iv 0,Iv 0,Iv 0,Iv 0,Iv 0,Iv 0,Iv 0,Iv 0,Iv 0,Iv 0,Iv 0,Iv 0,Iv 0,Iv 0,Iv 0,Iv 0] 151) g w
def qj(f:bj6)(a:cf bH)(w:bI)(g:Int->Int->bi9):Prop:=Calls P f a w λe w2=>∃a0,∃b,e=.returned (.tuple #[Iv a0,Iv b])/\g a0 b w2
def qx(w:bI)(g:Addr->bi9):Prop:=Al (.cells #[Iv 0,Iv 0,.bool false] 189) g w
def qy(w:bI)(a:Addr)(n:Nat)(g:Bool->Prop):Prop:=∃x,w.cell? (a.add n)=some (.bool x)/\g x
def qg(f:(bi9)->Prop)(g:bi9):Prop:=∃J,f J/\∀_:Nat->bH,∀w,J w->g w
def qh(f:(Bool->bi9)->Prop)(g:Bool->bi9):Prop:=∃J,f J/\∀_:Nat->bH,∀b0 w,J b0 w->g b0 w
def qm(w:bI)(a:Addr)(g:Bool->Prop):Prop:=∃x,w.cell? a=some (.bool x)/\g x
def qp(f:bj6)(a:cf bH)(w:bI)(g:Int->Bool->bi9):Prop:=Calls P f a w λe w2=>∃a0,∃b,e=.returned (.tuple #[Iv a0,.bool b])/\g a0 b w2
def qo(f:bj6)(a:cf bH)(w:bI)(g:Int->Int->bi9):Prop:=Calls P f a w λe w2=>∃a0,∃b,e=.returned (.tuple #[.int .u8 a0,Iv b])/\g a0 b w2
def qd(w:bI)(g:(bi9)->bi9):Prop:=∃(a:bi9) (M:bI->Nat),a w/\∀_:Nat->bH,∀w,a w->g (λv=>a v/\M v<M w) w
def qc(w:bI)(a:Addr)(g:Sl->Prop):Prop:=∃x,w.cell? a=some (Sv x)/\g x
def qb(w:bI)(a:Addr)(g:cm->Prop):Prop:=∃x,w.cell? a=some (Pv x)/\g x
def qf(a0:Sl)(d:Int)(w:bI)(g:(Sl->Int->bi9)->Sl->Int->bi9):Prop:=∃(c:Sl->Int->bi9) (M:Sl->Int->bI->Nat),c a0 d w/\∀_:Nat->bH,∀b0 b1,∀w,c b0 b1 w->g (λa b v=>c a b v/\M a b v<M b0 b1 w) b0 b1 w
def qa(w:bI)(a:Addr)(g:Int->Int->Bool->Prop):Prop:=∃a0,w.cell? (a.add 0)=some (Iv a0)/\∃b,w.cell? (a.add 1)=some (Iv b)/\∃c,w.cell? (a.add 2)=some (.bool c)/\g a0 b c
def ql(w:bI)(a:Addr)(g:Int->Int->Int->Prop):Prop:=∃a0,w.cell? (a.add 0)=some (Iv a0)/\∃b,w.cell? (a.add 1)=some (Iv b)/\∃c,w.cell? (a.add 2)=some (Iv c)/\g a0 b c
def qi(w:bI)(g:Addr->bi9):Prop:=Al (.cells #[Iv 0,Iv 0,Iv 0] 247) g w
def qw(w:bI)(g:Addr->bi9):Prop:=Al (.cells #[Iv 0,Iv 0] 239) g w
def q9(f:(Int->bi9)->Prop)(g:Int->bi9):Prop:=∃J,f J/\∀_:Nat->bH,∀b0 w,J b0 w->g b0 w
def zQ(f:bj6)(a:cf bH)(w:bI)(g:ByteArray->Int->bi9):Prop:=Calls P f a w λe w2=>∃a0,∃b,e=.returned (.tuple #[.string a0,Iv b])/\g a0 b w2
def zZ(w:bI)(a:Addr)(g:Int->Int->Prop):Prop:=∃a0,w.cell? (a.add 0)=some (Iv a0)/\∃b,w.cell? (a.add 1)=some (Iv b)/\g a0 b
def zJ(f:bj6)(a:cf bH)(w:bI)(g:ByteArray->bi9):Prop:=Calls P f a w λe w2=>∃a0,e=.returned (.string a0)/\g a0 w2
def zX(f:bj6)(a:cf bH)(w:bI)(g:Int->Int->Int->bi9):Prop:=Calls P f a w λe w2=>∃a0,∃b,∃c,e=.returned (.tuple #[Iv a0,Iv b,Iv c])/\g a0 b c w2
def zY(a:cf bH)(w:bI)(g:Addr->bi9):Prop:=Al (.cells a 162) g w
def zV(a0:Int)(e:Sl)(f:Int)(w:bI)(g:(Int->Sl->Int->bi9)->Int->Sl->Int->bi9):Prop:=∃(d:Int->Sl->Int->bi9) (M:Int->Sl->Int->bI->Nat),d a0 e f w/\∀_:Nat->bH,∀b0 b1 b2,∀w,d b0 b1 b2 w->g (λa b c v=>d a b c v/\M a b c v<M b0 b1 b2 w) b0 b1 b2 w
def zU(f:bj6)(a:cf bH)(w:bI)(g:Int->bi9):Prop:=Calls P f a w λe w2=>∃a0,e=.returned (.int .u64 a0)/\g a0 w2
def zK(w:bI)(g:Addr->bi9):Prop:=Al (.cells #[.bool false,.bool false,.bool false,.bool false,.bool false,.bool false,.bool false,.bool false,.bool false,.bool false,.bool false,.bool false,.bool false,.bool false,.bool false,.bool false,.bool false,.bool false,.bool false,.bool false,.bool false,.bool false,.bool false,.bool false,.bool false,.bool false,.bool false,.bool false,.bool false,.bool false,.bool false,.bool false,.bool false,.bool false,.bool false,.bool false,.bool false,.bool false,.bool false,.bool false,.bool false,.bool false,.bool false,.bool false,.bool false,.bool false,.bool false,.bool false,.bool false,.bool false,.bool false,.bool false,.bool false,.bool false,.bool false,.bool false,.bool false,.bool false,.bool false,.bool false,.bool false,.bool false,.bool false,.bool false] 289) g w
def zG(w:bI)(a:Addr)(v:bH)(g:Int->Prop):Prop:=∃x,w.cell? a=some (Iv x)/\(Iv x)=v/\g x
def zH(w:bI)(a:Addr)(n:Nat)(v:bH)(g:Int->Prop):Prop:=∃x,w.cell? (a.add n)=some (Iv x)/\(Iv x)=v/\g x
def zT(a0:Sl)(e f:Int)(w:bI)(g:(Sl->Int->Int->bi9)->Sl->Int->Int->bi9):Prop:=∃(d:Sl->Int->Int->bi9) (M:Sl->Int->Int->bI->Nat),d a0 e f w/\∀_:Nat->bH,∀b0 b1 b2,∀w,d b0 b1 b2 w->g (λa b c v=>d a b c v/\M a b c v<M b0 b1 b2 w) b0 b1 b2 w
def zN(f:bj6)(a:cf bH)(w:bI)(g:Int->Int->bi9):Prop:=Calls P f a w λe w2=>∃a0,∃b,e=.returned (.tuple #[.int .u64 a0,.int .u64 b])/\g a0 b w2
def zM(w:bI)(a:Addr)(g:Int->Int->Prop):Prop:=∃a0,w.cell? (a.add 0)=some (Iv a0)/\∃b,w.cell? (a.add 1)=some (.int .u64 b)/\g a0 b
def zS(w:bI)(a:Addr)(n:Nat)(v:bH)(g:bX Nat->Prop):Prop:=∃x,w.cell? (a.add n)=some (.map x)/\(.map x)=v/\g x
def zR(w:bI)(a:Addr)(g:Int->Int->Int->Int->Int->Bool->Prop):Prop:=∃a0,w.cell? (a.add 0)=some (Iv a0)/\∃b,w.cell? (a.add 1)=some (Iv b)/\∃c,w.cell? (a.add 2)=some (Iv c)/\∃a3,w.cell? (a.add 3)=some (Iv a3)/\∃a4,w.cell? (a.add 4)=some (Iv a4)/\∃a5,w.cell? (a.add 5)=some (.bool a5)/\g a0 b c a3 a4 a5
def zP(f:(Int->Int->bi9)->Prop)(g:Int->Int->bi9):Prop:=∃J,f J/\∀_:Nat->bH,∀b0 b1 w,J b0 b1 w->g b0 b1 w
def zO(f:bj6)(a:cf bH)(w:bI)(g:Int->Int->Bool->bi9):Prop:=Calls P f a w λe w2=>∃a0,∃b,∃c,e=.returned (.tuple #[Iv a0,Iv b,.bool c])/\g a0 b c w2
def zD(w:bI)(g:Addr->bi9):Prop:=Al (.cells #[.int .u8 0,.int .u8 0,.int .u8 0,.int .u8 0,.int .u8 0,.int .u8 0,.int .u8 0,.int .u8 0,.int .u8 0,.int .u8 0,.int .u8 0,.int .u8 0,.int .u8 0,.int .u8 0,.int .u8 0,.int .u8 0] 318) g w
def zC(f:bj6)(a:cf bH)(w:bI)(g:Int->Int->bi9):Prop:=Calls P f a w λe w2=>∃a0,∃b,e=.returned (.tuple #[Iv a0,.int .u64 b])/\g a0 b w2
def zB(f:bj6)(a:cf bH)(w:bI)(g:Int->Int->bi9):Prop:=Calls P f a w λe w2=>∃a0,∃b,e=.returned (.tuple #[.int .u64 a0,Iv b])/\g a0 b w2
def zF(f:bj6)(a:cf bH)(w:bI)(g:Sl->Int->bi9):Prop:=Calls P f a w λe w2=>∃a0,∃b,e=.returned (.tuple #[Sv a0,Iv b])/\g a0 b w2
def zA(a0 e f:Int)(w:bI)(g:(Int->Int->Int->bi9)->Int->Int->Int->bi9):Prop:=∃(d:Int->Int->Int->bi9) (M:Int->Int->Int->bI->Nat),d a0 e f w/\∀_:Nat->bH,∀b0 b1 b2,∀w,d b0 b1 b2 w->g (λa b c v=>d a b c v/\M a b c v<M b0 b1 b2 w) b0 b1 b2 w
def zL(w:bI)(a:Addr)(g:Int->Int->Int->Int->Int->Prop):Prop:=∃a0,w.cell? (a.add 0)=some (Iv a0)/\∃b,w.cell? (a.add 1)=some (Iv b)/\∃c,w.cell? (a.add 2)=some (Iv c)/\∃a3,w.cell? (a.add 3)=some (Iv a3)/\∃a4,w.cell? (a.add 4)=some (Iv a4)/\g a0 b c a3 a4
def zI(w:bI)(a:Addr)(g:Int->Int->Sl->Prop):Prop:=∃a0,w.cell? (a.add 0)=some (Iv a0)/\∃b,w.cell? (a.add 1)=some (Iv b)/\∃c,w.cell? (a.add 2)=some (Sv c)/\g a0 b c
def zW(w:bI)(g:Addr->bi9):Prop:=Al (.cells #[Iv 0,Iv 0,aP8] 33) g w
def zq(w:bI)(a:Addr)(g:Int->cm->Prop):Prop:=∃a0,w.cell? (a.add 0)=some (Iv a0)/\∃b,w.cell? (a.add 1)=some (Pv b)/\g a0 b
def zz(w:bI)(g:Addr->bi9):Prop:=Al (.cells #[Iv 0,Iv 0,.bool false] 42) g w
def zx(f:bj6)(a:cf bH)(w:bI)(g:Int->Int->Sl->bi9):Prop:=Calls P f a w λe w2=>∃a0,∃b,∃c,e=.returned (.agg #[Iv a0,Iv b,Sv c])/\g a0 b c w2
def zy(f:bj6)(a:cf bH)(w:bI)(g:Int->Int->Bool->Bool->Bool->bi9):Prop:=Calls P f a w λe w2=>∃a0,∃b,∃c,∃a3,∃a4,e=.returned (.tuple #[.agg #[Iv a0,Iv b,.bool c,.bool a3],.bool a4])/\g a0 b c a3 a4 w2
def zu(w:bI)(g:Addr->bi9):Prop:=Al (.cells #[Iv 0,Iv 0,.bool false,.bool false] 125) g w
def zk(f:bj6)(a:cf bH)(w:bI)(g:Int->Int->Int->Int->Int->Int->Bool->Bool->bi9):Prop:=Calls P f a w λe w2=>∃a0,∃b,∃c,∃a3,∃a4,∃a5,∃d,∃h,e=.returned (.tuple #[Iv a0,.agg #[Iv b,Iv c,Iv a3,Iv a4,Iv a5,.bool d],.bool h])/\g a0 b c a3 a4 a5 d h w2
def zg(w:bI)(g:Addr->bi9):Prop:=Al (.cells #[Iv 0,Iv 0,Iv 0,Iv 0,Iv 0,.bool false] 162) g w
def zh(f:bj6)(a:cf bH)(w:bI)(g:Int->Bool->bi9):Prop:=Calls P f a w λe w2=>∃a0,∃b,e=.returned (.tuple #[.int .u64 a0,.bool b])/\g a0 b w2
def zt(f:bj6)(a:cf bH)(w:bI)(g:Int->Int->Bool->Bool->Int->bi9):Prop:=Calls P f a w λe w2=>∃a0,∃b,∃c,∃a3,∃a4,e=.returned (.tuple #[.agg #[Iv a0,Iv b,.bool c,.bool a3],Iv a4])/\g a0 b c a3 a4 w2
def zn(w:bI)(a:Addr)(g:Int->Int->Bool->Bool->Prop):Prop:=∃a0,w.cell? (a.add 0)=some (Iv a0)/\∃b,w.cell? (a.add 1)=some (Iv b)/\∃c,w.cell? (a.add 2)=some (.bool c)/\∃a3,w.cell? (a.add 3)=some (.bool a3)/\g a0 b c a3
def zm(f:bj6)(a:cf bH)(w:bI)(g:Int->Int->Int->Int->Int->Bool->Bool->bi9):Prop:=Calls P f a w λe w2=>∃a0,∃b,∃c,∃a3,∃a4,∃a5,∃d,e=.returned (.tuple #[.agg #[Iv a0,Iv b,Iv c,Iv a3,Iv a4,.bool a5],.bool d])/\g a0 b c a3 a4 a5 d w2
def zo(w:bI)(a:Addr)(v:bH)(g:cm->Prop):Prop:=∃x,w.cell? a=some (Pv x)/\(Pv x)=v/\g x
def zb(a0:cm)(d:Int)(w:bI)(g:(cm->Int->bi9)->cm->Int->bi9):Prop:=∃(c:cm->Int->bi9) (M:cm->Int->bI->Nat),c a0 d w/\∀_:Nat->bH,∀b0 b1,∀w,c b0 b1 w->g (λa b v=>c a b v/\M a b v<M b0 b1 w) b0 b1 w
def zf(f:bj6)(a:cf bH)(w:bI)(g:Int->Int->Int->Int->Int->Bool->bi9):Prop:=Calls P f a w λe w2=>∃a0,∃b,∃c,∃a3,∃a4,∃a5,e=.returned (.agg #[Iv a0,Iv b,Iv c,Iv a3,Iv a4,.bool a5])/\g a0 b c a3 a4 a5 w2
def za(w:bI)(a:Addr)(n:Nat)(v:bH)(g:Bool->Prop):Prop:=∃x,w.cell? (a.add n)=some (.bool x)/\(.bool x)=v/\g x
def zw(w:bI)(g:Addr->bi9):Prop:=Al (.cells #[Iv 3,Iv 0,Iv 0,Iv 0,Iv 0,Iv 5,Iv 0,Iv 2,Iv 0,Iv 0,Iv 9,Iv 0,Iv 20,Iv 7,Iv 0,Iv 8,Iv 0,Iv 20,Iv 0,Iv 0,Iv 8,Iv 0,Iv 21,Iv 0,Iv 0] 37) g w
end Go.Mp
namespace Go.Mp
open Go Go.Vc Go.Proofs
variable{K:bj0}{w:bI}
variable(K w)
def Le(c:cm)(g:Int):=
 NN c λa=>qZ w (a.add 1) 2 λd=>qQ yt #[Pv d,Iv g] w λe b=>K (Iv e) b
def Lf(c:cm)(g:Int):=
 NN c λa=>qZ w (a.add 4) 2 λd=>qQ yt #[Pv d,Iv g] w λe b=>K (Iv e) b
def Lg(c:cm)(id:Int):=
 qV w λb w2=>NN c λa3=>qZ w2 a3 10 λu=>qX p9 #[Pv u,Iv id] w2 λv x y m n o p q r s t=>qU [Iv v,Iv x,Iv y,Iv m,Iv n,Iv o,Iv p,.bool q,.bool r] b t λa=>qY a b λd e f g h i j k l=>K (.tuple #[.agg #[Iv d,Iv e,Iv f,Iv g,Iv h,Iv i,Iv j,.bool k,.bool l],Iv s]) a
def Lh(c:cm):=
 NN c λa=>qZ w a 0 λb=>K (Pv b) w
def Li(c:cm)(g:Int):=
 qH CJ #[Pv c,Iv g] w λb d e f a=>K (Iv b) a
def Lj(t:cm):=
 NN t λa=>qM w a 0 λd=>qN CK #[.map d] w λe b=>qJ yI #[e] b λf c=>K (Sv f) c
def Lk(t:cm)(id:Int):=
 qV w λa w2=>NN t λa3=>qM w2 a3 0 λF=>∃d:cm,gE P 117 (.map F) (Iv id) false w2 (Pv d)/\cond (!d.isNone) (NN d λE=>qY w2 E λG H I y z A B C D=>qU [Iv G,Iv H,Iv I,Iv y,Iv z,Iv A,Iv B,.bool C,.bool D] a w2 λb=>qY b a λe f g h i j k l m=>K (.tuple #[.agg #[Iv e,Iv f,Iv g,Iv h,Iv i,Iv j,Iv k,.bool l,.bool m],Iv 0]) b) (qU [Iv 0,Iv 0,Iv 0,Iv 0,Iv 0,Iv 0,Iv 0,.bool false,.bool false] a w2 λc=>qY c a λn o p q r s u v x=>K (.tuple #[.agg #[Iv n,Iv o,Iv p,Iv q,Iv r,Iv s,Iv u,.bool v,.bool x],Iv 2]) c)
def Ll(t:cm)(g:Int):=
 qN CL #[Pv t,Iv g] w λc a=>qJ yK #[c] a λd b=>K (Sv d) b
def Lm:=
 Al (.cells #[Iv (-1),.bool true] 133) (λa w2=>Al (.cells #[.slice (some a) 1 1] 99) (λb c=>K (Pv (some b)) c) w2) w
def Ln(n:Int):=
 Al (.cells #[Pv none,Pv none,Pv none] 76) (λb w2=>qR Jp #[Iv n] w2 λj g=>qR Jq #[Iv n] g λk h=>qR Jr #[] h λf i=>qU [Pv j,Pv k,Pv f] b i λa=>qP a b λc d e=>K (.agg #[Pv c,Pv d,Pv e]) a) w
def Lo(bU:Sl):=
 m0 (λo w2=>Al (.cells #[aP8,.map (some o),Iv 0] 139) (λd p=>((0:Int)<=(min1 ((bU.n:Nat):Int) 32)/\(min1 ((bU.n:Nat):Int) 32)<=((bU.c:Nat):Int))/\qO 0 p λn e a=>cond (decide (e<((((min1 ((bU.n:Nat):Int) 32).toNat-0):Nat):Int))) (cF (gA bU.p 0 bU.c 1) ((min1 ((bU.n:Nat):Int) 32).toNat-0) e 1 λf=>qD a f λl=>NN (some d) λg=>qK a g 0 λm=>qC #[Iv (min1 (eR l 0) 4096)] a λi j=>∃c:Sl,∃b:bI,Sem.run P (Builtin.append_ #[22,22] 22 #[Sv m,.slice (some i) 1 1]) j=.ok (Sv c) b/\NN (some d) λh=>St (h.add 0) (Sv c) (λk=>(n (i64.wrap (e+1)) k)) b) (K (Pv (some d)) a)) w2) w
def Lp:=
 m0 (λa w2=>Al (.cells #[.map (some a)] 142) (λb c=>K (Pv (some b)) c) w2) w
def Lq:=
 qB w λa w2=>K (Pv (some a)) w2
def Lr:=
 m0 (λa w2=>m0 (λb e=>m0 (λc f=>Al (.cells #[.map (some a),.map (some b),.map (some c),Iv 0] 122) (λd g=>K (Pv (some d)) g) f) e) w2) w
def Ls(c:cm)(g:Int):=
 Al (.cells #[Iv 0,Iv 0,Iv 0,Iv 0] 107) (λa w2=>qF yL #[Iv g] w2 λu d=>dO u (qU [Iv 0,Iv 0,Iv 0,Iv 0] a d λm=>qA m a λr s t h=>K (.agg #[Iv r,Iv s,Iv t,Iv h]) m) (NN c λe=>cF (some (e.add 0)) 64 g 4 λf=>qA d f λn o p q=>qU [Iv n,Iv o,Iv p,Iv q] a d λb=>qA b a λi j k l=>K (.agg #[Iv i,Iv j,Iv k,Iv l]) b)) w
def Lt(m:cm):=
 NN m λa=>qL w a 0 λb=>K (Iv b) w
def Lu(seq:bH):=
 qJ JH #[aP8,seq] w λb a=>K (Sv b) a
def Lv(t:cm)(g:Int):=
 Al (.cells #[Pv t] 62) (λa w2=>qC #[Iv g] w2 λb c=>K (.func (.func tm) #[] #[Pv (some a),Pv (some b)]) c) w
def Lw(n:Int):=
 qR JI #[Iv (min1 n 1024)] w λd b=>Al (.cells #[Pv d] 130) (λa c=>K (Pv (some a)) c) b
def Lx(n:Int):=
 ∃b:Sl,∃a:bI,Sem.run P (Instr.makeSlice 185 (Iv (min1 (eR n 0) 1024)) (Iv (min1 (eR n 0) 1024))) w=.ok (Sv b) a/\Al (.cells #[Sv b] 187) (λc d=>K (Pv (some c)) d) a
def Ly:=
 qz w λb w2=>qO 0 w2 λe a d=>ej a 64 (NN (some b) λf=>cF (some (f.add 0)) 64 a 4 λa9=>St (a9.add 1) (Iv 1099511627776) (λc=>(e (i64.wrap (a+1)) c)) d) (K (Pv (some b)) d)
def Lz(g:Int):=
 cond (decide ((0:Int)<=g)) (K (.bool (decide (g<64))) w) (K aP2 w)
def LA(c:cm)(parent:Int):=
 NN c λr=>qZ w r 0 λu=>qj JJ #[Pv u,Iv parent] w λq h g=>cond (h==0) (NN c λs=>qK g s 12 λv=>qx g λt m=>∃e:Sl,∃a:bI,Sem.run P (Builtin.append_ #[82,82] 82 #[Sv v,.slice (some t) 1 1]) m=.ok (Sv e) a/\NN c λi=>St (i.add 12) (Sv e) (λb=>NN c λj=>qK b j 13 λp=>qC #[Iv parent] b λl n=>∃f:Sl,∃d:bI,Sem.run P (Builtin.append_ #[22,22] 22 #[Sv p,.slice (some l) 1 1]) n=.ok (Sv f) d/\NN c λk=>St (k.add 13) (Sv f) (λo=>K (.tuple #[Iv q,Iv h]) o) d) a) (K (.tuple #[Iv q,Iv h]) g)
def LB(t:cm)(g:Int):=
 cond (decide ((0:Int)<=g)) (NN t λa=>qK w a 0 λb=>e7 g b.n (NN t λa3=>qK w a3 0 λc=>qW c g 2 λa5=>qy w a5 1 λd=>K (.bool d) w) (K aP2 w)) (K aP2 w)
def LC(c:cm)(g:Int):=
 NN c λI=>qZ w I 0 λL=>qQ JK #[Pv L,Iv g] w λH u=>NN c λJ=>qZ u J 0 λM=>qQ JL #[Pv M,Iv g] u λj l=>cond (j !=0) (K (Iv j) l) (NN c λo=>qZ l o 10 λA=>qJ JM #[Pv A,Iv g] l λk s=>qO 0 s λm d a=>e7 d k.n (qW k d 1 λp=>qD a p λB=>NN c λa23=>qZ a a23 10 λC=>qQ CU #[Pv C,Iv B,Iv H] a λN t=>(m (i64.wrap (d+1)) t)) (NN c λa28=>qZ a a28 8 λD=>qQ JN #[Pv D,Iv g,Iv H] a λO v=>Dr (λb=>NN c λq=>qZ b (q.add 1) 2 λE=>NN c λa36=>qZ b (a36.add 4) 2 λF=>qO 0 b λn e h=>ej e 2 (∃f:cm,∃i:bI,Sem.run P (Instr.index 190 (.agg #[Pv E,Pv F]) (Iv e)) h=.ok (Pv f) i/\qC #[Iv g] i λr x=>qQ yt #[Pv f,Iv g] x λG y=>qQ tn #[Pv f,.slice (some r) 1 1,Iv G] y λQ z=>(n (i64.wrap (e+1)) z)) (K (Iv 0) h)) v))
def LD(c:cm)(g what n:Int):=
 qg (λt=>NN c λa4=>qZ w a4 0 λu=>qF ku #[Pv u,Iv g] w λv b=>dO v (K (Iv 2) b) (ej n 0 (K (Iv 1) b) (cond (decide (n>1099511627776)) (K (Iv 1) b) (t b)))) λw2=>NN c λa9=>qK w2 a9 12 λo=>qW o g 3 λa=>cond (what==0) (NN (some a) λd=>St (d.add 0) (Iv n) (λi=>K (Iv 0) i) w2) (cond (what==1) (NN (some a) λe=>St (e.add 1) (Iv n) (λj=>K (Iv 0) j) w2) (cond (what==2) (NN c λf=>qZ w2 (f.add 1) 2 λp=>qQ CV #[Pv p,Iv g,Iv n] w2 λq k=>K (Iv q) k) (cond (what==3) (NN c λh=>qZ w2 (h.add 4) 2 λr=>qQ CV #[Pv r,Iv g,Iv n] w2 λs l=>K (Iv s) l) (cond (what==4) (cond (decide (n>1)) (K (Iv 1) w2) (NN (some a) λa26=>St (a26.add 2) (.bool (n==1)) (λm=>K (Iv 0) m) w2)) (K (Iv 1) w2)))))
def LF(c:cm)(target:Int):=
 NN c λl=>qZ w l 0 λn=>qJ tp #[Pv n,Iv target] w λj m=>qI 0 0 m λk n10 a b=>e7 a j.n (qW j a 1 λd=>qD b d λg=>NN c λe=>qZ b e 8 λh=>qQ JO #[Pv h,Iv g] b λi f=>(k (i64.wrap (n10+i)) (i64.wrap (a+1)) f)) (K (Iv n10) b)
def LG(c:cm)(target n:Int):=
 qg (λW=>NN c λa4=>qZ w a4 0 λX=>qF ku #[Pv X,Iv target] w λY o=>dO Y (K (Iv 0) o) (ej n 1 (K (Iv 0) o) (cond (decide (n>1000)) (K (Iv 0) o) (W o)))) λw2=>NN c λa9=>qZ w2 a9 0 λJ=>qJ tp #[Pv J,Iv target] w2 λd D=>qJ rX #[Pv c,Iv target,(.func (.func vD) #[] #[])] D λL E=>qJ rX #[Pv c,Iv target,(.func (.func vF) #[] #[])] E λM F=>∃k:Sl,∃s:bI,Sem.run P (Instr.makeSlice 22 (Iv ((d.n:Nat):Int)) (Iv ((d.n:Nat):Int))) F=.ok (Sv k) s/\qO 0 s λp h f=>e7 h d.n (qW d h 1 λa27=>qD f a27 λl=>qh (λr=>qW L l 1 λa33=>qm f a33 λO=>dO O (qW M l 1 λa35=>qm f a35 λQ=>r (!Q) f) (r false f)) λN i=>cond N (NN c λB=>qZ i B 8 λR=>qQ JP #[Pv R,Iv l] i λS G=>qW k h 1 λC=>St C (Iv S) (λH=>(p (i64.wrap (h+1)) H)) G) ((p (i64.wrap (h+1)) i))) (qJ JQ #[Iv n,Sv k] f λy I=>qI 0 0 I λz g a j=>e7 a y.n (qW y a 1 λa53=>qD j a53 λT=>qI g 0 j λq e m t=>ej m T (((0:Int)<=(i64.wrap (a+1))/\(i64.wrap (a+1))<=((d.c:Nat):Int))/\((0:Int)<=a/\a<=(((i64.wrap (a+1)).toNat:Nat):Int))/\qF yQ #[Pv c,Iv target,.slice (gA d.p a.toNat d.c 1) ((i64.wrap (a+1)).toNat-a.toNat) (d.c-a.toNat),.bool false] t λU u=>cond U ((q (i64.wrap (e+1)) (i64.wrap (m+1)) u)) ((q e (i64.wrap (m+1)) u))) ((z e (i64.wrap (a+1)) t))) (qO g j λA b v=>ej b n (qF tq #[Pv c,Iv target] v λV x=>cond V ((A (i64.wrap (b+1)) x)) (K (Iv b) x)) (K (Iv b) v)))
def LH(c:cm):=
 NN c λa=>qZ w a 7 λd=>qQ JS #[Pv d] w λe b=>K (Iv e) b
def LI(c:cm)(file:Int):=
 NN c λa=>qZ w a 7 λd=>qQ CX #[Pv d,Iv file] w λe b=>K (Iv e) b
def LJ(c:cm)(id f:Int):=
 qp C4 #[Pv c,Iv id] w λj k b=>dO k (K (.tuple #[.int .u8 0,Iv 2]) b) (NN c λa5=>qZ b (a5.add 1) 1 λl=>qo JW #[Pv l,Iv j,Iv f] b λi a d=>cond (a==0) (NN c λe=>qZ d e 8 λh=>qQ yS #[Pv h,Iv id] d λm g=>K (.tuple #[.int .u8 i,Iv a]) g) (K (.tuple #[.int .u8 i,Iv a]) d))
def LL(c:cm)(id i b:Int):=
 qp C4 #[Pv c,Iv id] w λm n d=>dO n (K (Iv 2) d) (NN c λa5=>qZ d (a5.add 1) 1 λo=>qQ J0 #[Pv o,Iv m,Iv i,.int .u8 b] d λf e=>cond (f==0) (NN c λg=>qZ e g 8 λk=>qQ yS #[Pv k,Iv id] e λp a=>NN c λh=>qZ a h 10 λl=>qQ C6 #[Pv l,Iv id,.bool true] a λq j=>K (Iv f) j) (K (Iv f) e))
def LM(c:cm)(id n:Int):=
 NN c λam=>qZ w am 10 λan=>qj J2 #[Pv an,Iv id,Iv n] w λao o m=>qg (λal=>cond (o !=0) (K (Iv o) m) (cond (decide (ao>0)) (K (Iv o) m) (al m))) λB=>NN c λp=>qZ B p 10 λC=>qX p9 #[Pv C,Iv id] B λD E F G H I J L M ap t=>qV t λa u=>qU [Iv D,Iv E,Iv F,Iv G,Iv H,Iv I,Iv J,.bool L,.bool M] a u λv=>Dr (λe=>NN c λa28=>qZ e a28 0 λN=>qL e a 4 λO=>qJ rW #[Pv N,Iv O] e λk b=>qg (λd=>qL b a 2 λl=>cond (l==1) (qY b a λP Q R S T U V W X=>qE C8 #[Pv c,Iv id,.agg #[Iv P,Iv Q,Iv R,Iv S,Iv T,Iv U,Iv V,.bool W,.bool X]] b λx=>Dr (λf=>NN c λq=>qP f (q.add 1) λY Z aa=>qL f a 3 λab=>qE rY #[.agg #[Pv Y,Pv Z,Pv aa],Iv ab,Sv k] f λi=>NN c λa57=>qZ i a57 8 λad=>qQ C9 #[Pv ad,Iv id] i λaq y=>d y) x) (cond (l==2) (Dr (λg=>NN c λa63=>qP g (a63.add 4) λae af ag=>qL g a 3 λah=>qE rY #[.agg #[Pv ae,Pv af,Pv ag],Iv ah,Sv k] g λz=>d z) b) (d b))) λh=>NN c λr=>qZ h r 10 λai=>qQ vH #[Pv ai,Iv id,Iv 0,Iv 0] h λar j=>NN c λs=>qZ j s 10 λaj=>qQ Da #[Pv aj,Iv id] j λak A=>K (Iv ak) A) v
variable{K w}
def Wx(c g)(h:Le K w c g):=bM {} #[Pv c,Iv g] K w func19 h
def Wy(c g)(h:Lf K w c g):=bM {} #[Pv c,Iv g] K w func20 h
def Wz(c id)(h:Lg K w c id):=bM {} #[Pv c,Iv id] K w func28 h
def WA(c)(h:Lh K w c):=bM {} #[Pv c] K w func30 h
def WB(c g)(h:Li K w c g):=bM {} #[Pv c,Iv g] K w func35 h
def WC(t)(h:Lj K w t):=bM {} #[Pv t] K w func39 h
def WD(t id)(h:Lk K w t id):=bM (z8 [14]) #[Pv t,Iv id] K w func41 h
def WE(t g)(h:Ll K w t g):=bM {} #[Pv t,Iv g] K w func43 h
def WG(h:Lm K w):=bM {} #[] K w func44 h
def WH(n)(h:Ln K w n):=bM {} #[Iv n] K w func45 h
def WI(bU)(h:Lo K w bU):=bM (z8 [11,12,14,16,25,26,31] [] [(3,[(15,jZ)])]) #[Sv bU] K w func46 h
def WJ(h:Lp K w):=bM {} #[] K w func47 h
def WK(h:Lq K w):=bM {} #[] K w func48 h
def WL(h:Lr K w):=bM {} #[] K w func49 h
def WM(c g)(h:Ls K w c g):=bM {} #[Pv c,Iv g] K w func50 h
def WN(m)(h:Lt K w m):=bM {} #[Pv m] K w func70 h
def WO(seq)(h:Lu K w seq):=bM {} #[seq] K w func72 h
def WQ(t g)(h:Lv K w t g):=bM {} #[Pv t,Iv g] K w func73 h
def WR(n)(h:Lw K w n):=bM (z8 [4]) #[Iv n] K w func74 h
def WS(n)(h:Lx K w n):=bM (z8 [4,5]) #[Iv n] K w func75 h
def WT(h:Ly K w):=bM (z8 [6,14] [] [(3,[(5,jZ)])]) #[] K w func76 h
def WU(g)(h:Lz K w g):=bM (z8 [4,7]) #[Iv g] K w func77 h
def WV(c parent)(h:LA K w c parent):=bM (z8 [18]) #[Pv c,Iv parent] K w func78 h
def WW(t g)(h:LB K w t g):=bM (z8 [6,13,14]) #[Pv t,Iv g] K w func79 h
def WX(c g)(h:LC K w c g):=bM {(z8 [24,32,34,44,64,73] [] [(6,[(33,jZ)]),(12,[(63,jZ)])]:dU)with head:=λr=>(bif r==11 then 12 else 0)} #[Pv c,Iv g] K w func80 h
def WY(c g what n)(h:LD K w c g what n):=bM (z8 [20,23,33,39,45,55,65,67,70] [] [] [(5,[])]) #[Pv c,Iv g,Iv what,Iv n] K w func81 h
def WZ(c target)(h:LF K w c target):=bM (z8 [14,16,26,27] [] [(3,[(5,jZ),(15,jZ)])]) #[Pv c,Iv target] K w func84 h
def W0(c target n)(h:LG K w c target n):=bM (z8 [25,29,44,47,49,74,78,80,86,92,96,97,98,101,108] [] [(6,[(48,jZ)]),(13,[(13,jZ),(79,jZ)]),(16,[(13,jZ),(85,jZ)]),(21,[(13,jZ)])] [(3,[]),(9,[(64,.bool)])]) #[Pv c,Iv target,Iv n] K w func85 h
def W1(c)(h:LH K w c):=bM {} #[Pv c] K w func89 h
def W2(c file)(h:LI K w c file):=bM {} #[Pv c,Iv file] K w func90 h
def W3(c id a)(h:LJ K w c id a):=bM (z8 [32]) #[Pv c,Iv id,Iv a] K w func95 h
def W4(c id a b)(h:LL K w c id a b):=bM (z8 [30]) #[Pv c,Iv id,Iv a,.int .u8 b] K w func100 h
def W5(c id n)(h:LM K w c id n):=bM (z8 [23,26,48,68] [(5,[jQ 8],[6]),(9,[jQ 8],[7]),(12,[jQ 8],[7])] [] [(4,[]),(13,[])]) #[Pv c,Iv id,Iv n] K w func102 h
end Go.Mp
