/- A part of the proof. -/
import Derived.Test.YtafigbgagbolgaaGreatDoorF05
import Derived.HandedShaped
import Derived.LaidMore
import Derived.JoinedOf
import Derived.Lay
import Derived.OpenShut
import Derived.Stop.LaidErr
import Derived.Lib.LaidTab
import Derived.SevenTiedAt
import Derived.Test.YtafigbgagbolgaaGreatDoorRows
import Derived.Test.YtafigbgagbolgaaGreatDoorTie
import Derived.Test.YtafigbgagbolgaaGreatDoorCards
set_option linter.all false
set_option maxRecDepth 100000
open Go.IntKind(i64 u64)
open Go.Proofs.Tryz
namespace Go.Sp
open Go Go.Vc Go.RowKit Go.ChangeShapes
section
variable{H:Type}{enc:cf×bE->H}
def awL{C:Checked}{os:Os}{f:bg7}{fn:Func}{s:ChangeSpec}{conds:bA PathCond}{apart fresh handsOn:Bool}{tb:cf}{X:bg0}(G:∀(w w':bH),w.heap=w'.heap->X w->X w')(own:ownKnob C.prog.godebug=none)(started:os.Started)(c:C.prog.inits.idxOf? f=none)(z:C.prog.funcs[f]?=some fn)(witness:∃(w:bH) (tape:Tape) (i:Input),w.os=os/\(w.forCall tape i).Shaped C.prog/\i.vars= []/\Input.okWide C.prog (w.forCall tape i) .any w.heap.size f i/\
   ((s.pre enc C.prog fn conds apart (w.forCall tape i).memory i.args/\X (w.forCall tape i).memory)/\sizedMet enc C.prog fn (OpenSpec.ofChange s) apart (w.forCall tape i).memory i.args)/\Assume.holds {} C.prog (lone (Frame.enter C.prog f i.args .normal) [] (w.forCall tape i)))(hl:laidOutB C.prog=true)(d:(fn.params.toList.all λt=>C.prog.readableRec t&&Nat.blt t C.prog.types.size)=true)(k:varsRowed C.prog s.vars=true)(n:fn.resultTypes.toList= [tb])(F:C.prog.underlying tb=some .bool)(g:∀b gs:bA (DataW H),b.length=fn.params.size->gs.length=s.vars.length->s.fn H (b++gs)= {results:=[.lit (.bool true)],args:=b,vars:=gs})(a:∀(W:bH) (base:Nat) (args:cb bE),args.size=fn.params.size->(∀(j:Nat) t v,fn.params[j]?=some t->args[j]?=some v->Rd C.prog W t v.cells.toList/\Value.okWide C.prog W .any base t v)->W.ShapedOpen C.prog->X W->
   Calls C.prog f args W (cA λv r=>v=.bool true/\Below W.heap.size W r)):
  ReturnsInHanded {} C os f .any (λw args=>(s.pre enc C.prog fn conds apart w args/\X w)/\sizedMet enc C.prog fn (OpenSpec.ofChange s) apart w args) (s.post enc C.prog fn apart fresh handsOn false):=by
 refine returnsInHanded_of_calls own started c witness ?_;intro w tape i _ D _ B m A;obtain⟨_,_,_,u,l,_,_,_,_,o⟩:=B;have e:u=fn:=cU (l.symm.trans z);subst e;obtain⟨⟨⟨b,gs,before,hw,M⟩,hx⟩,N⟩:=m;have y:=DataW.Whole.of_heap (w':=w.forCall tape i) (by rfl) hw;obtain⟨p,q,x,L,K,I,J⟩:=id y;refine(a (w.forCall tape i) w.heap.size i.args (by have:=(Df x).1;simpa using this) (λj t v E h=>⟨M0 x j t v (by simpa using E) (by simpa using h),o j t v E h⟩) D (G _ _ (by rfl) hx)).mono λe r ⟨v,he,h,hb⟩=>?_;subst he;subst h;exact ChangeSpec.post_blind (YU hl d k n F (g b gs) y hb)
end
end Go.Sp
namespace Go
def Ff(P:cP)(fn:Func)(s:ChangeSpec)(c:OpenClaim):Bool:=
 c.wf (OpenSpec.ofChange s)&&laidOutB P&&mapsRowed P&&fn.params.all (P.readableRec ·)&&namedTie P c.named s.vars
def Fg(P:cP)(f:bg7)(c:OpenClaim):Bool:=
 (c.stops== [])&&(P.stops== [])&&(c.knobs== [])&&(P.stopKnobs== [])&&(c.inPlace==P.inPlace f)
def Fh(P:cP)(f:bg7)(c:OpenClaim):Bool:=c.unfollowed==P.unfollowed f
def Fi(P:cP)(f:bg7)(c:OpenClaim):Bool:=c.recurses==P.recurses f
def Fj(P:cP)(f:bg7)(c:OpenClaim):Bool:=c.named==P.varsNamed f
def Fk(P:cP)(fn:Func)(s:ChangeSpec)(c:OpenClaim):Bool:=
 (c.maps==(fn.params.toList++s.plain.varTypes P).any (P.mapsRec ·))&&(c.ifaces==(fn.params.toList++s.plain.varTypes P).any (P.ifacesRec ·))&&(c.mapsOut==P.mapsAmong fn.resultTypes.toList)&&
 (c.loops==(fn.params.toList++s.plain.varTypes P).any (P.loopsFrom ·))&&(c.wideKeys==(fn.params.toList++s.plain.varTypes P++fn.resultTypes.toList).any (P.wideKeysFrom ·))
def Fl(P:cP)(fn:Func)(s:ChangeSpec)(c:OpenClaim):Bool:=
 s.vars.all (P.varReadable ·)&&fn.resultTypes.all (λt=>P.readableRec t&&decide (t<P.types.size))&&(c.ifacesOut==fn.resultTypes.toList.any (P.ifacesRec ·))&&(c.loopsOut==fn.resultTypes.toList.any (P.loopsFrom ·))&&(c.plainKeys==P.plainKeys)&&c.shortTexts.isNone
def Fm(P:cP)(c:OpenClaim):Bool:=P.stopsHeard&&P.mayEnter&&(c.lifted==P.liftsFinal)&&(P.make==some c.make)
def Fo(P:cP)(fn:Func)(s:ChangeSpec)(c:OpenClaim):Bool:=
 (c.kinds==(if c.domain.isEmpty then[]else fn.params.toList.map λt=>match P.underlying t with|some (.int k)=>some k|_=>none))&&(c.pinned==c.pinnedBy)&&
 (c.veiled==(fn.params.toList++s.plain.varTypes P++fn.resultTypes.toList).any (P.veiledRec ·))&&c.veiledFits P fn.params.toList (fn.params.toList++s.plain.varTypes P++fn.resultTypes.toList)
def aFm{P:cP}{f:bg7}{fn:Func}{s:ChangeSpec}{c:OpenClaim}(a:Ff P fn s c=true)(hB:Fg P f c=true)(h:Fh P f c=true)(i:Fi P f c=true)(j:Fj P f c=true)(b:Fk P fn s c=true)(d:Fl P fn s c=true)(e:Fm P c=true)(g:Fo P fn s c=true):
  joinedFacts P f fn s c=true:=by
 unfold Ff at a;unfold Fg at hB;unfold Fh at h;unfold Fi at i;unfold Fj at j;unfold Fk at b;unfold Fl at d;unfold Fm at e;unfold Fo at g;unfold joinedFacts;simp only[dA]at a hB b d e g ⊢;obtain⟨⟨⟨⟨k,l⟩,a3⟩,a4⟩,a5⟩:=a;obtain⟨⟨⟨⟨b1,b2⟩,b3⟩,b4⟩,b5⟩:=hB;obtain⟨⟨⟨⟨f1,f2⟩,f3⟩,f4⟩,f5⟩:=b;obtain⟨⟨⟨⟨⟨m,n⟩,o⟩,p⟩,q⟩,r⟩:=d;obtain⟨⟨⟨h1,h2⟩,t⟩,u⟩:=e;obtain⟨⟨⟨i1,i2⟩,i3⟩,i4⟩:=g;exact⟨⟨⟨⟨⟨⟨⟨⟨⟨⟨⟨⟨⟨⟨⟨⟨⟨⟨⟨⟨⟨⟨⟨⟨⟨⟨⟨⟨⟨⟨⟨k,l⟩,a3⟩,a4⟩,a5⟩,b1⟩,b2⟩,b3⟩,b4⟩,b5⟩,h⟩,i⟩,j⟩,f1⟩,f2⟩,f3⟩,f4⟩,f5⟩,m⟩,n⟩,o⟩,p⟩,q⟩,r⟩,h1⟩,h2⟩,t⟩,u⟩,i1⟩,i2⟩,i3⟩,i4⟩
end Go
namespace Go.Proofs.YtafigbgagbolgaaGreatDoor
open Go Go.Vc Go.Sp Go.Mp Go.RowKit Go.ChangeShapes
def own:ownKnob P.godebug=none:=by kernel_rfl
def laidOut:laidOutB P=true:=by kernel_rfl
def aKu{α:Type}{a:cb α}(h:a.size=4):∃b c d e,a= #[b,c,d,e]:=by
 obtain⟨l⟩:=a
 match l,h with
 |[b,c,d,e],_=>exact⟨b,c,d,e,rfl⟩
def wf_i64{n:Int}(h:(Lit.int .i64 n).wf=true): -9223372036854775808<=n/\n<=9223372036854775807:=by
 simpa[Lit.wf,IntKind.has,IntKind.min,IntKind.max,IntKind.signed,IntKind.bits]using h
def Sz{W:bH}{base:Nat}{v:bE}(h:Rd P W lO v.cells.toList/\Value.okWide P W .any base lO v):∃n,v=.int .i64 n/\ -9223372036854775808<=n/\n<=9223372036854775807:=by
 obtain⟨h1,h2⟩:=h;rw[MZ h2 cV]at h1;obtain⟨n,a,b⟩:=h1.kA (k:=.i64) cV;exact⟨n,a,wf_i64 b⟩
def SA{t:cf}{W:bH}{base:Nat}{v:bE}(a:ei P t=some false)(h:Rd P W t v.cells.toList/\Value.okWide P W .any base t v):Rd P W t [v]:=by
 obtain⟨h1,h2⟩:=h;rw[MZ h2 a]at h1;exact h1
def aI7{W:bH}{base:Nat}{v:bE}(h:Rd P W Bf v.cells.toList/\Value.okWide P W .any base Bf v):∃(l:Sl) (xs:bA Kw.dw),v=.slice l.p l.n l.c/\nL W l xs:=
 aKc (SA cV h)
abbrev pU:bA (String×DataW Unit):=Rows.vmSpawnsRow.laid
def aG3(os:Os)(args:cb bE):laidMetH P pU ((World.laidAll P os pU).forCall (λ_ _=>0) ⟨#[],args,[]⟩).memory:=by
 rw[MakeChecks.laidMetH_plain _ _ _ cV];exact laidMet_laidAll _ cV cV
def SB:P.globalNamed "math/bits.deBruijn64tab" =some 2:=by kernel_rfl
def aKi{W:bH}(h:laidMetH P pU W):∃o,W.heap[2]?=some o/\pD o:=by
 rw[MakeChecks.laidMetH_plain _ _ _ cV]at h;have a:Lib.TabIs P W "math/bits.deBruijn64tab" .u8 (Lib.deBruijn64tab.map λn:Nat=>(n:Int)):=
  Lib.tabIs_of_head (t:=355) (e:=Vj) (n:=64) SB cV cV cV cV cV h
 unfold Lib.TabIs World.var? at a;rw[SB,Ge]at a;split at a
 ·next c t z d=>
  refine⟨_,d,c,t,z,rfl,λj b=>?_⟩;cases a;have hl:Lib.deBruijn64tab.length=64:=by decide
  simp[dT,hl,b]
 ·cases a
def aF3{W:bH}(h:laidMetH P pU W):Sep (World.env W) [eg W.heap] W:=Sep.cG.2 ⟨aKi h,Sep.start W⟩
def aJh{W w':bH}(h:Sep (World.env W) [eg W.heap] w'):Below W.heap.size W w':=(Sep.cG.1 h).2.below (i:=0) rfl
end Go.Proofs.YtafigbgagbolgaaGreatDoor
namespace Go.Kc
open Go Go.Kt
variable{S T:Cs}
inductive Path:Nat->Cs->Cs->Prop
 |nil (n:Nat) (S:Cs):Path n S S
 |act {n:Nat} {S T:Cs} (x:Act) (hx:3<=x.k/\x.k<=11):Path n S T->Path (n+grow x) S (T.act x).1
def Path.runs{n:Nat}(h:Path n S T):cr n S T:=by
 induction h with
 |nil n=>exact .nil n _
 |act x _ _ a=>exact .act x a
def Path.up{n m:Nat}(h:Path n S T)(k:n<=m):Path m S T:=by
 induction h generalizing m with
 |nil n=>exact .nil m _
 |act x hx h a=>
  obtain⟨j,rfl⟩:∃j,m=j+grow x:=⟨m-grow x,bu⟩
  exact .act x hx (a bu)
def Path.trans{n m:Nat}{U:Cs}(h:Path n S T)(k:Path m T U):Path (n+m) S U:=by
 induction k with
 |nil m=>exact h.up (Nat.le_add_right _ _)
 |act x hx k a=>rw[<- tH];exact .act x hx (a h)
def Path.inv{n:Nat}(h:Path n S T)(a:Inv S)(hn:S.bt.next+n<=16777216):Inv T/\S.bt.next<=T.bt.next/\T.bt.next<=S.bt.next+n:=h.runs.inv a hn
def Path.one(k a b c kf ki:Int)(hx:3<=k/\k<=11):Path (grow ⟨k,a,b,c,kf,ki⟩) S (S.act ⟨k,a,b,c,kf,ki⟩).1:=by
 have:=Path.act ⟨k,a,b,c,kf,ki⟩ hx (Path.nil 0 S);rwa[fy]at this
def Path.ind{R:Cs->Cs->Prop}(a:∀S,R S S)(b:∀ {A B C},R A B->R B C->R A C)(h1:∀S,Inv S->S.bt.next<16777216->∀x:Act,3<=x.k/\x.k<=11->R S (S.act x).1){n:Nat}(h:Path n S T)(d:Inv S)(hn:S.bt.next+n<16777216):R S T:=by
 induction h with
 |nil n=>exact a _
 |act x hx h c=>
  have h2:=h.inv d bu;exact b (c d bu) (h1 _ h2.1 bu x hx)
def Path.fresh(g:Int):Path 1 S (S.fresh g).1:=Path.one 3 g 0 0 0 0 bN
def Path.cN(k:Int×Int)(g:Int):Path 1 S (S.cN k g).1:=Path.one 4 g 0 0 k.1 k.2 bN
def Path.cd(id g:Int):Path 0 S (S.cd id g).1:=Path.one 5 g id 0 0 0 bN
def Path.copy(id g:Int):Path 1 S (S.copy id g).1:=Path.one 6 g id 0 0 0 bN
def Path.get(id a:Int):Path 0 S (S.get id a).1:=Path.one 8 a id 0 0 0 bN
def Path.bO(id n:Int):Path 0 S (S.bO id n).1:=Path.one 9 0 id n 0 0 bN
def Path.du(t:Int):Path 0 S (S.du t).1:=Path.one 10 t 0 0 0 0 bN
def Path.shrink(t n:Int):Path 0 S (S.shrink t n).1:=Path.one 11 t 0 n 0 0 bN
def Path.put(id a:Int)(b:UInt8):Path 0 S (S.put id a b).1:=by
 have h:=Path.one (S:=S) 7 a id (b.toNat:Int) 0 0 bN;have e:(S.act ⟨7,a,id,(b.toNat:Int),0,0⟩).1=(S.put id a (mg (b.toNat:Int))).1:=rfl;have c:mg (b.toNat:Int)=b:=by
  unfold mg;have:=b.toNat_lt;rw[show((b.toNat:Int)%256).toNat=b.toNat by omega];exact UInt8.ofNat_toNat
 rw[e,c]at h;exact h
end Go.Kc
namespace Go.Kw
open Go Go.Kc Go.Kt
def vP:∀(ids:bR) (S:Cs),Path 0 S (eb ids S)
 |[],S=>.nil 0 S
 |x::r,S=>(Path.bO (S:=S) x (-1)).trans (vP r (S.bO x (-1)).1)
def Fp:∀(ids:bR) (S:Cs),Path 0 S (dP ids S)
 |[],S=>.nil 0 S
 |x::r,S=>(Path.bO (S:=S) x 1).trans (Fp r (S.bO x 1).1)
def SC(V:Vs)(pid:Int):Path 0 V.core (V.exit pid).core:=by
 cases h:V.space pid with
 |none=>rw[yK h];exact .nil 0 _
 |some s=>rw[vF h];exact vP _ _
def Fq:∀(l:bR) (V:Vs),Path 0 V.core (V.df l).core
 |[],V=>.nil 0 _
 |x::r,V=>(SC V x).trans (Fq r (V.exit x))
def SD{f:Cs->Int->Cs×Int×Int×Int}{pid:Int}(hf:∀S g,Path 1 S (f S g).1):∀(n:Nat) (V:Vs) (o:cH),Path n V.core (fE f pid n V o).1.core
 |0,V,o=>.nil 0 _
 |n+1,V,o=>by
  rw[vG];dsimp only;have h1:=hf V.core (V.group pid);generalize f V.core (V.group pid)=r at h1;have a:Path (n+1) V.core r.1:=h1.up bu;split;·exact a
  split;·exact a
  generalize dead {V with core:=r.1} r.2.2.1=d;have h2:=h1.trans (Fq d {V with core:=r.1});split;·exact h2.up bu
  split;·exact h2.up bu
  exact(h2.trans (SD hf n _ _)).up bu
def yP{f:Cs->Int->Cs×Int×Int×Int}{pid:Int}{V:Vs}(hf:∀S g,Path 1 S (f S g).1)(o:cH):Path (V.procs.length+1) V.core (V.eZ f pid o).1.core:=SD hf _ V o
def Fs(V:Vs)(pid p id:Int)(k:Nat)(wr:Bool):(V.enter pid p id k wr).core=(V.core.bO id 1).1:=by
 unfold Vs.enter;dsimp only;split<;>rfl
def SE{V:Vs}(pid id:Int)(o:cH):Path (V.procs.length+1) V.core (V.cd pid id o).1.core:=yP (λS g=>(Path.cd id g).up bu) o
def SF{V:Vs}(pid p:Int)(s:Sp)(x:Rg)(o:cH):Path (V.procs.length+1) V.core (V.there pid p s x o).1.core:=by
 unfold Vs.there;split;·exact SE _ _ _
 ·have h:=yP (V:=V) (f:=λS g=>S.cN (fg x p) g) (pid:=pid) (λS g=>Path.cN _ g) o;dsimp only;split
  ·next id _=>
   show Path _ _ (Vs.enter _ _ _ _ _ _).core;rw[Fs];exact h.trans (Path.bO id 1)
  ·exact h
def aHu{V:Vs}(pid p:Int)(s:Sp)(o:cH):Path (V.procs.length+1) V.core (V.own pid p s o).1.core:=by
 unfold Vs.own;split
 ·next e _=>
  dsimp only;split;·exact SE _ _ _
  have h:=yP (V:=V) (f:=λS g=>S.copy e.id g) (pid:=pid) (λS g=>Path.copy _ g) o;split
  ·next id _=>
   show Path _ _ ((Vs.enter _ _ _ _ _ _).core.bO _ _).1;rw[Fs];exact(h.trans (Path.bO id 1)).trans (Path.bO _ (-1))
  ·exact h
 ·have h:=yP (V:=V) (f:=λS g=>S.fresh g) (pid:=pid) (λS g=>Path.fresh g) o;dsimp only;split
  ·next id _=>
   show Path _ _ (Vs.enter _ _ _ _ _ _).core;rw[Fs];exact h.trans (Path.bO id 1)
  ·exact h
def SG(V:Vs)(pid p:Int):(V.cy pid p).core=V.core:=by
 unfold Vs.cy;split<;>rfl
def aFq{V:Vs}(pid:Int)(s:Sp)(b:Int):Path (V.procs.length+1) V.core (V.load pid s b).1.core:=by
 unfold Vs.load;dsimp only;split;·exact .nil _ _
 next x _=>
 split;·exact .nil _ _
 split;·exact .nil _ _
 have h:=SF (V:=V) pid (b/16) s x .zero;split;·exact h
 ·next id _=>
  show Path _ _ (Vs.cy _ _ _).core;rw[SG];exact h.trans (Path.get id (b%16))
def aDX{V:Vs}(pid:Int)(s:Sp)(b c:Int):Path (V.procs.length+1) V.core (V.store pid s b c).1.core:=by
 unfold Vs.store;dsimp only;split;·exact .nil _ _
 split;·exact .nil _ _
 next x _=>
 split;·exact .nil _ _
 split;·exact .nil _ _
 have h:Path (V.procs.length+1) V.core (if x.kind=2 then V.there pid (b/16) s x .zero else V.own pid (b/16) s .zero).1.core:=by
  split;·exact SF pid (b/16) s x .zero
  ·exact aHu pid (b/16) s .zero
 generalize (if x.kind=2 then V.there pid (b/16) s x .zero else V.own pid (b/16) s .zero)=r at h;split;·exact h
 ·next id _=>
  show Path _ _ (Vs.cy _ _ _).core;rw[SG];exact h.trans (Path.put id (b%16) _)
def aE0{V:Vs}(s:Sp)(o:dw):Path (V.procs.length+1) V.core (V.call s o).1.core:=by
 unfold Vs.call;dsimp only;split;·split<;>exact .nil _ _
 split;·split<;>exact .nil _ _
 split
 ·split;·split<;>exact .nil _ _
  ·exact .nil _ _
 split
 ·split;·exact(vP _ _).up bu
  ·exact .nil _ _
 split;·exact aFq _ _ _
 split;·exact aDX _ _ _ _
 split
 ·split;·exact .nil _ _
  ·exact(Fp _ _).up bu
 exact(SC _ _).up bu
def SH{V:Vs}{o:dw}(ho:o.kind≠0/\o.kind≠1/\o.kind≠2):Path (V.procs.length+1) V.core (V.act o).1.core:=by
 unfold Vs.act;rw[bJ ho.1,bJ ho.2.1,bJ ho.2.2];dsimp only;split
 ·split;·exact .nil _ _
  ·split<;>exact .nil _ _
 split;·exact(Path.du _).up bu
 split;·exact(Path.shrink _ _).up bu
 split;·exact .nil _ _
 split;·exact .nil _ _
 ·exact aE0 _ _
end Go.Kw
namespace Go.Kc
open Go Go.Kt Go.Sp
variable{S S' T:Cs}{id g:Int}
def kr(p:Pg):Int×Int×Int:=(p.kf,p.ki,p.refs)
structure Base(S S':Cs):Prop where
 tree:S'.tree=S.tree
 guards:S'.guards=S.guards
 bY:S'.files.bY=S.files.bY
def Base.refl(S:Cs):Base S S:=⟨rfl,rfl,rfl⟩
def Base.trans{A B C:Cs}(h:Base A B)(k:Base B C):Base A C:=⟨k.tree.trans h.tree,k.guards.trans h.guards,k.bY.trans h.bY⟩
def Base.live(h:Base S S')(g:Int):S'.live g=S.live g:=by unfold Cs.live;rw[h.tree]
def Base.has(h:Base S S')(k:Int×Int):ej S'.files k=ej S.files k:=by unfold ej np;rw[h.bY]
structure gw(S S':Cs):Prop extends Base S S' where
 kr:∀x,(S'.bt.pg x).map kr=(S.bt.pg x).map kr
def gw.refl(S:Cs):gw S S:=⟨Base.refl S,λ_=>rfl⟩
def gw.bK(h:gw S S'){p:Pg}(hp:S.bt.pg id=some p):∃q,S'.bt.pg id=some q/\q.kf=p.kf/\q.ki=p.ki/\q.refs=p.refs:=by
 have:=h.kr id;rw[hp]at this;cases a:S'.bt.pg id with
 |none=>rw[a]at this;cases this
 |some q=>
  rw[a]at this;have e:Kc.kr q=Kc.kr p:=cU this;unfold Kc.kr at e;simp only[o7]at e;exact⟨q,rfl,e⟩
def gw.none_(h:gw S S'):S'.bt.pg id=none↔S.bt.pg id=none:=by
 have:=h.kr id;cases a:S'.bt.pg id<;>cases hp:S.bt.pg id<;>rw[a,hp]at this<;>simp at this ⊢
def gw.of(h:Base S S')(hp:∀x,S'.bt.pg x=S.bt.pg x):gw S S':=⟨h,λx=>by rw[hp]⟩
structure Made(S S':Cs)(id:Int):Prop extends Base S S' where
 new:S.bt.pg id=none
 bK:∃p,S'.bt.pg id=some p/\p.refs=0
 SI:∀x,x≠id->(S'.bt.pg x).map kr=(S.bt.pg x).map kr
def Kept.g6(h:Kept S S'):gw S S':=by
 refine⟨⟨h.tree,h.guards,h.bY⟩,λx=>?_⟩;cases hp:S.bt.pg x with
 |none=>rw[h.none_ x hp]
 |some p=>
  obtain⟨q,d,a,b,_,c,_⟩:=h.bK x p hp;rw[d];unfold Kc.kr;simp only[gh,a,b,c]
def eD.g6(h:eD S S')(a:Inv S):gw S S':=(h.kept a).g6
def Inv.jX(h:Inv0 S):S.bt.pg S.bt.next=none:=by
 cases hp:S.bt.pg S.bt.next with
 |none=>rfl
 |some p=>have:=h.cI.ids _ _ hp;omega
inductive SJ(S:Cs)(id g:Int):Prop
 |ok (p:Pg) (hp:(S.cd id g).1.bt.pg id=some p) (h1:p.place=1) (he:(S.cd id g).2=(-1,0)) (hl:S.live g=true)
 |mem (he:(S.cd id g).2.2=12) (hl:S.live g=true) (hp:(S.bt.pg id).isSome=true)
 |bad (he:S.cd id g=(S, -1,2)) (hb:S.bt.pg id=none\/S.live g=false)
def SK(h:Inv0 S)(b:∀x p,S.bt.pg x=some p->p.kf<0->p.place≠0)(id g:Int):gw S (S.cd id g).1/\SJ S id g:=by
 have c:Inv S:=⟨h,b⟩
 cases hp:S.bt.pg id with
 |none=>have e:=oF (g:=g) h (.inl hp);rw[e];exact⟨gw.refl S,.bad e (.inl hp)⟩
 |some p=>
  cases hl:S.live g with
  |false=>have e:=oF (id:=id) h (.inr (.inl hl));rw[e];exact⟨gw.refl S,.bad e (.inr hl)⟩
  |true=>
   have d:¬ (p.place=0/\p.kf<0):=λe=>b _ _ hp e.2 e.1;by_cases h1:p.place=1
   ·have e:=w1 h hp h1 hl;refine⟨by rw[e];exact gw.of ⟨rfl,rfl,rfl⟩ (λ_=>rfl),.ok p (by rw[e];exact hp) h1 (by rw[e]) hl⟩
   ·rcases sd h b hp hl d h1 with⟨S0,a,k,f⟩|⟨S0,t,k,he⟩
    ·have s:=k.took.outs.g6 c;refine⟨⟨⟨k.tree,k.guards,by rw[k.files];exact s.bY⟩,λx=>?_⟩,.ok {p with owner:=if p.place=0 then g else p.owner,place:=1,at_:=a} (by rw[k.pg,bL rfl]) rfl k.A4 hl⟩;rw[k.pg];by_cases e:x=id;·subst e;rw[bL rfl,hp];rfl
     ·rw[bJ e];exact s.kr x
    ·refine⟨by rw[he];exact k.outs.g6 c,.mem (by rw[he]) hl (by rw[hp];rfl)⟩
def Inv.iN(h:Inv S)(id g:Int):gw S (S.cd id g).1/\SJ S id g:=SK h.toInv0 h.anon id g
inductive Ft(S:Cs)(g:Int)(bad:Prop)(r:Cs×Int×Int×Int):Prop
 |ok (p:Pg) (hm:Made S r.1 r.2.1) (hp:r.1.bt.pg r.2.1=some p) (h1:p.place=1) (hk:p.kf<0) (he:r.2.2.2=0) (hl:S.live g=true)
 |mem (s:gw S r.1) (he:r.2.2.2=12) (hl:S.live g=true) (hn:¬ bad)
 |bad (he:r=(S, -1, -1,2)) (hb:bad\/S.live g=false)
def SL(h:Inv S)(hn:S.bt.next<16777216){B:Prop}(hb:¬ B)(hl:S.live g=true)(text:bA UInt8):Ft S g B (S.c3 g text):=by
 rcases uu h hn hl text with⟨S0,a,k,he,d,c⟩|⟨S0,t,k,he⟩
 ·have s:=k.outs.g6 h;have h1:(S.c3 g text).2.1=S.bt.next:=by rw[he]
  have b:(S.c3 g text).1.bt.pg S.bt.next=some ⟨-1,S.bt.next,1,a,g,0,0,false,false⟩:=by rw[c,bL rfl]
  refine .ok _ ?_ (h1▸b) rfl (by show(-1:Int)<0;decide) (by rw[he]) hl;rw[h1];refine⟨⟨by rw[he];exact s.tree,by rw[he];exact s.guards,by rw[he];exact s.bY⟩,Inv.jX h.toInv0,⟨_,b,rfl⟩,λx hx=>?_⟩;rw[c,bJ hx];exact s.kr x
 ·exact .mem (by rw[he];exact k.outs.g6 h) (by rw[he]) hl hb
def Inv.jY(h:Inv S)(hn:S.bt.next<16777216)(g:Int):Ft S g False (S.fresh g):=by
 cases hl:S.live g with
 |false=>exact .bad (by unfold Cs.fresh;rw[bL hl]) (.inr hl)
 |true=>
  have e:S.fresh g=S.c3 g By.zs:=by unfold Cs.fresh;rw[bJ (by rw[hl];decide)]
  rw[e];exact SL h hn (λx=>x) hl _
def Inv.lX(h:Inv S)(hn:S.bt.next<16777216)(x g:Int):Ft S g (¬ ∃p,S.bt.pg x=some p/\p.place≠0) (S.copy x g):=by
 unfold Cs.copy;dsimp only;split
 ·next hb=>
  refine .bad rfl ?_;rcases hb with hb|hb|hb
  ·refine .inl ?_;rintro⟨p,hp,_⟩;rw[h.bK hp]at hb;exact hb rfl
  ·exact .inr hb
  ·refine .inl ?_;rintro⟨p,hp,a⟩;rw[h.bK hp]at hb;exact a hb
 ·next hb=>
  rw[om,om]at hb;have hl:S.live g=true:=by simpa using hb.2.1
  refine SL h hn (λhB=>hB ?_) hl _;cases hp:S.bt.pg x with
  |none=>
   exfalso;have:=hb.1;unfold TS.get at this;rw[hp]at this;exact this bN
  |some p=>
   rw[h.bK hp]at hb;exact⟨p,rfl,hb.2.2⟩
inductive aKt(S:Cs)(k:Int×Int)(g:Int)(r:Cs×Int×Int×Int):Prop
 |ok (p:Pg) (hm:(gw S r.1/\(S.bt.pg r.2.1).isSome=true)\/Made S r.1 r.2.1) (hp:r.1.bt.pg r.2.1=some p) (h1:p.place=1) (hk:(p.kf,p.ki)=k/\0<=p.kf) (he:r.2.2.2=0)
 |mem (s:gw S r.1) (he:r.2.2.2=12) (hl:S.live g=true) (hf:ej S.files k=true)
 |bad (he:r=(S, -1, -1,2)) (hb:ej S.files k=false\/S.live g=false)
def Inv.lY(h:Inv S)(hn:S.bt.next<16777216)(k:Int×Int)(g:Int):aKt S k g (S.cN k g):=by
 unfold Cs.cN;dsimp only;split;·next hb=>exact .bad rfl hb
 next B=>
 have hl:S.live g=true:=by
  cases n:S.live g with
  |true=>rfl
  |false=>exact absurd (.inr n) B
 have hf:ej S.files k=true:=by
  cases n:ej S.files k with
  |true=>rfl
  |false=>exact absurd (.inl n) B
 by_cases hm:S.bt.of k<0
 ·rw[dE hm];simp only[gQ];obtain⟨kf,ki⟩:=k;have j:=uw hf;have l:=pv S.bt (kf:=kf) (ki:=ki) (o:=g) ⟨h.cI.next,hn⟩ (.inr hm);rw[show(S.bt.make kf ki g).2.1=S.bt.next by rw[l.1]];have z:=h.toInv0.make hn (kf:=kf) (ki:=ki) hl (.inr ⟨hm,hf⟩);have r:gJ S.bt kf ki=(kf,ki):=by unfold gJ;rw[bJ (by have:0<=kf:=j;omega)]
  have hp:(S.bt.make kf ki g).1.pg S.bt.next=some ⟨kf,ki,0,0,g,0,0,false,false⟩:=by rw[l.2.2,bL rfl,r]
  have d:∀x p,(S.bt.make kf ki g).1.pg x=some p->p.kf<0->p.place≠0:=by
   intro x q c v;rw[l.2.2]at c;split at c
   ·rw[<- cU c,r]at v;have:kf<0:=v;have:0<=kf:=j;omega
   ·exact h.anon _ _ c v
  obtain⟨s,b⟩:=SK (S:={S with bt:=(S.bt.make kf ki g).1}) z d S.bt.next g;have u:∀x,x≠S.bt.next->((Cs.cd {S with bt:=(S.bt.make kf ki g).1} S.bt.next g).1.bt.pg x).map kr=(S.bt.pg x).map kr:=λx hx=>by
   rw[s.kr x];show((S.bt.make kf ki g).1.pg x).map kr=_;rw[l.2.2,bJ hx]
  have i:Base S (Cs.cd {S with bt:=(S.bt.make kf ki g).1} S.bt.next g).1:=⟨s.tree,s.guards,s.bY⟩
  obtain⟨q,c,m,w,y⟩:=s.bK hp;rcases b with⟨p,f,h1,he,_⟩|⟨he,_,_⟩|⟨he,hb⟩
  ·rw[he];dsimp only;rw[bL rfl];rw[c]at f;cases f;exact .ok q (.inr ⟨i,Inv.jX h.toInv0,⟨q,c,y⟩,u⟩) c h1 ⟨by rw[m,w],by rw[m];exact j⟩ rfl
  ·rw[he];rw[bJ bN];have F:q.place=0:=by
    rcases sd (S:={S with bt:=(S.bt.make kf ki g).1}) z d (id:=S.bt.next) (g:=g) hp hl (λe=>by have h1:kf<0:=e.2;have:0<=kf:=j;omega) (by show(0:Int)≠1;decide)with⟨S0,a,b,G⟩|⟨S0,t,b,A⟩
    ·rw[b.A4]at he;cases he
    ·obtain⟨H,D,_,_,_,_,E⟩:=(b.outs.kept ⟨z,d⟩).bK S.bt.next _ hp;rw[A,D]at c;cases c;rw[E (by show(0:Int)≠1;decide)]
   refine .mem ⟨⟨i.tree,i.guards,i.bY⟩,λx=>?_⟩ rfl hl hf;dsimp only;rw[uv c (by rw[y];exact g3 _) F];show(cL _ _ none x).map kr=_;by_cases hx:x=S.bt.next;·subst hx;rw[kv,Inv.jX h.toInv0]
   ·rw[dc _ _ hx];exact u x hx
  ·rcases hb with hb|hb;·rw[show(Cs.mk _ _ _ _ _ _ (S.bt.make kf ki g).1 _ _).bt.pg S.bt.next=_ from hp]at hb;cases hb
   ·have hb:S.live g=false:=hb;rw[hl]at hb;cases hb
 ·rw[di hm];simp only[l2,gP];obtain⟨p,hp,hk,C⟩:=HJ h.toInv0 (k:=k) bu;obtain⟨s,b⟩:=h.iN (S.bt.of k) g;obtain⟨q,c,m,w,y⟩:=s.bK hp;rcases b with⟨p2,f,h1,he,_⟩|⟨he,_,_⟩|⟨he,hb⟩
  ·rw[he];dsimp only;rw[bL rfl];rw[c]at f;cases f;exact .ok q (.inl ⟨s,by rw[hp];rfl⟩) c h1 ⟨by rw[m,w];exact hk,by rw[m];exact C⟩ rfl
  ·rw[he,bJ bN];exact .mem s rfl hl hf
  ·rcases hb with hb|hb;·rw[hp]at hb;cases hb
   ·rw[hl]at hb;cases hb
def aFi(id a:Int):gw S (S.get id a).1:=by
 unfold Cs.get;dsimp only;split;·exact gw.refl S
 ·dsimp only;split;·exact gw.of ⟨rfl,rfl,rfl⟩ (λ_=>rfl)
  ·exact gw.refl S
def aFF(id a:Int)(b:UInt8):gw S (S.put id a b).1:=by
 unfold Cs.put;dsimp only;split;·exact gw.refl S
 ·split
  ·refine⟨⟨rfl,rfl,rfl⟩,λx=>?_⟩;show((S.bt.mark id true).1.pg x).map kr=_;rw[(q4 S.bt id true).2.2.2 x,wk];cases S.bt.pg x with
   |none=>rfl
   |some p=>simp only[gh,Function.comp];split<;>rfl
  ·exact gw.refl S
end Go.Kc
namespace Go.Kw
open Go Go.Kc Go.Kt
def aHj(a b:Int)(l:bR):(Kc.new a b l).live 0=true:=rfl
def aF2{V:Vs}(h:V.core.live 0=true):V.act ⟨3,0,0,0,0⟩=if 64<=V.procs.length then(V,.bad 3)else({V with procs:=V.procs++[(0,some Sp.new)]},⟨0,V.procs.length,[]⟩):=by
 unfold Vs.act;rw[bJ bN,bJ bN,bJ bN,bL rfl];show(if V.core.live 0=false then _ else _)=_;rw[bJ (by rw[h];decide)]
end Go.Kw
namespace Go.Mp
open Go Go.Vc Go.Sp Go.Proofs Go.Kc Go.Kw Go.Kt
variable{E:Env}{L:cv}{w W:bH}{A:At}{v:Nat}{V:Vs}
def im:bA dw:=[⟨3,0,0,0,0⟩,⟨5,0,2,0,0⟩,⟨9,0,20,7,0⟩,⟨8,0,20,0,0⟩,⟨8,0,21,0,0⟩]
def Fu:(ek (Vs.new 4 4 []) im).2.map (λa=>(a.err,a.n))= [(0,0),(0,0),(0,0),(0,7),(0,0)]:=by decide+kernel
def Fv{k:Nat}{e n:Int}(h: [((0:Int),(0:Int)),(0,0),(0,0),(0,7),(0,0)][k]?=some (e,n)):∃a,(ek (Vs.new 4 4 []) im).2[k]?=some a/\a.err=e/\a.n=n:=by
 rw[<- Fu,eI]at h;cases b:(ek (Vs.new 4 4 []) im).2[k]? with
 |none=>rw[b]at h;cases h
 |some a=>rw[b]at h;cases h;exact⟨a,rfl,rfl,rfl⟩
def SM{fr sl:Int}{sz:Sl}{l:bR}{o:cb Obj}(b:Ints E (eg o::L) sz l)(a:sz.n<=sz.c)(h:Sep E (eg o::L) w){K:Ending->bg0}(k:∀(A:At) (v:Nat) w',A.o=o->ef E A v (Vs.new fr sl l) L w'->K (.returned (Pb v)) w'):Calls P uB #[Iv fr,Iv sl,Sv sz] w K:=by
 refine use (Sr b a h) ?_;rintro _ c ⟨A,v,rfl,ho,h1⟩;exact k A v c ho (ef.iH h1)
def yQ(fr sl:Int)(l:bR):(Vs.new fr sl l).core.bt.next=0:=rfl
def aEZ{o:cb Obj}(h:Sep E (eg o::L) w):Calls P H6 #[] w (cY E (.bool true) (eg o::L)):=by
 apply aok;unfold RD qJ qL qR qU qW qg qy zL zW zw zx;refine Al.i h (λp V h1=>?_);have h1:Sep E (eg o::bC p (bP e6 im)::L) V:=h1.swap;refine use (aJZ (fr:=4) (sl:=4) (sz:=⟨none,0,0⟩) (l:=[]) (ol:=⟨some ⟨p,0,none⟩,5,5⟩) (os:=im) (L:=bC p (bP e6 im)::L) (o:=o) ⟨rfl,λw _ i x hx=>by cases hx⟩ (ep _) (oX.jm (q:=0) (c:=5) (os:=im) rfl) bN h1) ?_;rintro _ w2 ⟨s,rfl,h2⟩;have hlen:s.n=5:=(fQ.len 0 h2 rfl).trans (E9 im _);obtain⟨J,C,T,_⟩:=Fv (k:=2) rfl;obtain⟨a3,D,_,R⟩:=Fv (k:=3) rfl;obtain⟨a4,t,U,S⟩:=Fv (k:=4) rfl;generalize (ek (Vs.new 4 4 []) im).2=r at h2 C D t;have h2:Sep E (eg o::fQ s r::bC p (bP e6 im)::L) w2:=h2.swap;refine⟨s,rfl,SM (fr:=4) (sl:=4) (sz:=⟨none,0,0⟩) (l:=[]) ⟨rfl,λw _ i x hx=>by cases hx⟩ (ep _) h2 (λA v Y ho K=>⟨_,rfl,λw'=>ef E A v (Vs.new 4 4 []) (fQ s r::bC p (bP e6 im)::L) w',bF rfl (bF (by rw[hlen];rfl) K),?_⟩)⟩;intro _ W G;refine⟨⟨p,0,none⟩,rfl,⟨bN,bN⟩,?_⟩;have hb:∀j x,(bP e6 im)[j]?=some x->W.cell? (Addr.add ⟨p,0,none⟩ j)=some x:=λj x hx=>G.cell (k:=1) rfl hx;refine⟨_,hb 0 _ rfl,_,hb 1 _ rfl,_,hb 2 _ rfl,_,hb 3 _ rfl,_,hb 4 _ rfl,?_⟩;have z:(Vs.new 4 4 []).act ⟨3,0,0,0,0⟩=({Vs.new 4 4 []with procs:=[(0,some Kw.Sp.new)]},⟨0,0,[]⟩):=by
  rw[aF2 (aHj 4 4 [])];rfl
 refine ef.jO (o:=⟨3,0,0,0,0⟩) G (Vok.new 4 4 []) (by rw[yQ];decide) (λX q Z m u B n5=>?_);rw[z]at u B n5 m;dsimp only at u B n5 m;refine u.procs B (λpl I n e=>⟨pl,rfl,?_⟩);have g:=e.right;have d:∀(i:Int) (k:Nat) (a:cH) {F:Addr->Prop},i=k->r[k]?=some a->(∀a0:Addr,I.cell? (a0.add 0)=some (Iv a.err)->I.cell? (a0.add 1)=some (Iv a.n)->F a0)->cM s.p s.n i 3 F:=λi k a F O M f=>fQ.el 3 g rfl O M f;refine d 2 2 J rfl C (λx hx _=>⟨_,hx,bT (by rw[T];rfl) (d 3 3 a3 rfl D (λx _ hx=>⟨_,hx,bT (by rw[R];rfl) (d 4 4 a4 rfl t (λx _ hx=>⟨_,hx,bT (by rw[S];rfl) (d 4 4 a4 rfl t (λx hx _=>⟨_,hx,bT (by rw[U];rfl) ?_⟩))⟩))⟩))⟩);refine⟨_,e.cell (k:=1) (j:=0) rfl rfl,bT rfl (bT (by rw[n];rfl) ?_)⟩;refine lR Pr.mx 0 g rfl n (show(0:Int)=((0:Nat):Int)from rfl) (show _=some (⟨0,0,true⟩:Pr)from rfl) (λb _ N=>⟨_,by rw[cj];exact N 2 _ rfl,bT rfl ?_⟩);refine e.space (pid:=0) (λx hx=>⟨x,rfl,bT (by rw[hx];rfl) (e.space (pid:=1) (λy Q=>⟨y,rfl,bT (by rw[Q];rfl) (e.core ⟨_,rfl,rfl,?_⟩)⟩))⟩);have H:=e.drop;rw[ho]at H;exact H.ro 6 [0] rfl
def aGR(cx cT:Int)(bY l:Sl)(w:bH):Calls P H5 #[Iv cx,Iv cT,Sv bY,Sv l] w
  (cA λv w'=>v=.bool (decide (cx>24)||decide (cT>24)||decide (bY.n>40)||decide (l.n>40))/\w'=w):=by
 apply aoU;unfold RC;refine gn (λh1=>⟨by rw[dE h1];rfl,rfl⟩) (λh1=>gn (λh2=>⟨by rw[dE h2,Bool.or_true];rfl,rfl⟩) (λh2=>gn (λa=>⟨by rw[dE (show bY.n>40 by omega),Bool.or_true];rfl,rfl⟩) (λa=>⟨?_,rfl⟩)));rw[di (show ¬ cx>24 by omega),di (show ¬ cT>24 by omega),di (show ¬ bY.n>40 by omega)];simp only[Gs];congr 1;simp only[tD];omega
end Go.Mp
namespace Go.Mp
open Go Go.Vc Go.Sp Go.Proofs Go.Kc
variable{E:Env}{L:cv}{w:bH}{A:At}{S:Cs}
def yR(W:bH)(s:Sl)(l:bR):Prop:=s.n=l.length/\s.n<=s.c/\∀(i:Nat) x,l[i]?=some x->∃a,s.p=some a/\W.cell? (a.add i)=some (Iv x)
def yR.ints{W:bH}{s:Sl}{l:bR}{q:Nat}(h:yR W s l)(c:L[q]?=some (eg W.heap)):Ints E L s l:=by
 refine⟨h.1,λw d i x hx=>?_⟩;obtain⟨a,hp,b⟩:=h.2.2 i x hx;exact⟨a,hp,vI d c b⟩
def aI2{W:bH}{v:bE}(h:Rd P W mr [v]):∃(s:Sl) (l:bR),v=Sv s/\yR W s l:=by
 obtain⟨p,n,c,rfl,f,_,j⟩:=h.nB (e:=lO) cV;have key:∀i,i<n->∃x:Int,∃a,p=some a/\W.cell? (a.add i)=some (Iv x):=by
  intro i d;obtain⟨a,es,rfl,hl,b,hr⟩:=j i d;have g:P.cellsOf lO=1:=by kernel_rfl
  rw[g]at b hl
  match es,hl,hr with
  |[v0],_,hr=>
  obtain⟨k,rfl,_⟩:=hr.kA (k:=.i64) cV;refine⟨k,a,rfl,?_⟩;have:=b 0 bu;rw[fM,Addr.add,Addr.add]at this;simpa[Addr.add]using this
 obtain⟨xs,hl,hx⟩:=Sy key;exact⟨⟨p,n,c⟩,xs,rfl,hl.symm,f,hx⟩
end Go.Mp
namespace Go.Mp
open Go Go.Vc Go.Sp Go.Proofs Go.Kc Go.Kw Go.Kt
variable{E:Env}{L:cv}{w W:bH}{A:At}{v:Nat}{V:Vs}
def aHs{cx cT:Int}{n m:Nat}(h:(decide (cx>24)||decide (cT>24)||decide (n>40)||decide (m>40))=false):cx<=24/\cT<=24/\n<=40/\m<=40:=by
 simp only[FX,FQ]at h;omega
def ef.cc(h:ef E A v V L w):∃(B:At) (M:cv),B.c=A.c/\B.t=A.t/\Sep E (cg B V.core++M) w/\∀(F:cv) w',Sep E (cg B V.core++(F++M)) w'->ef E A v V (F++L) w':=by
 obtain⟨gs,us,r,ps,h1,h2,a⟩:=h;refine⟨{A with gs:=gs,us:=us},(bC v [Pb A.c,Sv r]::bw r 2 (bP hF ps)::(ps.map h6++L)),rfl,rfl,a,λF w' b=>⟨gs,us,r,ps,h1,h2,?_⟩⟩;refine b.perm (o0 _ ?_);have e:(bC v [Pb A.c,Sv r]::bw r 2 (bP hF ps)::(ps.map h6++L))=(bC v [Pb A.c,Sv r]::bw r 2 (bP hF ps)::ps.map h6)++L:=rfl;rw[e];exact pV _ _ _
def ef.memory(g:Int)(h:ef E A v V L w){K:Ending->bg0}(k:∀w',ef E A v V L w'->K (.returned (Iv (V.core.memory g))) w'):Calls P uC #[Pb A.c,Iv g] w K:=by
 obtain⟨B,M,a,_,h1,h2⟩:=h.cc;rw[<- a];refine use (Eh g h1) ?_;rintro _ w' ⟨rfl,b⟩;exact k w' (h2 [] w' b)
def ef.swap(g:Int)(h:ef E A v V L w){K:Ending->bg0}(k:∀w',ef E A v V L w'->K (.returned (Iv (V.core.swap g))) w'):Calls P xe #[Pb A.c,Iv g] w K:=by
 obtain⟨B,M,a,_,h1,h2⟩:=h.cc;rw[<- a];refine use (QM g h1) ?_;rintro _ w' ⟨rfl,b⟩;exact k w' (h2 [] w' b)
def ef.bt(h:ef E A v V L w)(m:Vok V){K:Ending->bg0}(k:∀(s:Sl) w',s.n=V.core.bt.all.length->ef E A v V (bw s 1 (bD V.core.bt.all)::L) w'->K (.returned (Sv s)) w'):Calls P Bk #[Pb A.c] w K:=by
 obtain⟨B,M,a,_,h1,h2⟩:=h.cc;rw[<- a];refine use (aGH m.inv h1) ?_;rintro _ w' ⟨s,rfl,c,b⟩;exact k s w' c (h2 [_] w' b)
def ef.dr{f:bg0}(h:ef E A v V L w)(k:∀w',ef E A v V L w'->f w'):Dr f w:=by
 obtain⟨gs,us,r,ps,h1,h2,a⟩:=h;exact Dr.i a (λw' b=>k w' ⟨gs,us,r,ps,h1,h2,b⟩)
def ef.alloc{c:cb bE}{t:cf}{f:Addr->bg0}(h:ef E A v V L w)(k:∀b w',ef E A v V (bC b c.toList::L) w'->f ⟨b,0,none⟩ w'):Al (.cells c t) f w:=by
 obtain⟨gs,us,r,ps,h1,h2,a⟩:=h;exact Al.i a (λb w' d=>k b w' ⟨gs,us,r,ps,h1,h2,Vm.e4 d⟩)
def ef.pr{s:Sl}{l:bA Pr}(q:Nat)(h:ef E A v V L w)(d:L[q]?=some (js s l))(hn:s.n=l.length){k:Nat}{x:Pr}(hx:l[k]?=some x){F:Addr->Prop}(f:∀a,w.cell? (a.add 0)=some (Iv x.g)->w.cell? (a.add 1)=some (Iv x.size)->w.cell? (a.add 2)=some (.bool x.live)->F a):cM s.p s.n (k:Int) 3 F:=
 lR Pr.mx q h.right d hn rfl hx (λb _ c=>f _ (by rw[cj];exact c 0 _ rfl) (by rw[cj];exact c 1 _ rfl) (by rw[cj];exact c 2 _ rfl))
end Go.Mp
namespace Go.Kc
open Go Go.Kt Go.Sp
variable{S S' T:Cs}{id g:Int}{f:Int->Nat}
def Refs(S:Cs)(f:Int->Nat):Prop:=∀x,(S.bt.pg x).map Pg.refs=if f x=0 then none else some (f x:Int)
def tm(S:Cs)(id:Int)(f:Int->Nat):Prop:=(∀x,x≠id->(S.bt.pg x).map Pg.refs=if f x=0 then none else some (f x:Int))/\(S.bt.pg id).map Pg.refs=some (f id:Int)
def Refs.congr(h:Refs S f){f':Int->Nat}(e:∀x,f' x=f x):Refs S f':=λx=>by rw[e];exact h x
def Fw{a b:bW Pg}(h:a.map kr=b.map kr):a.map Pg.refs=b.map Pg.refs:=by
 have:=eK (Option.map λq:Int×Int×Int=>q.2.2) h;rw[wk,wk]at this;exact this
def Refs.g6(h:Refs S f)(s:gw S S'):Refs S' f:=λx=>by rw[Fw (s.kr x)];exact h x
def Refs.pg(h:Refs S f){p:Pg}(hp:S.bt.pg id=some p):p.refs=f id/\0<f id:=by
 have:=h id;rw[hp]at this;by_cases e:f id=0;·rw[bL e]at this;cases this
 ·rw[bJ e]at this;exact⟨cU this,bu⟩
def Refs.some_(h:Refs S f)(a:0<f id):∃p,S.bt.pg id=some p/\p.refs=f id:=by
 have:=h id;rw[cF]at this;cases hp:S.bt.pg id with
 |none=>rw[hp]at this;cases this
 |some p=>rw[hp]at this;exact⟨p,rfl,cU this⟩
def Refs.toP(h:Refs S f)(a:0<f id):tm S id f:=by
 refine⟨λx _=>h x,?_⟩;rw[h id,cF]
def Refs.made(h:Refs S f)(m:Made S S' id):tm S' id f/\f id=0:=by
 have a:f id=0:=by
  have:=h id;rw[m.new]at this;by_cases e:f id=0;·exact e
  ·rw[bJ e]at this;cases this
 refine⟨⟨λx hx=>by rw[Fw (m.SI x hx)];exact h x,?_⟩,a⟩;obtain⟨p,hp,hr⟩:=m.bK;rw[hp,a,gh,hr];rfl
def yS(h:Inv S)(id n:Int):Base S (S.bO id n).1:=by
 rcases oG h id n with⟨_,he⟩|⟨p,hp,⟨_,he⟩|⟨_,_,he⟩|⟨_,_,_,_,_,_,h1,h2,_,_,a,_⟩⟩
 ·rw[he];exact Base.refl S
 ·rw[he];exact Base.refl S
 ·rw[he];exact⟨rfl,rfl,rfl⟩
 ·exact⟨h1,h2,a⟩
def tm.up(h:Inv S)(r:tm S id f)(hb:f id<1000000000):Refs (S.bO id 1).1 (λx=>if x=id then f x+1 else f x)/\(∀x,(S.bt.pg x).map (λp=>(p.place,p.at_,p.kf,p.ki))=((S.bO id 1).1.bt.pg x).map (λp=>(p.place,p.at_,p.kf,p.ki)))/\(S.bO id 1).1.fr=S.fr/\(S.bO id 1).1.sl=S.sl/\(S.bO id 1).1.files=S.files:=by
 obtain⟨d,a,c⟩:∃p,S.bt.pg id=some p/\p.refs=f id:=by
  have:=r.2;cases hp:S.bt.pg id with
  |none=>rw[hp]at this;cases this
  |some p=>rw[hp]at this;exact⟨p,rfl,cU this⟩
 have hw:i64.wrap (d.refs+1)=(f id:Int)+1:=by rw[c];exact cR bu bu
 rcases oG h id 1 with⟨hn,_⟩|⟨p,hp,⟨b,_⟩|⟨_,_,he⟩|⟨g,_⟩⟩
 ·rw[a]at hn;cases hn
 ·rw[a]at hp;cases hp;rw[hw]at b;omega
 ·rw[a]at hp;cases hp;rw[he];refine⟨λx=>?_,λx=>?_,rfl,rfl,rfl⟩
  ·show(cL S.bt.pg id (some _) x).map Pg.refs=if(if x=id then f x+1 else f x)=0 then none else some (((if x=id then f x+1 else f x):Nat):Int)
   by_cases e:x=id
   ·subst e;rw[kv,bL rfl,cF,gh];show some (i64.wrap (d.refs+1))=_;rw[hw];rfl
   ·rw[dc _ _ e,bJ e];exact r.1 x e
  ·show _=(cL S.bt.pg id (some _) x).map _;by_cases e:x=id;·subst e;rw[kv,a];rfl
   ·rw[dc _ _ e]
 ·rw[a]at hp;cases hp;rw[hw]at g;omega
def Refs.down(h:Inv S)(r:Refs S f)(i:0<f id)(hb:f id<1000000000):Refs (S.bO id (-1)).1 (λx=>if x=id then f x-1 else f x):=by
 obtain⟨g,a,d⟩:=r.some_ i;have hw:i64.wrap (g.refs+ -1)=(f id:Int)-1:=by rw[d];exact cR bu bu
 rcases oG h id (-1)with⟨hn,_⟩|⟨p,hp,⟨b,_⟩|⟨h1,_,he⟩|⟨h1,_,_,_,_,c,_⟩⟩
 ·rw[a]at hn;cases hn
 ·rw[a]at hp;cases hp;rw[hw]at b;omega
 ·rw[a]at hp;cases hp;rw[he];intro x;show(cL S.bt.pg id (some _) x).map Pg.refs=if(if x=id then f x-1 else f x)=0 then none else some (((if x=id then f x-1 else f x):Nat):Int)
  by_cases e:x=id
  ·subst e;rw[hw]at h1;rw[kv,bL rfl,cF,gh];show some (i64.wrap (g.refs+ -1))=_;rw[hw];congr 1;omega
  ·rw[dc _ _ e,bJ e];exact r x
 ·rw[a]at hp;cases hp;intro x;show _=if(if x=id then f x-1 else f x)=0 then none else some (((if x=id then f x-1 else f x):Nat):Int)
  rw[c];by_cases e:x=id
  ·subst e;rw[hw]at h1;rw[bL rfl,bL rfl,eJ];rfl
  ·rw[bJ e,bJ e];exact r x
end Go.Kc
namespace Go.Kw
open Go Go.Kc Go.Kt Go.Sp
def Fx:∀(ids:bR) {S:Cs} {f:Int->Nat},Kc.Inv S->S.bt.next<=16777216->Refs S f->(∀x,ids.count x<=f x)->(∀x,f x<1000000000)->Refs (eb ids S) (λx=>f x-ids.count x)/\Base S (eb ids S)
 |[],S,f,_,_,r,_,_=>⟨r,Base.refl S⟩
 |y::l,S,f,d,hn,r,b,hb=>by
  have g:0<f y:=by have:=b y;rw[y1]at this;omega
  have h:=r.down d g (hb y);have a:=d.bO y (-1);have c:(S.bO y (-1)).1.bt.next<=16777216:=a.ids;obtain⟨i,b2⟩:=Fx l a c h (λx=>by
   have:=b x;by_cases e:x=y;·subst e;rw[y1]at this;rw[bL rfl];omega
   ·rw[y0 (nc e)]at this;rw[bJ e];exact this) (λx=>by have:=hb x;split<;>omega)
  refine⟨i.congr λx=>?_,(yS d y (-1)).trans b2⟩;by_cases e:x=y;·subst e;rw[y1,bL rfl];omega
  ·rw[y0 (nc e),bJ e]
def SN:∀(ids:bR) {S:Cs} {f:Int->Nat},Kc.Inv S->S.bt.next<=16777216->Refs S f->(∀x∈ids,0<f x)->(∀x,f x+ids.length<1000000000)->Refs (dP ids S) (λx=>f x+ids.count x)/\Base S (dP ids S)
 |[],S,f,_,_,r,_,_=>⟨r,Base.refl S⟩
 |y::l,S,f,d,hn,r,b,hb=>by
  have g:0<f y:=b y fz;have h:=((r.toP g).up d (by have:=hb y;omega)).1;have a:=d.bO y 1;have c:(S.bO y 1).1.bt.next<=16777216:=a.ids;obtain⟨i,b2⟩:=SN l a c h (λx hx=>by have:=b x (fT _ hx);split<;>omega) (λx=>by have:=hb x;rw[hI]at this;split<;>omega);refine⟨i.congr λx=>?_,(yS d y 1).trans b2⟩;by_cases e:x=y;·subst e;rw[y1,bL rfl];omega
  ·rw[y0 (nc e),bJ e]
def g1(s:Sp):bR:=s.cI.map λq=>(q.2.id:Int)
def adc(p:PP):bR:=match p.2 with|some s=>g1 s|none=>[]
def fH(l:bA PP):bR:=l.flatMap adc
def vR{s:Sp}(h:fC s):s.ids 0 65536=g1 s:=by
 unfold Sp.ids g1;rw[vZ.2 λq a=>?_];have:=(h.cI.low q a).1;unfold hj;simp;omega
def nT{x:Int}:∀ {l:bA PP} {i:Nat} {p p':PP},l[i]?=some p->(fH (l.set i p')).count x+(adc p).count x=(fH l).count x+(adc p').count x
 |q::l,0,p,p',h=>by
  have h:q=p:=by simpa using h
  subst h;show((adc p'++fH l).count x)+_=(adc q++fH l).count x+_;rw[wb,wb];omega
 |q::l,i+1,p,p',h=>by
  have:=nT (x:=x) (l:=l) (i:=i) (p:=p) (p':=p') (by simpa using h);show((adc q++fH (l.set i p')).count x)+_=(adc q++fH l).count x+_;rw[wb,wb];omega
def count_le{x:Int}{l:bA PP}{i:Nat}{p:PP}(h:l[i]?=some p):(adc p).count x<=(fH l).count x:=by
 have:=nT (x:=x) (p':=(0,none)) h;have a:(adc (0,none)).count x=0:=rfl;omega
def Fy{x:Int}:∀ {l:bA PP},(∀(i:Nat) g s,l[i]?=some (g,some s)->fC s)->(fH l).count x<=65536*l.length
 |[],_=>e7 _
 |q::l,h=>by
  have h1:=Fy (x:=x) (l:=l) λi g s a=>h (i+1) g s (by simpa using a);show(adc q++fH l).count x<=_;rw[wb,hI];have h2:(adc q).count x<=65536:=by
   refine mJ List.count_le_length ?_;obtain⟨g,o⟩:=q;cases o with
   |none=>exact e7 _
   |some s=>show(s.cI.map _).length<=_;rw[en];exact Go.Mp.gN (h 0 g s rfl).cI
  omega
def Kf(S S':Cs):Prop:=∀x q,S'.bt.pg x=some q->∃p,S.bt.pg x=some p/\q.kf=p.kf
def Kf.trans{A B C:Cs}(h:Kf A B)(k:Kf B C):Kf A C:=λx q b=>by
 obtain⟨p,hp,e⟩:=k x q b;obtain⟨r,hr,a⟩:=h x p hp;exact⟨r,hr,e.trans a⟩
def Kf.of{S S':Cs}(s:gw S S'):Kf S S':=λx q a=>by
 cases hp:S.bt.pg x with
 |none=>rw[s.none_.2 hp]at a;cases a
 |some p=>
  obtain⟨r,hr,e,_⟩:=s.bK hp;rw[hr]at a;cases a;exact⟨p,rfl,e⟩
def Kf.bO{S:Cs}(h:Kc.Inv S)(id n:Int):Kf S (S.bO id n).1:=λx q a=>by
 rcases oG h id n with⟨_,he⟩|⟨p,hp,⟨_,he⟩|⟨_,_,he⟩|⟨_,_,_,_,_,b,_⟩⟩
 ·rw[he]at a;exact⟨q,a,rfl⟩
 ·rw[he]at a;exact⟨q,a,rfl⟩
 ·rw[he]at a;have a:cL S.bt.pg id (some _) x=some q:=a;by_cases e:x=id;·subst e;rw[kv]at a;cases a;exact⟨p,hp,rfl⟩
  ·rw[dc _ _ e]at a;exact⟨q,a,rfl⟩
 ·rw[b]at a;split at a;·cases a
  ·exact⟨q,a,rfl⟩
def Kf.eb:∀(ids:bR) {S:Cs},Kc.Inv S->Kf S (eb ids S)
 |[],_,_=> λ_ q a=>⟨q,a,rfl⟩
 |y::l,S,b=>(Kf.bO b y (-1)).trans (Kf.eb l (b.bO y (-1)))
def lB(P:bA PP):Prop:=∀(i:Nat) g s q e,P[i]?=some (g,some s)->s.entry q=some e->(s.cD q).isSome=true
structure dS(V:Vs):Prop extends Vok V where
 refs:Refs V.core λx=>(fH V.procs).count x
 g5:lB V.procs
 own:∀(i:Nat) g s q e x,V.procs[i]?=some (g,some s)->s.entry q=some e->s.cD q=some x->x.kind≠2->∀p,V.core.bt.pg e.id=some p->p.kf<0
def dS.small{V:Vs}(h:dS V)(x:Int):(fH V.procs).count x<1000000000:=by
 have:=Fy (x:=x) h.sp;have:=h.e8;omega
def dS.new(a b:Int)(l:bR):dS (Vs.new a b l):=⟨⟨Inv.new a b l,(λi g s h=>by cases h),by show(0:Nat)<=64;decide⟩,λx=>rfl,(λi g s q e h=>by cases h),λi g s q e x h=>by cases h⟩
def hH(K:bR)(l:bA PP):bA PP:=l.mapIdx λi p=>if(i:Int)∈K then(p.1,none)else p
def yT(l:bA PP):hH [] l=l:=by
 unfold hH;apply hg;intro i;rw[List.getElem?_mapIdx];cases l[i]? <;>simp
def n4(K:bR)(l:bA PP)(i:Nat):(hH K l)[i]?=(l[i]?).map λp=>if(i:Int)∈K then(p.1,none)else p:=by unfold hH;rw[List.getElem?_mapIdx]
def SO(K:bR)(l:bA PP):(hH K l).length=l.length:=by unfold hH;rw[List.length_mapIdx]
def yU(K M:bR)(l:bA PP):hH M (hH K l)=hH (K++M) l:=by
 apply hg;intro i;rw[n4,n4,n4,wk];cases l[i]? with
 |none=>rfl
 |some p=>
  simp only[gh,Function.comp,gF];by_cases h1:(i:Int)∈K<;>by_cases h2:(i:Int)∈M<;>simp[h1,h2]
def dS.exit{V:Vs}(h:dS V)(pid:Int):dS (V.exit pid)/\Base V.core (V.exit pid).core/\(V.exit pid).procs=hH [pid] V.procs:=by
 cases d:V.space pid with
 |none=>
  rw[yK d];refine⟨h,Base.refl _,?_⟩;apply hg;intro i;rw[n4];cases a:V.procs[i]? with
  |none=>rfl
  |some p=>
   rw[gh];by_cases e:(i:Int)∈ [pid]
   ·rw[bL e];rw[h8]at e;obtain⟨g,o⟩:=p;have:=(jU a).1;rw[e,d]at this;rw[<- this]
   ·rw[bJ e]
 |some s=>
  rw[vF d];obtain⟨n,hp⟩:=jt d;have f:=h.sp _ _ _ hp;have c:=(c4.1 hp).1;have j:∀x,(fH (V.procs.set pid.toNat (V.group pid,none))).count x+(g1 s).count x=(fH V.procs).count x:=λx=>by
   have:=nT (x:=x) (p':=(V.group pid,none)) hp;exact this
  obtain⟨r,b⟩:=Fx (s.ids 0 65536) h.inv h.inv.ids h.refs (λx=>by rw[vR f];have:=j x;omega) h.small;have m:=((vP (s.ids 0 65536) V.core).inv h.inv (by have:=h.inv.ids;omega)).1;refine⟨⟨⟨m,λi g s' a=>?_,by show(V.procs.set _ _).length<=64;rw[dM];exact h.e8⟩,r.congr λx=>?_,λi g s' q e a he=>?_,λi g s' q e x a he hw hk pg l=>?_⟩,b,?_⟩
  ·have a:(V.procs.set pid.toNat (V.group pid,none))[i]?=some (g,some s'):=a;rw[hd]at a;split at a
   ·try rw[bL c]at a
    cases a
   ·exact h.sp _ _ _ a
  ·show(fH (V.procs.set pid.toNat (V.group pid,none))).count x=_;rw[vR f];have:=j x;omega
  ·have a:(V.procs.set pid.toNat (V.group pid,none))[i]?=some (g,some s'):=a;rw[hd]at a;split at a
   ·try rw[bL c]at a
    cases a
   ·exact h.g5 _ _ _ _ _ a he
  ·have a:(V.procs.set pid.toNat (V.group pid,none))[i]?=some (g,some s'):=a;obtain⟨t,k,e0⟩:=Kf.eb (s.ids 0 65536) h.inv _ _ l;rw[hd]at a;split at a
   ·try rw[bL c]at a
    cases a
   ·rw[e0];exact h.own _ _ _ _ _ _ a he hw hk _ k
  ·show V.procs.set pid.toNat (V.group pid,none)=_;apply hg;intro i;rw[n4,hd];by_cases e:pid.toNat=i
   ·subst e;rw[bL rfl,bL c,hp,gh,bL (by rw[h8];omega)]
   ·rw[bJ e];cases V.procs[i]? with
    |none=>rfl
    |some p=>rw[gh,bJ (by rw[h8];omega)]
def dS.df:∀(K:bR) {V:Vs},dS V->dS (V.df K)/\Base V.core (V.df K).core/\(V.df K).procs=hH K V.procs
 |[],V,h=>⟨h,Base.refl _,(yT _).symm⟩
 |x::K,V,h=>by
  obtain⟨h1,b1,a⟩:=h.exit x;obtain⟨h2,b2,b⟩:=dS.df K h1;refine⟨h2,b1.trans b2,?_⟩;rw[show V.df (x::K)=(V.exit x).df K from rfl,b,a,yU];rfl
end Go.Kw
namespace Go.Kw
open Go Go.Kc Go.Kt
variable{V V':Vs}{pid p:Int}{s:Sp}
def dS.core(h:dS V){S:Cs}(s:gw V.core S)(c:Kc.Inv S):dS {V with core:=S} :=by
 refine⟨⟨c,h.sp,h.e8⟩,h.refs.g6 s,h.g5,λi g s' q e x b he hw hk p hp=>?_⟩;obtain⟨d,a,e0⟩:=Kf.of s _ _ hp;rw[e0];exact h.own _ _ _ _ _ _ b he hw hk _ a
structure hU(V:Vs)(K:bR):Prop where
 nodup:K.Nodup
 live:∀x∈K,∃s,V.space x=some s
def rC{K:bR}(hp:V'.procs=hH K V.procs)(i:Int):V'.space i=if i∈K then none else V.space i:=by
 unfold Vs.space;by_cases a:0<=i
 ·rw[bL a,bL a,hp,n4,show((i.toNat:Nat):Int)=i by omega];cases V.procs[i.toNat]? with
  |none=>split<;>rfl
  |some p=>rw[gh];split<;>rfl
 ·rw[bJ a,bJ a];split<;>rfl
def hU.nil(V:Vs):hU V []:=⟨List.nodup_nil,λ_ h=>by cases h⟩
def hU.app{K M:bR}(h:hU V K)(hp:V'.procs=hH K V.procs)(k:hU V' M):hU V (K++M):=by
 have c:=rC hp;refine⟨v8.2 ⟨h.nodup,k.nodup,λa d b hb e=>?_⟩,λx hx=>?_⟩
 ·subst e;obtain⟨s,e⟩:=k.live a hb;rw[c,bL d]at e;cases e
 ·rcases gF.1 hx with hx|hx;·exact h.live x hx
  ·obtain⟨s,e⟩:=k.live x hx;rw[c]at e;split at e;·cases e
   ·exact⟨s,e⟩
inductive vS(f:Cs->Int->Cs×Int×Int×Int)(pid:Int)(n:Nat)(V:Vs)(o:cH)(q:Vs×cH×bW Int):Prop
 |ok (K:bR) (V':Vs) (hK:hU V K) (hp:V'.procs=hH K V.procs) (eh:pid∉K) (h:dS V') (hn:V'.core.bt.next+1<=V.core.bt.next+n) (b:Base V.core V'.core) (e0:(f V'.core (V'.group pid)).2.2.2=0)
   (e:q=({V' with core:=(f V'.core (V'.group pid)).1}, {o with bI:=o.bI++K},some (f V'.core (V'.group pid)).2.1)) (h1:K= []->V'=V) (h2:K≠ []->(f V.core (V.group pid)).2.2.2=12)
 |no (K:bR) (V':Vs) (err:Int) (hK:hU V K) (hp:V'.procs=hH K V.procs) (h:dS V') (b:Base V.core V'.core) (e:q=(V', {o with bI:=o.bI++K,err:=err},none))
   (he:(err=12/\pid∉K)\/(err=13/\pid∈K)\/(err≠0/\err≠12/\pid∉K/\∃V0:Vs,dS V0/\V0.procs=V'.procs/\Base V.core V0.core/\V0.core.bt.next+1<=V.core.bt.next+n/\f V0.core (V0.group pid)=(V'.core,(f V0.core (V0.group pid)).2)/\(f V0.core (V0.group pid)).2.2.2=err/\(K= []->V0=V)/\(K≠ []->(f V.core (V.group pid)).2.2.2=12)))
def aE8{x t:Int}(h:x∈dead V t):∃s,V.space x=some s:=EV h
def tn{K:bR}(hp:V'.procs=hH K V.procs)(i:Int):V'.group i=V.group i:=by
 unfold Vs.group;rw[hp,dT,dT,n4];cases V.procs[i.toNat]? with
 |none=>rfl
 |some p=>rw[gh];show(if _ then _ else _:PP).1=_;split<;>rfl
def SP{f:Cs->Int->Cs×Int×Int×Int}(hf:∀S g,Path 1 S (f S g).1)(y:∀S g,Kc.Inv S->S.bt.next<16777216->(f S g).2.2.2≠0->gw S (f S g).1/\((f S g).2.2.2=12->(f S g).1.bt.next<=S.bt.next+1)):
  ∀(n:Nat) (V:Vs) (o:cH),dS V->V.core.bt.next+n<16777216->iX V.procs<n->(V.space pid).isSome=true->vS f pid n V o (fE f pid n V o)
 |0,V,o,_,_,hl,_=>absurd hl (Nat.not_lt_zero _)
 |n+1,V,o,h,hn,hl,z=>by
  rw[vG];dsimp only;obtain⟨r,hr⟩:∃r,f V.core (V.group pid)=r:=⟨_,rfl⟩
  have t:=(hf V.core (V.group pid)).inv h.inv bu;have m:=y V.core (V.group pid) h.inv bu;rw[hr]at t m ⊢;by_cases e0:r.2.2.2=0
  ·rw[bL e0];exact .ok [] V (hU.nil V) (yT _).symm (by simp) h bu (Base.refl _) (by rw[hr];exact e0) (by rw[hr,hs]) (λ_=>rfl) (λe=>absurd rfl e)
  rw[bJ e0];obtain⟨s1,_⟩:=m e0;have h1:dS {V with core:=r.1} :=h.core s1 t.1;by_cases j:r.2.2.2≠12
  ·rw[bL j];exact .no [] {V with core:=r.1} r.2.2.2 (hU.nil V) (yT _).symm h1 s1.toBase (by rw[hs]) (.inr (.inr ⟨e0,j,by simp,V,h,rfl,Base.refl _,bu,by rw[hr],by rw[hr],λ_=>rfl,λe=>absurd rfl e⟩))
  rw[bJ j];obtain⟨d,q⟩:∃d,dead {V with core:=r.1} r.2.2.1=d:=⟨_,rfl⟩
  have hk:hU V d:=⟨by rw[<- q];exact RZ _ _ _ _,λx hx=>by rw[<- q]at hx;exact aE8 (V:={V with core:=r.1}) hx⟩
  obtain⟨h2,b2,p2⟩:=dS.df d h1;have v:=(Fq d {V with core:=r.1}).inv t.1 (by show r.1.bt.next+0<=_;omega);have J:(Vs.df {V with core:=r.1} d).core.bt.next<=r.1.bt.next+0:=v.2.2;rw[q];have p2:(Vs.df {V with core:=r.1} d).procs=hH d V.procs:=p2;split
  ·next i=>
   refine .no d _ 12 hk p2 h2 (s1.toBase.trans b2) rfl (.inl ⟨rfl,by rw[i];simp⟩)
  next i=>
  split;·next eh=>exact .no d _ 13 hk p2 h2 (s1.toBase.trans b2) rfl (.inr (.inl ⟨rfl,eh⟩))
  next eh=>
  have I:iX (Vs.df {V with core:=r.1} d).procs<iX V.procs:=by
   obtain⟨x,l,rfl⟩:=List.exists_cons_of_ne_nil i;have:=hk.live x fz;exact RM (V:={V with core:=r.1}) (by obtain⟨s,e⟩:=this;exact(show Vs.space {V with core:=r.1} x=some s from e)▸rfl)
  have u:((Vs.df {V with core:=r.1} d).space pid).isSome=true:=by rw[rC p2,bJ eh];exact z
  have k:r.2.2.2=12:=by omega
  rcases SP hf y n (Vs.df {V with core:=r.1} d) {o with bI:=o.bI++d} h2 bu bu u with⟨K,W,hK,hp,w,p,H,b,f0,e,N,O⟩|⟨K,W,err,hK,hp,p,b,e,he⟩
  ·refine .ok (d++K) W (hk.app p2 hK) (by rw[hp,p2,yU]) (by rw[gF];exact λx=>x.elim eh w) p bu ((s1.toBase.trans b2).trans b) f0 ?_ (λe=>absurd (List.append_eq_nil_iff.1 e).1 i) (λ_=>by rw[hr];exact k);rw[e];dsimp only;rw[dm]
  ·refine .no (d++K) W err (hk.app p2 hK) (by rw[hp,p2,yU]) p ((s1.toBase.trans b2).trans b) ?_ ?_
   ·rw[e];dsimp only;rw[dm]
   ·rcases he with⟨a,c⟩|⟨a,c⟩|⟨A,B,a3,V0,C,D,E,L,F,G,M⟩
    ·exact .inl ⟨a,by rw[gF];exact λx=>x.elim eh c⟩
    ·exact .inr (.inl ⟨a,gF.2 (.inr c)⟩)
    ·exact .inr (.inr ⟨A,B,by rw[gF];exact λx=>x.elim eh a3,V0,C,D,(s1.toBase.trans b2).trans E,bu,F,G,λe=>absurd (List.append_eq_nil_iff.1 e).1 i,λ_=>by rw[hr];exact k⟩)
def yV{f:Cs->Int->Cs×Int×Int×Int}(hf:∀S g,Path 1 S (f S g).1)(b:∀S g,Kc.Inv S->S.bt.next<16777216->(f S g).2.2.2≠0->gw S (f S g).1)(h:dS V)(hn:V.core.bt.next+(V.procs.length+1)<16777216)(a:(V.space pid).isSome=true)(o:cH):vS f pid (V.procs.length+1) V o (V.eZ f pid o):=by
 refine SP hf (λS g c hx he=>⟨b S g c hx he,λ_=>?_⟩) _ V o h bu (Nat.lt_succ_of_le FU) a;exact((hf S g).inv c bu).2.2
def one(x y:Int):Nat:=if x=y then 1 else 0
def Fz{p:Nat}{e:En}(x:Int):∀ {T:c5},T.Pairwise (λx y=>x.1<y.1)->((eW T p e).map λq=>(q.2.id:Int)).count x+(match dJ T p with|some f=>one x f.id|none=>0)=(T.map λq=>(q.2.id:Int)).count x+one x e.id
 |[],_=>by
  show([(e.id:Int)].count x)+0=0+one x e.id;unfold one;by_cases h:x=(e.id:Int)
  ·rw[bL h,h];simp
  ·rw[bJ h,y0 (nc h)];rfl
 |(k,f)::T,h=>by
  obtain⟨h1,h2⟩:=g7.1 h;have c:∀(a:Int) (l:bR),(a::l).count x=l.count x+one x a:=λa l=>by
   unfold one;by_cases h:x=a;·subst h;rw[y1,bL rfl]
   ·rw[y0 (nc h),bJ h,k1]
  by_cases g:p<k
  ·have b:dJ ((k,f)::T) p=none:=by
    cases b:dJ ((k,f)::T) p with
    |none=>rfl
    |some y=>
     have:=sZ b;rcases ey.1 this with h|h;·cases h;omega
     ·have:=h1 _ h;have:k<p:=this;omega
   rw[b];unfold eW;rw[bL g,kd,c];rfl
  by_cases d:p=k
  ·have b:dJ ((k,f)::T) p=some f:=by unfold dJ;rw[bL d.symm]
   rw[b];unfold eW;rw[bJ g,bL d,kd,kd,c,c];dsimp only;omega
  ·have b:dJ ((k,f)::T) p=dJ T p:=by show(if k=p then some f else dJ T p)=_;rw[bJ (nc d)]
   rw[b];unfold eW;rw[bJ g,bJ d,kd,kd,c,c];have:=Fz (p:=p) (e:=e) x h2;omega
def aBU(h:fC s){e:En}(he:s.entry p=some e):0<(g1 s).count (e.id:Int):=by
 have:=sZ (h.entry he).2.2.2;exact List.count_pos_iff.2 (fo.2 ⟨_,this,rfl⟩)
def FA(h:dS V)(a:V.space pid=some s){e:En}(he:s.entry p=some e):0<(fH V.procs).count (e.id:Int):=by
 obtain⟨_,hp⟩:=jt a;exact lG (aBU (h.sp _ _ _ hp) he) (count_le hp)
def FB(h:dS V)(b:V.space pid=some s){e:En}(he:s.entry p=some e):∃q,V.core.bt.pg e.id=some q:=by
 obtain⟨q,a,_⟩:=h.refs.some_ (FA h b he);exact⟨q,a⟩
inductive oY(V:Vs)(pid p:Int)(s:Sp)(o:cH)(q:Vs×cH×bW Int):Prop
 |ok (K:bR) (V1:Vs) (id:Int) (s1:Sp) (e:En) (hK:hU V K) (eh:pid∉K) (h:dS V1) (hp:V1.procs=(hH K V.procs).set pid.toNat (V.group pid,some s1)) (hr:s1.dq=s.dq) (he:s1.entry p=some e) (eQ:(e.id:Int)=id)
   (x:Pg) (hx:V1.core.bt.pg id=some x) (h1:x.place=1) (b:Base V.core V1.core) (e:q=(V1, {o with bI:=o.bI++K},some id))
 |no (K:bR) (V':Vs) (err:Int) (hK:hU V K) (hp:V'.procs=hH K V.procs) (h:dS V') (b:Base V.core V'.core) (e:q=(V', {o with bI:=o.bI++K,err:=err},none))
   (he:(err=12/\pid∉K)\/(err=13/\pid∈K)\/(err=2/\K= []/\V'=V))
def tk{l:bA PP}{i:Nat}{p:PP}(h:l[i]?=some p):l.set i p=l:=by
 apply hg;intro j;rw[hd];split
 ·next e=>
  subst e;rw[bL (c4.1 h).1,h]
 ·rfl
def SQ{K:bR}(a:V.space pid=some s)(eh:pid∉K):(hH K V.procs)[pid.toNat]?=some (V.group pid,some s):=by
 obtain⟨b,hp⟩:=jt a;rw[n4,hp,gh,bJ (by rw[show((pid.toNat:Nat):Int)=pid by omega];exact eh)]
def Base.j0{S S':Cs}(b:Base S S'){g:Int}(h:S'.live g=false)(k:S.live g=true):False:=by rw[b.live,k]at h;cases h
def SR(h:dS V)(hn:V.core.bt.next+(V.procs.length+1)<16777216)(v:V.space pid=some s){e:En}(he:s.entry p=some e)(o:cH):oY V pid p s o (V.cd pid e.id o):=by
 have hb:∀S g,Path 1 S ((λ(S:Cs) g=>let r:=S.cd e.id g;(r.1,(e.id:Int),r.2)) S g).1:=λS g=>(Path.cd _ g).up bu;have C:∀W:Vs,dS W->∀K,W.procs=hH K V.procs->pid∉K->∃q,W.core.bt.pg e.id=some q:=λW j K hp hK=>FB j (by rw[rC hp,bJ hK];exact v) he;rcases yV (f:=λ(S:Cs) g=>let r:=S.cd e.id g;(r.1,(e.id:Int),r.2)) hb (λS g M _ _=>(M.iN e.id g).1) h hn (by rw[v];rfl) o with⟨K,W,hK,hp,eh,j,L,b,f0,m,_⟩|⟨K,W,err,hK,hp,j,b,m,A⟩
 ·obtain⟨D,n⟩:=j.inv.iN e.id (W.group pid);dsimp only at f0 m;rcases n with⟨x,hx,h1,a,_⟩|⟨a,_⟩|⟨a,_⟩
  ·refine .ok K _ e.id s e hK eh (j.core D (j.inv.cd _ _)) ?_ rfl he rfl x hx h1 (b.trans D.toBase) m;rw[tk (SQ v eh)];exact hp
  ·rw[a]at f0;cases f0
  ·rw[a]at f0;cases f0
 ·refine .no K W err hK hp j b m ?_;rcases A with h1|h1|⟨E,F,a3,V0,y,l,G,_,t,i,H,u⟩
  ·exact .inl h1
  ·exact .inr (.inl h1)
  ·refine .inr (.inr ?_);dsimp only at t i u;obtain⟨_,n⟩:=y.inv.iN e.id (V0.group pid);rcases n with⟨x,hx,h1,a,_⟩|⟨a,_⟩|⟨a,c⟩
   ·rw[a]at i;exact absurd i.symm E
   ·rw[a]at i;exact absurd i.symm F
   ·rw[a]at i t;have d:K= []:=by
     refine rE λd=>?_;obtain⟨_,w⟩:=h.inv.iN e.id (V.group pid);rcases w with⟨x,hx,h1,k,_⟩|⟨_,B,_⟩|⟨k,_⟩
     ·have:=u d;rw[k]at this;cases this
     ·rcases c with c|c
      ·obtain⟨q,I⟩:=C V0 y K (by rw[l];exact hp) a3;rw[I]at c;cases c
      ·rw[show V0.group pid=V.group pid from tn (K:=K) (by rw[l];exact hp) pid]at c;exact Base.j0 G c B
     ·have:=u d;rw[k]at this;cases this
    refine⟨i.symm,d,?_⟩;have J:=H d;subst J;have z:W.core=V0.core:=by
     have:=eK Prod.fst t;exact this.symm
    cases W;cases V0;dsimp only at z l;rw[z,l]
def SS{W:Vs}{S:Cs}{id:Int}{k:Nat}{wr:Bool}(j:dS W)(t:Kc.Inv S)(b:Base W.core S)(o:W.space pid=some s)(hw:(s.cD p).isSome=true)(eQ:0<=id/\id<16777216)(hk:k=1\/k=2)(hr:tm S id λx=>(fH W.procs).count x){s1:Sp}(h:s1=s.enter p id k wr):
  ∃V1:Vs,Vs.enter {W with core:=S} pid p id k wr=V1/\V1.procs=W.procs.set pid.toNat (W.group pid,some s1)/\V1.core=(S.bO id 1).1/\Kc.Inv V1.core/\Base W.core V1.core/\s1.dq=s.dq/\s1.entry p=some ⟨k,id.toNat,wr,false⟩/\
   (∀(i:Nat) g s,V1.procs[i]?=some (g,some s)->fC s)/\V1.procs.length<=64/\Refs V1.core (λx=>(fH W.procs).count x+one x id)/\(∀x,(fH V1.procs).count x+(match s.entry p with|some f=>one x f.id|none=>0)=(fH W.procs).count x+one x id)/\
   (∀x,(S.bt.pg x).map (λp=>(p.place,p.at_,p.kf,p.ki))=(V1.core.bt.pg x).map (λp=>(p.place,p.at_,p.kf,p.ki)))/\V1.core.fr=S.fr/\V1.core.sl=S.sl/\V1.core.files=S.files:=by
 obtain⟨F,hp⟩:=jt o;have a:=j.sp _ _ _ hp;obtain⟨G,r⟩:=kJ.1 hw;have l:=s6 a r;have c:s1= {s with cI:=eW s.cI p.toNat ⟨k,id.toNat,wr,false⟩} :=by rw[h];unfold Sp.enter;rw[bL ⟨hw,eQ.1,eQ.2⟩]
 have n:=(c4.1 hp).1;obtain⟨z,pl,v,w,y⟩:=hr.up t (j.small id);have heq:Vs.enter {W with core:=S} pid p id k wr=⟨(S.bO id 1).1,W.procs.set pid.toNat (W.group pid,some s1)⟩:=by
  unfold Vs.enter;dsimp only;rw[show Vs.space {core:=(S.bO id 1).1,procs:=W.procs} pid=some s from o,h];rfl
 have m:∀x,(fH (W.procs.set pid.toNat (W.group pid,some s1))).count x+(match s.entry p with|some f=>one x f.id|none=>0)=(fH W.procs).count x+one x id:=λx=>by
  have A:=nT (x:=x) (p':=(W.group pid,some s1)) hp;have B:=Fz (p:=p.toNat) (e:=⟨k,id.toNat,wr,false⟩) x a.cI.cZ;have C:(adc (W.group pid,some s1)).count x=((eW s.cI p.toNat ⟨k,id.toNat,wr,false⟩).map λq=>(q.2.id:Int)).count x:=by rw[c];rfl
  have D:(adc (W.group pid,some s)).count x=(s.cI.map λq=>(q.2.id:Int)).count x:=rfl;have u:s.entry p=dJ s.cI p.toNat:=by unfold Sp.entry;rw[bL l.1]
  have E:one x (((⟨k,id.toNat,wr,false⟩:En).id:Nat):Int)=one x id:=by show one x ((id.toNat:Nat):Int)=_;rw[show((id.toNat:Nat):Int)=id by omega]
  rw[u];omega
 refine⟨_,heq,rfl,rfl,t.bO id 1,b.trans (yS t id 1),by rw[c],?_,λi g s' d=>?_,by rw[dM];exact j.e8,z.congr λx=>?_,m,pl,v,w,y⟩
 ·rw[c];unfold Sp.entry;rw[bL l.1];dsimp only;rw[u6 a.cI.cZ,bL rfl]
 ·rw[hd]at d;split at d
  ·try rw[bL n]at d
   cases d;rw[h];exact a.enter hk
  ·exact j.sp _ _ _ d
 ·show _=if x=id then(fH W.procs).count x+1 else(fH W.procs).count x
  unfold one;split<;>rfl
end Go.Kw
namespace Go.Kw
open Go Go.Kc Go.Kt Go.Sp
variable{V V':Vs}{pid p:Int}{s:Sp}
def fI(P:bA PP)(S:Cs):Prop:=∀(i:Nat) g s q e x,P[i]?=some (g,some s)->s.entry q=some e->s.cD q=some x->x.kind≠2->∀p,S.bt.pg e.id=some p->p.kf<0
def fI.kf{P:bA PP}{S S':Cs}(h:fI P S)(k:Kf S S'):fI P S':=λi g s q e x b he hw hx p hp=>by
 obtain⟨c,a,e0⟩:=k _ _ hp;rw[e0];exact h i g s q e x b he hw hx _ a
def fI.made{W:Vs}{S:Cs}{id:Int}(h:dS W)(m:Made W.core S id):fI W.procs S:=λi g s q e x b he hw hx p hp=>by
 by_cases eQ:(e.id:Int)=id
 ·exfalso;obtain⟨r,hr⟩:=FB h (pid:=(i:Int)) (jU b).1 he;rw[eQ,m.new]at hr;cases hr
 ·have:=m.SI _ eQ;rw[hp]at this;cases a:W.core.bt.pg e.id with
  |none=>rw[a]at this;cases this
  |some c=>
   rw[a]at this;have e0:kr p=kr c:=cU this;unfold kr at e0;simp only[o7]at e0;rw[e0.1];exact h.own _ _ _ _ _ _ b he hw hx _ a
def fI.j1{P:bA PP}{S:Cs}{n:Nat}{g:Int}{s1:Sp}(h:fI P S)(h1:∀q e x,s1.entry q=some e->s1.cD q=some x->x.kind≠2->∀p,S.bt.pg e.id=some p->p.kf<0):fI (P.set n (g,some s1)) S:=λi b s q e x a he hw hx p hp=>by
 rw[hd]at a;split at a
 ·split at a;·cases a;exact h1 q e x he hw hx p hp
  ·cases a
 ·exact h i b s q e x a he hw hx p hp
def lB.j1{P:bA PP}{n:Nat}{g:Int}{s1:Sp}(h:lB P)(h1:∀q e,s1.entry q=some e->(s1.cD q).isSome=true):lB (P.set n (g,some s1)):=λi b s q e a he=>by
 rw[hd]at a;split at a
 ·split at a;·cases a;exact h1 q e he
  ·cases a
 ·exact h i b s q e a he
def vT{s s1:Sp}(h:s1.dq=s.dq)(p:Int):s1.cD p=s.cD p:=by unfold Sp.cD;rw[h]
def yW(a:fC s){id:Int}{k:Nat}{wr:Bool}{q:Int}{e:En}(he:(s.enter p id k wr).entry q=some e):(q=p/\(e.id:Int)=id/\0<=id)\/s.entry q=some e:=by
 unfold Sp.enter at he;split at he
 ·next b=>
  obtain⟨x,hx⟩:=kJ.1 b.1;have d:=s6 a hx;unfold Sp.entry at he ⊢;split at he
  ·next c=>
   rw[bL c];dsimp only at he;rw[u6 a.cI.cZ]at he;split at he
   ·next f=>
    cases he;refine .inl ⟨bu,?_,b.2.1⟩;show((id.toNat:Nat):Int)=id;omega
   ·exact .inr he
  ·cases he
 ·exact .inr he
def j2{W:Vs}{S:Cs}{id:Int}{k:Nat}{wr:Bool}{o:cH}{K:bR}{G:Rg}(i:dS W)(P:Kc.Inv S)(b0:Base V.core W.core)(b:Base W.core S)(N:V.space pid=some s)(hK:hU V K)(eh:pid∉K)(hp:W.procs=hH K V.procs)(hw:s.cD p=some G)(B:s.entry p=none)(eQ:0<=id/\id<16777216)(hk:k=1\/k=2)(hr:tm S id λx=>(fH W.procs).count x)(ho:fI W.procs S){x:Pg}(hx:S.bt.pg id=some x)(h1:x.place=1)(A:G.kind=2\/x.kf<0):
  oY V pid p s o (Vs.enter {W with core:=S} pid p id k wr, {o with bI:=o.bI++K},some id):=by
 have a:W.space pid=some s:=by rw[rC hp,bJ eh];exact N
 have w:W.group pid=V.group pid:=tn hp pid;have m:=i.sp _ _ _ (jt a).2;obtain⟨V1,J,pr,I,H,b1,g,v,D,u,O,M,C,Q,R,T⟩:=SS (wr:=wr) i P b a (by rw[hw];rfl) eQ hk hr rfl;rw[J];have d:Kf S V1.core:=by rw[I];exact Kf.bO P id 1
 have E:∃y,V1.core.bt.pg id=some y/\y.place=1:=by
  have:=C id;rw[hx]at this;cases j:V1.core.bt.pg id with
  |none=>rw[j]at this;cases this
  |some y=>
   rw[j]at this;have:=cU this;simp only[o7]at this;exact⟨y,rfl,by rw[<- this.1];exact h1⟩
 obtain⟨y,j,F⟩:=E;refine .ok K V1 id (s.enter p id k wr) ⟨k,id.toNat,wr,false⟩ hK eh ⟨⟨H,D,u⟩,O.congr λz=>?_,?_,?_⟩ (by rw[pr,hp,w]) g v (by show((id.toNat:Nat):Int)=id;omega) y j F (b0.trans b1) rfl
 ·have:=M z;rw[B]at this;exact this
 ·rw[pr];refine i.g5.j1 λq e he=>?_;rw[vT g];rcases yW m he with⟨r,_⟩|t;·rw[r,hw];rfl
  ·exact i.g5 _ _ _ _ _ (jt a).2 t
 ·rw[pr];refine(ho.kf d).j1 λq e Y he c l X f=>?_;rw[vT g]at c;rcases yW m he with⟨r,L,_⟩|t
  ·subst r;rw[hw]at c;cases c;rw[L]at f;obtain⟨U,n,e0⟩:=d _ _ f;rw[hx]at n;cases n;rw[e0];rcases A with h|h;·exact absurd h l
   ·exact h
  ·exact(ho.kf d) _ _ _ _ _ _ (jt a).2 t c l _ f
def FD{f:Cs->Int->Cs×Int×Int×Int}{n:Nat}{o:cH}{q:Vs×cH×bW Int}{K:bR}{W:Vs}{err:Int}(hK:hU V K)(hp:W.procs=hH K V.procs)(u:dS W)(b:Base V.core W.core)(e:q=(W, {o with bI:=o.bI++K,err:=err},none))(he:(err=12/\pid∉K)\/(err=13/\pid∈K)\/(err≠0/\err≠12/\pid∉K/\∃V0:Vs,dS V0/\V0.procs=W.procs/\Base V.core V0.core/\V0.core.bt.next+1<=V.core.bt.next+n/\f V0.core (V0.group pid)=(W.core,(f V0.core (V0.group pid)).2)/\(f V0.core (V0.group pid)).2.2.2=err/\(K= []->V0=V)/\(K≠ []->(f V.core (V.group pid)).2.2.2=12)))(h2:∀V0:Vs,dS V0->V0.procs=hH K V.procs->pid∉K->Base V.core V0.core->V0.core.bt.next+1<=V.core.bt.next+n->(f V0.core (V0.group pid)).2.2.2≠0->(f V0.core (V0.group pid)).2.2.2≠12->f V0.core (V0.group pid)=(V0.core, -1, -1,2)/\((f V.core (V.group pid)).2.2.2=12->False)):oY V pid p s o q:=by
 refine .no K W err hK hp u b e ?_;rcases he with h1|h1|⟨i,j,a3,V0,k,d,l,m,g,c,r,t⟩
 ·exact .inl h1
 ·exact .inr (.inl h1)
 ·refine .inr (.inr ?_);obtain⟨d1,d2⟩:=h2 V0 k (by rw[d];exact hp) a3 l m (by rw[c];exact i) (by rw[c];exact j);have a:K= []:=rE λa=>d2 (t a);have v:=r a;subst v;rw[d1]at g c;refine⟨c.symm,a,?_⟩;have h:W.core=V0.core:=(eK Prod.fst g).symm;cases W;cases V0;dsimp only at h d;rw[h,d]
def SU(h:dS V)(hn:V.core.bt.next+(V.procs.length+1)<16777216)(j:V.space pid=some s){a:Rg}(hw:s.cD p=some a)(hk:s.entry p=none->a.kind=2)(o:cH):oY V pid p s o (V.there pid p s a o):=by
 unfold Vs.there;cases he:s.entry p with
 |some e=>exact SR h hn j he o
 |none=>
  dsimp only;have A:∀S g,Kc.Inv S->S.bt.next<16777216->((λ(S:Cs) g=>S.cN (fg a p) g) S g).2.2.2≠0->gw S ((λ(S:Cs) g=>S.cN (fg a p) g) S g).1:=λS g I hx m=>by
   dsimp only at m ⊢;rcases I.lY hx (fg a p) g with⟨_,_,_,_,_,e0⟩|⟨i,_⟩|⟨e0,_⟩
   ·exact absurd e0 m
   ·exact i
   ·rw[e0];exact gw.refl S
  rcases yV (f:=λ(S:Cs) g=>S.cN (fg a p) g) (λS g=>Path.cN _ g) A h hn (by rw[j];rfl) o with⟨K,W,hK,hp,eh,c,G,b,f0,q,_⟩|⟨K,W,err,hK,hp,c,b,q,v⟩
  ·rw[q];dsimp only at f0 ⊢;have eQ:=R6 c.inv (k:=fg a p) (g:=W.group pid) bu f0;have u:=c.inv.cN bu (fg a p) (W.group pid);rcases c.inv.lY bu (fg a p) (W.group pid)with⟨x,hm,hx,h1,H,e0⟩|⟨_,e0,_⟩|⟨e0,_⟩
   ·generalize W.core.cN (fg a p) (W.group pid)=r at*
    rcases hm with⟨i,l⟩|hm
    ·obtain⟨y,D⟩:=kJ.1 l;exact j2 c u b i.toBase j hK eh hp hw he eQ (.inr rfl) ((c.refs.g6 i).toP (c.refs.pg D).2) (fI.kf c.own (Kf.of i)) hx h1 (.inl (hk he))
    ·exact j2 c u b hm.toBase j hK eh hp hw he eQ (.inr rfl) (c.refs.made hm).1 (fI.made c hm) hx h1 (.inl (hk he))
   ·rw[e0]at f0;cases f0
   ·rw[e0]at f0;cases f0
  ·rw[q];dsimp only;refine FD (f:=λS g=>S.cN (fg a p) g) (n:=V.procs.length+1) hK hp c b rfl v (λV0 E F eh b0 J B C=>?_);try dsimp only at B C ⊢
   rcases E.inv.lY bu (fg a p) (V0.group pid)with⟨_,_,_,_,_,e0⟩|⟨_,e0,_⟩|⟨e0,hb⟩
   ·exact absurd e0 B
   ·exact absurd e0 C
   ·refine⟨e0,λd=>?_⟩;rcases h.inv.lY bu (fg a p) (V.group pid)with⟨_,_,_,_,_,t⟩|⟨_,_,z,w⟩|⟨t,_⟩
    ·rw[t]at d;cases d
    ·rcases hb with hb|hb;·rw[b0.has,w]at hb;cases hb
     ·rw[tn F pid]at hb;exact Base.j0 b0 hb z
    ·rw[t]at d;cases d
def aB8{S:Cs}(h:Kc.Inv S){x id:Int}(n:Int)(hx:x≠id):(S.bO id n).1.bt.pg x=S.bt.pg x:=by
 rcases oG h id n with⟨_,he⟩|⟨p,hp,⟨_,he⟩|⟨_,_,he⟩|⟨_,_,_,_,_,a,_⟩⟩
 ·rw[he]
 ·rw[he]
 ·rw[he];exact dc _ _ hx
 ·rw[a,bJ hx]
def copied{W:Vs}{S:Cs}{id:Int}{o:cH}{K:bR}{N:Rg}{f:En}(a:dS W)(O:Kc.Inv S)(b0:Base V.core W.core)(L:V.space pid=some s)(hK:hU V K)(eh:pid∉K)(hp:W.procs=hH K V.procs)(hw:s.cD p=some N)(hf:s.entry p=some f)(eQ:0<=id/\id<16777216)(hm:Made W.core S id){x:Pg}(hx:S.bt.pg id=some x)(h1:x.place=1)(B:x.kf<0):
  oY V pid p s o ({Vs.enter {W with core:=S} pid p id 1 true with core:=((Vs.enter {W with core:=S} pid p id 1 true).core.bO f.id (-1)).1}, {o with bI:=o.bI++K},some id):=by
 have b:W.space pid=some s:=by rw[rC hp,bJ eh];exact L
 have v:W.group pid=V.group pid:=tn hp pid;have k:=a.sp _ _ _ (jt b).2;obtain⟨hr,R⟩:=a.refs.made hm;obtain⟨V1,H,pr,G,d,b1,h,u,D,t,M,J,C,_⟩:=SS (wr:=true) a O hm.toBase b (by rw[hw];rfl) eQ (.inl rfl) hr rfl;rw[H];have j:(f.id:Int)≠id:=by
  intro e;have:=FA a b hf;rw[e]at this;omega
 have w:Kf S V1.core:=by rw[G];exact Kf.bO O id 1
 have c:Kf S (V1.core.bO f.id (-1)).1:=w.trans (Kf.bO d _ _);have E:∃y,(V1.core.bO f.id (-1)).1.bt.pg id=some y/\y.place=1:=by
  rw[aB8 d (-1) (nc j)];have:=C id;rw[hx]at this;cases i:V1.core.bt.pg id with
  |none=>rw[i]at this;cases this
  |some y=>
   rw[i]at this;have:=cU this;simp only[o7]at this;exact⟨y,rfl,by rw[<- this.1];exact h1⟩
 obtain⟨y,i,F⟩:=E;have P:=FA a b hf;have Q:=a.small (f.id:Int);have rd:=M.down (id:=(f.id:Int)) d bu (by unfold one;rw[bJ j];omega);refine .ok K {V1 with core:=(V1.core.bO f.id (-1)).1} id (s.enter p id 1 true) ⟨1,id.toNat,true,false⟩ hK eh ⟨⟨d.bO _ _,D,t⟩,rd.congr λz=>?_,?_,?_⟩ (by show V1.procs=_;rw[pr,hp,v]) h u (by show((id.toNat:Nat):Int)=id;omega) y i F ((b0.trans b1).trans (yS d _ _)) rfl
 ·have:=J z;rw[hf]at this;have this:(fH V1.procs).count z+one z f.id=(fH W.procs).count z+one z id:=this;show(fH V1.procs).count z=if z=(f.id:Int)then(fH W.procs).count z+one z id-1 else(fH W.procs).count z+one z id
  unfold one at this ⊢;split<;>rename_i e;·rw[bL e]at this;omega
  ·rw[bJ e]at this;omega
 ·show lB V1.procs;rw[pr];refine a.g5.j1 λq e he=>?_;rw[vT h];rcases yW k he with⟨n,_⟩|r;·rw[n,hw];rfl
  ·exact a.g5 _ _ _ _ _ (jt b).2 r
 ·show fI V1.procs _;rw[pr];refine(((fI.made a hm).kf c)).j1 λq e X he m A U g=>?_;rw[vT h]at m;rcases yW k he with⟨n,I,_⟩|r
  ·subst n;rw[I]at g;obtain⟨T,l,e0⟩:=c _ _ g;rw[hx]at l;cases l;rw[e0];exact B
  ·exact((fI.made a hm).kf c) _ _ _ _ _ _ (jt b).2 r m A _ g
def aHt(h:dS V)(hn:V.core.bt.next+(V.procs.length+1)<16777216)(k:V.space pid=some s){F:Rg}(hw:s.cD p=some F)(hk:F.kind≠2)(o:cH):oY V pid p s o (V.own pid p s o):=by
 unfold Vs.own;cases he:s.entry p with
 |some e=>
  dsimp only;split;·exact SR h hn k he o
  have v:∀S g,Kc.Inv S->S.bt.next<16777216->((λ(S:Cs) g=>S.copy e.id g) S g).2.2.2≠0->gw S ((λ(S:Cs) g=>S.copy e.id g) S g).1:=λS g G hx d=>by
   dsimp only at d ⊢;rcases G.lX hx e.id g with⟨_,_,_,_,_,e0,_⟩|⟨D,_⟩|⟨e0,_⟩
   ·exact absurd e0 d
   ·exact D
   ·rw[e0];exact gw.refl S
  rcases yV (f:=λ(S:Cs) g=>S.copy e.id g) (λS g=>Path.copy _ g) v h hn (by rw[k];rfl) o with⟨K,W,hK,hp,eh,a,E,b,f0,i,_⟩|⟨K,W,err,hK,hp,a,b,i,m⟩
  ·rw[i];dsimp only at f0 ⊢;have eQ:=R5 a.inv (id:=e.id) (g:=W.group pid) bu f0;have B:=a.inv.copy bu e.id (W.group pid);rcases a.inv.lX bu e.id (W.group pid)with⟨x,hm,hx,h1,t,e0,_⟩|⟨_,e0,_⟩|⟨e0,_⟩
   ·generalize W.core.copy e.id (W.group pid)=r at*
    exact copied a B b k hK eh hp hw he eQ hm hx h1 t
   ·rw[e0]at f0;cases f0
   ·rw[e0]at f0;cases f0
  ·rw[i];dsimp only;refine FD (f:=λS g=>S.copy e.id g) (n:=V.procs.length+1) hK hp a b rfl m (λV0 l z eh b0 H w y=>?_);try dsimp only at w y ⊢
   rcases l.inv.lX bu e.id (V0.group pid)with⟨_,_,_,_,_,e0,_⟩|⟨_,e0,_⟩|⟨e0,hb⟩
   ·exact absurd e0 w
   ·exact absurd e0 y
   ·refine⟨e0,λc=>?_⟩;rcases h.inv.lX bu e.id (V.group pid)with⟨_,_,_,_,_,j,_⟩|⟨_,_,u,_⟩|⟨j,_⟩
    ·rw[j]at c;cases c
    ·rcases hb with hb|hb
     ·have A:V0.space pid=some s:=by rw[rC z,bJ eh];exact k
      obtain⟨q,C⟩:=FB l A he;exact hb ⟨q,C,l.inv.anon _ _ C (l.own _ _ _ _ _ _ (jt A).2 he hw hk _ C)⟩
     ·rw[tn z pid]at hb;exact Base.j0 b0 hb u
    ·rw[j]at c;cases c
 |none=>
  dsimp only;have v:∀S g,Kc.Inv S->S.bt.next<16777216->((λ(S:Cs) g=>S.fresh g) S g).2.2.2≠0->gw S ((λ(S:Cs) g=>S.fresh g) S g).1:=λS g G hx d=>by
   dsimp only at d ⊢;rcases G.jY hx g with⟨_,_,_,_,_,e0,_⟩|⟨D,_⟩|⟨e0,_⟩
   ·exact absurd e0 d
   ·exact D
   ·rw[e0];exact gw.refl S
  rcases yV (f:=λ(S:Cs) g=>S.fresh g) (λS g=>Path.fresh g) v h hn (by rw[k];rfl) o with⟨K,W,hK,hp,eh,a,E,b,f0,i,_⟩|⟨K,W,err,hK,hp,a,b,i,m⟩
  ·rw[i];dsimp only at f0 ⊢;have eQ:=R4 a.inv (g:=W.group pid) bu f0;have B:=a.inv.fresh bu (W.group pid);rcases a.inv.jY bu (W.group pid)with⟨x,hm,hx,h1,t,e0,_⟩|⟨_,e0,_⟩|⟨e0,_⟩
   ·generalize W.core.fresh (W.group pid)=r at*
    exact j2 a B b hm.toBase k hK eh hp hw he eQ (.inl rfl) (a.refs.made hm).1 (fI.made a hm) hx h1 (.inr t)
   ·rw[e0]at f0;cases f0
   ·rw[e0]at f0;cases f0
  ·rw[i];dsimp only;refine FD (f:=λS g=>S.fresh g) (n:=V.procs.length+1) hK hp a b rfl m (λV0 l z eh b0 H w y=>?_);try dsimp only at w y ⊢
   rcases l.inv.jY bu (V0.group pid)with⟨_,_,_,_,_,e0,_⟩|⟨_,e0,_⟩|⟨e0,hb⟩
   ·exact absurd e0 w
   ·exact absurd e0 y
   ·refine⟨e0,λc=>?_⟩;rcases h.inv.jY bu (V.group pid)with⟨_,_,_,_,_,j,_⟩|⟨_,_,u,_⟩|⟨j,_⟩
    ·rw[j]at c;cases c
    ·rcases hb with hb|hb;·exact hb
     ·rw[tn z pid]at hb;exact Base.j0 b0 hb u
    ·rw[j]at c;cases c
def alive(p:PP):Bool:=p.2.isSome
inductive lC(P P':bA PP)(K:bR):Prop
 |same (hl:P'.length=P.length) (h:∀i:Nat,(P'[i]?).map alive=(P[i]?).map λp=>alive p&&decide ((i:Int)∉K))
 |more (x:PP) (hx:alive x=true) (hK:K= []) (h:P'=P++[x])
structure fJ(V:Vs)(o:dw)(r:Vs×cH):Prop where
 yX:dS r.1
 kill:hU V r.2.bI
 FE:lC V.procs r.1.procs (r.2.bI++if o.kind=11/\r.2.err=0 then[o.a]else[])
 exit:o.kind=11/\r.2.err=0->(V.space o.a).isSome=true/\r.2.bI= []
 bad:r.2.err≠0->r.2.err≠12->r.2.err≠13->r.1=V/\r.2.n=0/\r.2.bI= []
def FF(P:bA PP):lC P P []:=.same rfl λi=>by cases P[i]? <;>simp
def FG{P P':bA PP}(hl:P'.length=P.length)(h:∀i:Nat,(P'[i]?).map alive=(P[i]?).map alive):lC P P' []:=.same hl λi=>by rw[h];cases P[i]? <;>simp
def fJ.id(h:dS V){o:dw}{e:Int}(he:e≠0\/o.kind≠11):fJ V o (V,.bad e):=by
 refine⟨h,hU.nil V,?_,λc=>?_,λ_ _ _=>⟨rfl,rfl,rfl⟩⟩
 ·rw[bJ];·exact FF _
  ·rintro⟨a,b⟩;rcases he with he|he;·exact he b
   ·exact he a
 ·rcases he with he|he;·exact absurd c.2 he
  ·exact absurd c.1 he
def fJ.core(h:dS V){o:dw}{S:Cs}{a:cH}(t:Kc.Inv S)(hk:o.kind≠11)(d:∀x,(S.bt.pg x).map kr=(V.core.bt.pg x).map kr)(f:a.bI= [])(hb:a.err≠0->a.err≠12->a.err≠13->S=V.core/\a.n=0):fJ V o ({V with core:=S},a):=by
 refine⟨⟨⟨t,h.sp,h.e8⟩,λx=>by rw[Fw (d x)];exact h.refs x,h.g5,λi g s q e x n he hw m p hp=>?_⟩,by rw[f];exact hU.nil V,?_,λc=>absurd c.1 hk,λj k l=>⟨?_,(hb j k l).2,f⟩⟩
 ·have:=d e.id;have hp:S.bt.pg e.id=some p:=hp;rw[hp]at this;cases b:V.core.bt.pg e.id with
  |none=>rw[b]at this;cases this
  |some r=>
   rw[b]at this;have e0:kr p=kr r:=cU this;unfold kr at e0;simp only[o7]at e0;rw[e0.1];exact h.own _ _ _ _ _ _ n he hw m _ b
 ·rw[f,bJ (λc=>hk c.1)];exact FF _
 ·rw[(hb j k l).1]
def aFo{S:Cs}(g a n:Int)(h:(S.cC g a n).2≠0):(S.cC g a n).1=S:=by
 unfold Cs.cC at h ⊢;split at h<;>rename_i h1;·rw[bL h1]
 rw[bJ h1];split at h<;>rename_i h2;·rw[bL h2]
 rw[bJ h2];split at h<;>rename_i e;·exact absurd rfl h
 rw[bJ e];split at h<;>rename_i f;·exact absurd rfl h
 rw[bJ f];split at h<;>rename_i d
 ·rw[bL d];unfold j4 at h ⊢;dsimp only at h ⊢;split at h<;>rename_i b;·exact absurd rfl h
  ·rw[bJ b]
 rw[bJ d];split at h<;>rename_i b
 ·rw[bL b];unfold j4 at h ⊢;dsimp only at h ⊢;split at h<;>rename_i c;·exact absurd rfl h
  ·rw[bJ c]
 rw[bJ b];split at h<;>rename_i c
 ·rw[bL c];split at h<;>rename_i i;·rw[bL i]
  ·exact absurd rfl h
 rw[bJ c]
def aBX(S:Cs)(g a n:Int):(S.cC g a n).1.bt=S.bt:=by
 unfold Cs.cC Cs.ig;repeat' split
 all_goals rfl
def aEk(h:dS V)(o:dw)(hk:o.kind=0):fJ V o (V.act o):=by
 unfold Vs.act;rw[bL hk];refine fJ.core h (h.inv.cp _) bu (λx=>?_) rfl (λhe _ _=>?_);·unfold Cs.cp;dsimp only;split<;>rfl
 ·dsimp only at he ⊢;unfold Cs.cp at he ⊢;dsimp only at he ⊢;split at he<;>rename_i h1;·exact absurd h1 he
  ·rw[bJ h1];refine⟨rfl,?_⟩;unfold gi at h1 ⊢;split at h1<;>rename_i h2;·rw[bL h2];rfl
   rw[bJ h2];split at h1<;>rename_i a;·rw[bL a];rfl
   rw[bJ a];split at h1<;>rename_i b;·rw[bL b];rfl
   ·exact absurd rfl h1
def aFJ{S:Cs}(h:Kc.Inv S)(g x:Int):((S.remove g).1.bt.pg x).map kr=(S.bt.pg x).map kr:=by
 unfold Cs.remove;dsimp only;split
 ·show((S.bt.dx (S.bt.et g) (o9 S.tree g)).pg x).map kr=_;rw[w3 h.cI,wk];cases S.bt.pg x with
  |none=>rfl
  |some p=>rw[gh,gh];show some (kr (if _ then _ else _))=_;split<;>rfl
 ·rfl
def aDj(h:dS V)(o:dw)(hk:o.kind=1):fJ V o (V.act o):=by
 unfold Vs.act;rw[cF,bL hk];split;·exact fJ.id h (.inr bu)
 ·refine fJ.core h (h.inv.remove _) bu (aFJ h.inv _) rfl (λhe _ _=>⟨?_,rfl⟩);have he:(V.core.remove o.a).2≠0:=he;unfold Cs.remove at he ⊢;dsimp only at he ⊢;split at he<;>rename_i h1;·exact absurd rfl he
  ·rw[bJ h1]
def aEl(h:dS V)(o:dw)(hk:o.kind=2):fJ V o (V.act o):=by
 unfold Vs.act;rw[cF,cF,bL hk];exact fJ.core h (h.inv.cC _ _ _) bu (λx=>by rw[aBX]) rfl (λhe _ _=>⟨aFo _ _ _ he,rfl⟩)
def tp{P:bA PP}{x:PP}{i:Nat}{g:Int}{s:Sp}(h:(P++[x])[i]?=some (g,some s)):P[i]?=some (g,some s)\/x=(g,some s):=by
 rcases hN i P.length with a|a;·rw[eN a]at h;exact .inl h
 ·rw[fR a]at h;rcases kZ (i-P.length)with b|b;·rw[b]at h;exact .inr (cU h)
  ·rw[g2 (by simp;omega)]at h;cases h
def SV(P:bA PP)(x:PP)(y:Int):(fH (P++[x])).count y=(fH P).count y+(adc x).count y:=by
 unfold fH;rw[F3,wb];simp
def aEn(h:dS V)(o:dw)(hk:o.kind=3):fJ V o (V.act o):=by
 unfold Vs.act;rw[cF,cF,cF,bL hk];split;·exact fJ.id h (.inr bu)
 split;·exact fJ.id h (.inr bu)
 refine⟨⟨⟨h.inv,λi g s a=>?_,by show(V.procs++[_]).length<=64;rw[dg];simp only[l1];omega⟩,h.refs.congr λx=>?_,λi g s q e a he=>?_,λi g s q e x a he hw b p hp=>?_⟩,hU.nil V,?_,λc=>bu,λc _ _=>absurd rfl c⟩
 ·rcases tp a with a|a;·exact h.sp _ _ _ a
  ·cases a;exact fC.new
 ·show(fH (V.procs++[_])).count x=_;rw[SV];rfl
 ·rcases tp a with a|a;·exact h.g5 _ _ _ _ _ a he
  ·cases a;unfold Sp.entry at he;split at he<;>cases he
 ·rcases tp a with a|a;·exact h.own _ _ _ _ _ _ a he hw b p hp
  ·cases a;unfold Sp.entry at he;split at he<;>cases he
 ·rw[cF];exact .more _ rfl rfl rfl
def aIj(h:dS V)(o:dw)(hk:o.kind=12):fJ V o (V.act o):=by
 unfold Vs.act;rw[cF,cF,cF,cF,bL hk];exact fJ.core h (h.inv.du _) bu (λx=>rfl) rfl (λhe _ _=>absurd rfl he)
def aDk(h:dS V)(o:dw)(hk:o.kind=13):fJ V o (V.act o):=by
 unfold Vs.act;rw[cF,cF,cF,cF,cF,bL hk];exact fJ.core h (h.inv.shrink _ _) bu ((w4 h.inv _ _).g6 h.inv).kr rfl (λhe _ _=>absurd rfl he)
def yY{P:bA PP}{i:Nat}{g a:Int}{s s1:Sp}(h:P[i]?=some (g,some s))(j:Nat):((P.set i (a,some s1))[j]?).map alive=(P[j]?).map alive:=by
 rw[hd];split
 ·next e=>
  subst e;rw[bL (c4.1 h).1,h];rfl
 ·rfl
def FH(P:bA PP)(K:bR):lC P (hH K P) K:=.same (SO _ _) λi=>by
 rw[n4,wk];cases P[i]? with
 |none=>rfl
 |some p=>
  rw[gh,gh];show some (alive (if _ then _ else _))=_;split<;>rename_i h;·simp[alive,h]
  ·simp[h]
def aG2{P:bA PP}{K:bR}{i:Nat}{g b:Int}{s s1:Sp}(h:(hH K P)[i]?=some (g,some s)):lC P ((hH K P).set i (b,some s1)) K:=by
 cases FH P K with
 |same hl a=>exact .same (by rw[dM];exact hl) λj=>by rw[yY h];exact a j
 |more x hx hK a=>exact absurd (eK List.length a) (by rw[SO,dg];simp)
def dS.fO(h:dS V)(t:V.space pid=some s)(g:Int){s1:Sp}(l:fC s1)(r:∀x,(g1 s1).count x=(g1 s).count x)(hw:∀q e,s1.entry q=some e->∃f,s.entry q=some f/\f.id=e.id/\((s.cD q).isSome=true->∃x y,s1.cD q=some x/\s.cD q=some y/\x.kind=y.kind)):dS {V with procs:=V.procs.set pid.toNat (g,some s1)} :=by
 obtain⟨w,hp⟩:=jt t;have k:=(c4.1 hp).1;refine⟨⟨h.inv,λi o s' a=>?_,by show(V.procs.set _ _).length<=64;rw[dM];exact h.e8⟩,h.refs.congr λx=>?_,?_,?_⟩
 ·have a:(V.procs.set pid.toNat (g,some s1))[i]?=some (o,some s'):=a;rw[hd]at a;split at a
  ·try rw[bL k]at a
   cases a;exact l
  ·exact h.sp _ _ _ a
 ·have u:=nT (x:=x) (p':=(g,some s1)) hp;have v:(adc (g,some s1)).count x=(adc (V.group pid,some s)).count x:=r x;show(fH (V.procs.set pid.toNat (g,some s1))).count x=_;omega
 ·refine lB.j1 (P:=V.procs) h.g5 λq e he=>?_;obtain⟨f,b,_,d⟩:=hw q e he;obtain⟨x,y,h1,_⟩:=d (h.g5 _ _ _ _ _ hp b);rw[h1];rfl
 ·refine fI.j1 (P:=V.procs) h.own λq e x he m j z c=>?_;obtain⟨f,b,n,d⟩:=hw q e he;obtain⟨A,y,h1,h2,p⟩:=d (h.g5 _ _ _ _ _ hp b);rw[m]at h1;cases h1;rw[<- n]at c;exact h.own _ _ _ _ _ _ hp b h2 (by rw[<- p];exact j) _ c
def FI(h:s.entry p=none):s.cy p=s:=by unfold Sp.cy;rw[h]
def FJ{e:En}(h:s.entry p=some e):s.cy p= {s with cI:=eW s.cI p.toNat {e with tc:=true}} :=by unfold Sp.cy;rw[h]
def aCb(a:fC s)(q:Int):((s.cy p).entry q).map En.id=(s.entry q).map En.id:=by
 cases he:s.entry p with
 |none=>rw[FI he]
 |some e=>
  rw[FJ he];obtain⟨d,_,_,c⟩:=a.entry he;unfold Sp.entry;split
  ·dsimp only;rw[u6 a.cI.cZ];split;·next b=>rw[b,c];rfl
   ·rfl
  ·rfl
def aCa(a:fC s)(x:Int):(g1 (s.cy p)).count x=(g1 s).count x:=by
 cases he:s.entry p with
 |none=>rw[FI he]
 |some e=>
  rw[FJ he];obtain⟨c,_,_,b⟩:=a.entry he;have:=Fz (p:=p.toNat) (e:={e with tc:=true}) x a.cI.cZ;rw[b]at this;unfold g1;dsimp only at this ⊢;omega
def aDZ:(s.cy p).dq=s.dq:=by
 cases he:s.entry p with
 |none=>rw[FI he]
 |some e=>rw[FJ he]
def dS.cy(h:dS V)(b:V.space pid=some s)(p:Int):dS (V.cy pid p)/\(V.cy pid p).procs=V.procs.set pid.toNat (V.group pid,some (s.cy p)):=by
 have a:=h.sp _ _ _ (jt b).2;have e:V.cy pid p= {V with procs:=V.procs.set pid.toNat (V.group pid,some (s.cy p))} :=by unfold Vs.cy;rw[b];rfl
 rw[e];refine⟨h.fO b _ (a.cy p) (aCa a) λq e he=>?_,rfl⟩;have:=aCb (p:=p) a q;rw[he]at this;cases hf:s.entry q with
 |none=>rw[hf]at this;cases this
 |some f=>
  rw[hf]at this;refine⟨f,rfl,(cU this).symm,λc=>?_⟩;obtain⟨y,d⟩:=kJ.1 c;exact⟨y,y,by rw[vT aDZ];exact d,d,rfl⟩
structure iP(V:Vs)(pid:Int)(r:Vs×cH):Prop where
 yX:dS r.1
 kill:hU V r.2.bI
 FE:lC V.procs r.1.procs r.2.bI
 bad:r.2.err≠0->r.2.err≠12->r.2.err≠13->r.1=V/\r.2.n=0/\r.2.bI= []
def iP.hV(h:dS V)(e:Int):iP V pid (V,.bad e):=⟨h,hU.nil V,FF _,λ_ _ _=>⟨rfl,rfl,rfl⟩⟩
def oY.call{q:Vs×cH×bW Int}(m:V.space pid=some s)(d:oY V pid p s .zero q){F:Vs->Int->Vs}{N:Vs->Int->Int->Int}(t:∀V1 id s1,dS V1->V1.space pid=some s1->∃g s2,(F V1 id).procs=V1.procs.set pid.toNat (g,some s2)/\dS (F V1 id)):
  iP V pid (match q.2.2 with|none=>(q.1,q.2.1)|some id=>(F q.1 id, {q.2.1 with n:=N q.1 id q.2.1.n})):=by
 rcases d with⟨K,V1,id,s1,e,hK,eh,h,hp,hr,he,eQ,x,hx,h1,b,rfl⟩|⟨K,W,err,hK,hp,h,b,rfl,he⟩
 ·dsimp only;have f:=SQ m eh;have l:=(c4.1 f).1;have o:V1.procs[pid.toNat]?=some (V.group pid,some s1):=by rw[hp,iZ l]
  have j:V1.space pid=some s1:=by
   have:=(jU o).1;rwa[show((pid.toNat:Nat):Int)=pid by have:=(jt m).1;omega]at this
  obtain⟨g,s2,i,u⟩:=t V1 id s1 h j;refine⟨u,hK,?_,λk _ _=>absurd rfl k⟩;dsimp only;rw[i,hp,List.set_set];exact aG2 f
 ·dsimp only;refine⟨h,hK,by dsimp only;rw[hp];exact FH _ _,λk i r=>?_⟩;rcases he with⟨a,_⟩|⟨a,_⟩|⟨_,a,c⟩
  ·exact absurd a i
  ·exact absurd a r
  ·subst a;exact⟨c,rfl,rfl⟩
def aFp(h:dS V)(hn:V.core.bt.next+(V.procs.length+1)<16777216)(f:V.space pid=some s)(b:Int):iP V pid (V.load pid s b):=by
 unfold Vs.load;dsimp only;cases hw:s.cD (b/16)with
 |none=>exact iP.hV h 14
 |some x=>
  dsimp only;split;·exact iP.hV h 14
  split;·exact iP.hV h 0
  next c=>
  have g:=h.sp _ _ _ (jt f).2;have a:=(s6 g hw).2.2.1;have hk:s.entry (b/16)=none->x.kind=2:=λe=>by
   rw[e]at c;unfold Rg.valid at a;rw[dA]at a;split at a;·next h1=>exact absurd ⟨rfl,h1⟩ c
   ·split at a;·assumption
    ·exact absurd a.2 bN
  have d:=SU h hn f hw hk .zero;exact d.call f (F:=λV1 id=> {V1 with core:=(V1.core.get id (b%16)).1}.cy pid (b/16)) (N:=λV1 id _=>(V1.core.get id (b%16)).2.1) λV1 id s1 m i=>by
   have j:dS {V1 with core:=(V1.core.get id (b%16)).1} :=m.core (aFi _ _) (m.inv.get _ _);obtain⟨k,e⟩:=dS.cy j (s:=s1) (pid:=pid) i (b/16);exact⟨_,_,e,k⟩
def aDW(h:dS V)(hn:V.core.bt.next+(V.procs.length+1)<16777216)(a:V.space pid=some s)(b c:Int):iP V pid (V.store pid s b c):=by
 unfold Vs.store;dsimp only;split;·exact iP.hV h 1
 cases hw:s.cD (b/16)with
 |none=>exact iP.hV h 14
 |some x=>
  dsimp only;split;·exact iP.hV h 14
  split;·exact iP.hV h 15
  have d:oY V pid (b/16) s .zero (if x.kind=2 then V.there pid (b/16) s x .zero else V.own pid (b/16) s .zero):=by
   split;·next hk=>exact SU h hn a hw (λ_=>hk) .zero
   ·next hk=>exact aHt h hn a hw hk .zero
  generalize (if x.kind=2 then V.there pid (b/16) s x .zero else V.own pid (b/16) s .zero)=q at d;exact d.call a (F:=λV1 id=> {V1 with core:=(V1.core.put id (b%16) (UInt8.ofNat c.toNat)).1}.cy pid (b/16)) (N:=λV1 id n=>n) λV1 id s1 m f=>by
   have g:dS {V1 with core:=(V1.core.put id (b%16) (UInt8.ofNat c.toNat)).1} :=m.core (aFF _ _ _) (m.inv.put _ _ _);obtain⟨i,e⟩:=dS.cy g (s:=s1) (pid:=pid) f (b/16);exact⟨_,_,e,i⟩
def SW:∀ {l:bA Rg} {a:Int},fc a l=true->(∀x∈l,a<=x.a/\x.a<x.b)/\l.Pairwise λx y=>x.b<=y.a
 |[],_,_=>⟨(λ_ h=>by cases h),List.Pairwise.nil⟩
 |x::l,a,h=>by
  simp only[fc,dA,gE]at h;obtain⟨⟨c,d⟩,hr⟩:=h;obtain⟨h1,h2⟩:=SW hr;have hx:x.a<x.b:=by
   unfold Rg.valid at c;rw[dA,gE]at c;exact c.1.2.1
  refine⟨λy b=>?_,g7.2 ⟨λy b=>(h1 y b).1,h2⟩⟩;rcases ey.1 b with rfl|b;·exact⟨d,hx⟩
  ·have:=h1 y b;omega
def SX{l:bA Rg}{q:Int}{x:Rg}(h:jL l q=some x):x∈l/\x.has q=true:=by
 unfold jL at h;split at h;·exact⟨eH h,yg (q:=λx=>x.has q) h⟩
 ·cases h
def SY{l:bA Rg}(hr:fc 0 l=true){q:Int}{x:Rg}(hx:x∈l)(b:x.has q=true):jL l q=some x:=by
 unfold jL;rw[bL hr];obtain⟨i,a⟩:=FZ hx;have:=DH (q:=λx:Rg=>x.has q) a b (λj y h k=>by
  cases c:y.has q with
  |false=>rfl
  |true=>
   exfalso;have hp:=(SW hr).2;obtain⟨f,g⟩:=c4.1 k;obtain⟨d,e⟩:=c4.1 a;have:=m6.1 hp j i f d h;rw[g,e]at this;unfold Rg.has at c b;simp at c b;omega)
 rw[this];exact a
def aIm{l:bA Rg}{x y:Rg}(a:y∈l):y∈(eC l x).1:=by
 unfold eC;dsimp only;have key:∀n,y∈l.take n++x::l.drop n:=λn=>by
  rw[<- fK n l]at a;rcases gF.1 a with h|h;·exact gF.2 (.inl h)
  ·exact gF.2 (.inr (fT _ h))
 split;·exact a
 split
 ·split;·exact a
  ·exact key _
 ·exact key _
def aG1{l:bA Rg}(hr:fc 0 l=true){a b q:Int}(k:fc 0 (gW l a b)=true)(p:¬ (a<=q/\q<b)){y:Rg}(m:jL l q=some y):∃x,jL (gW l a b) q=some x/\x.kind=y.kind:=by
 obtain⟨hm,h⟩:=SX m;have i:y.a<=q/\q<y.b:=by unfold Rg.has at h;simpa using h
 have g:∀c d:Int,c<=q/\q<d->prt y c d∈fD y c d/\(prt y c d).has q=true/\(prt y c d).kind=y.kind:=λc d n=>by
  unfold fD;rw[eJ];refine⟨h8.2 rfl,?_,rfl⟩;unfold Rg.has prt;simp;omega
 have mk:∀x,x∈fw a b y->x.has q=true->x.kind=y.kind->∃x,jL (gW l a b) q=some x/\x.kind=y.kind:=λx hx j hk=>by
  refine⟨x,SY k ?_ j,hk⟩;unfold gW;rw[bL hr];exact y7.2 ⟨y,hm,hx⟩
 by_cases f:b<=a
 ·obtain⟨h1,h2,e⟩:=g y.a y.b i;exact mk _ (by unfold fw;rw[bL f];exact h1) h2 e
 ·by_cases o:q<a
  ·obtain⟨h1,h2,e⟩:=g y.a (min y.b a) bu;exact mk _ (by unfold fw;rw[bJ f];exact gF.2 (.inl h1)) h2 e
  ·obtain⟨h1,h2,e⟩:=g (max y.a b) y.b bu;exact mk _ (by unfold fw;rw[bJ f];exact gF.2 (.inr h1)) h2 e
def aHz{l:bA Rg}{x:Rg}(h:(eC l x).2≠0):(eC l x).1=l:=by
 unfold eC at h ⊢;dsimp only at h ⊢;split at h<;>rename_i h1;·rw[bL h1]
 rw[bJ h1];split at h
 ·split at h<;>rename_i h2;·rw[bL h2]
  ·exact absurd rfl h
 ·exact absurd rfl h
def SZ(h:dS V)(c:V.space pid=some s)(x:Rg):iP V pid (V.map pid s x):=by
 obtain⟨k,hp⟩:=jt c;have a:=h.sp _ _ _ hp;have b:fc 0 (s.map x).1.dq=true:=Pp a.g5;unfold Vs.map;refine⟨?_,hU.nil V,?_,λg _ _=>⟨?_,rfl,rfl⟩⟩
 ·refine h.fO c _ (s1:=(s.map x).1) ⟨a.cI,b⟩ (λ_=>rfl) λq e he=>⟨e,he,rfl,λd=>?_⟩
  obtain⟨y,f⟩:=kJ.1 d;obtain⟨hm,j⟩:=SX f;exact⟨y,y,SY b (aIm hm) j,f,rfl⟩
 ·exact FG (by show(V.procs.set _ _).length=_;rw[dM]) (yY hp)
 ·have i:(s.map x).1=s:=by
   unfold Sp.map;have:(eC s.dq x).2≠0:=g;rw[aHz this]
  dsimp only;rw[i];show(⟨V.core,V.procs.set pid.toNat (V.group pid,some s)⟩:Vs)=V;rw[tk hp]
def aD1(h:dS V)(D:V.space pid=some s)(a b:Int):iP V pid ({V.fO pid (some (s.cut a b).1)with core:=eb (s.cut a b).2 V.core},⟨0,(s.cut a b).2.length,[]⟩):=by
 obtain⟨K,hp⟩:=jt D;have f:=h.sp _ _ _ hp;have n:=(c4.1 hp).1;have g:=f.cut a b;have u:∀x,(g1 s).count x=(g1 (s.cut a b).1).count x+((s.cut a b).2).count x:=λx=>by
  unfold g1;show _=((s.cI.filter λq=> !hj a b q.1).map _).count x+((s.cI.filter λq=>hj a b q.1).map λq=>(q.2.id:Int)).count x;generalize s.cI=T;induction T with
  |nil=>rfl
  |cons q T z=>
   by_cases j:hj a b q.1=true;·rw[List.filter_cons_of_neg (p:=λq:Nat×En=> !hj a b q.1) (by simp[j]),List.filter_cons_of_pos (p:=λq:Nat×En=>hj a b q.1) j,kd,kd,wg,wg,z];omega
   ·rw[List.filter_cons_of_pos (p:=λq:Nat×En=> !hj a b q.1) (by simpa using j),List.filter_cons_of_neg (p:=λq:Nat×En=>hj a b q.1) j,kd,kd,wg,wg,z];omega
 have l:∀x,(fH (V.procs.set pid.toNat (V.group pid,some (s.cut a b).1))).count x+((s.cut a b).2).count x=(fH V.procs).count x:=λx=>by
  have H:=nT (x:=x) (p':=(V.group pid,some (s.cut a b).1)) hp;have I:(adc (V.group pid,some s)).count x=(g1 s).count x:=rfl;have J:(adc (V.group pid,some (s.cut a b).1)).count x=(g1 (s.cut a b).1).count x:=rfl;have:=u x;omega
 obtain⟨r,G⟩:=Fx (s.cut a b).2 h.inv h.inv.ids h.refs (λx=>by have:=l x;omega) h.small;have F:=((vP (s.cut a b).2 V.core).inv h.inv (by have:=h.inv.ids;omega)).1;have d:∀q e,(s.cut a b).1.entry q=some e->s.entry q=some e/\¬ (a<=q/\q<b):=λq e he=>by
  unfold Sp.entry at he;split at he
  ·next t=>
   have hm:=sZ he;have hm:(q.toNat,e)∈s.cI.filter λq=> !hj a b q.1:=hm;obtain⟨h1,h2⟩:=gq.1 hm;refine⟨by unfold Sp.entry;rw[bL t];exact s0 f.cI.cZ h1,λE=>?_⟩;unfold hj at h2;simp at h2;omega
  ·cases he
 have k:∀q e,(s.cut a b).1.entry q=some e->∃x y,(s.cut a b).1.cD q=some x/\s.cD q=some y/\x.kind=y.kind:=λq e he=>by
  obtain⟨h1,h2⟩:=d q e he;obtain⟨y,w⟩:=kJ.1 (h.g5 _ _ _ _ _ hp h1);obtain⟨x,hx,hk⟩:=aG1 f.g5 g.g5 h2 w;exact⟨x,y,hx,w,hk⟩
 refine⟨⟨⟨F,λi B s' c=>?_,by show(V.procs.set _ _).length<=64;rw[dM];exact h.e8⟩,r.congr λx=>?_,?_,?_⟩,hU.nil V,?_,λA _ _=>absurd rfl A⟩
 ·have c:(V.procs.set pid.toNat (V.group pid,some (s.cut a b).1))[i]?=some (B,some s'):=c;rw[hd]at c;split at c
  ·try rw[bL n]at c
   cases c;exact g
  ·exact h.sp _ _ _ c
 ·show(fH (V.procs.set pid.toNat (V.group pid,some (s.cut a b).1))).count x=_;have:=l x;omega
 ·refine lB.j1 (P:=V.procs) h.g5 λq e he=>?_;obtain⟨x,y,h1,_⟩:=k q e he;rw[h1];rfl
 ·refine fI.j1 (P:=V.procs) (fI.kf h.own (Kf.eb _ h.inv)) λq e x he v m L o=>?_;obtain⟨M,y,h1,h2,C⟩:=k q e he;rw[v]at h1;cases h1;exact(fI.kf h.own (Kf.eb _ h.inv)) _ _ _ _ _ _ hp (d q e he).1 h2 (by rw[<- C];exact m) _ o
 ·exact FG (by show(V.procs.set _ _).length=_;rw[dM]) (yY hp)
def Kf.dP:∀(ids:bR) {S:Cs},Kc.Inv S->Kf S (dP ids S)
 |[],_,_=> λ_ q a=>⟨q,a,rfl⟩
 |y::l,_,b=>(Kf.bO b y 1).trans (Kf.dP l (b.bO y 1))
def aFe(h:dS V)(j:V.space pid=some s)(hf:¬ 64<=V.procs.length):iP V pid ({core:=dP (s.ids 0 65536) V.core,procs:=V.procs++[(V.group pid,some s)]},⟨0,V.procs.length,[]⟩):=by
 obtain⟨m,hp⟩:=jt j;have b:=h.sp _ _ _ hp;have hl:(s.ids 0 65536).length<=65536:=by rw[vR b];unfold g1;rw[en];exact Go.Mp.gN b.cI
 obtain⟨r,l⟩:=SN (s.ids 0 65536) h.inv h.inv.ids h.refs (λx hx=>by
  rw[vR b]at hx;exact lG (List.count_pos_iff.2 hx) (count_le hp)) (λx=>by
  have:=Fy (x:=x) h.sp;have:=h.e8;omega)
 have k:=((Fp (s.ids 0 65536) V.core).inv h.inv (by have:=h.inv.ids;omega)).1;refine⟨⟨⟨k,λi g s' a=>?_,by show(V.procs++[_]).length<=64;rw[dg];simp only[l1];omega⟩,r.congr λx=>?_,λi g s' q e a he=>?_,λi g s' q e x a he hw c p d=>?_⟩,hU.nil V,.more _ rfl rfl rfl,λf _ _=>absurd rfl f⟩
 ·rcases tp a with a|a;·exact h.sp _ _ _ a
  ·cases a;exact b
 ·show(fH (V.procs++[_])).count x=_;rw[SV,vR b];rfl
 ·rcases tp a with a|a;·exact h.g5 _ _ _ _ _ a he
  ·cases a;exact h.g5 _ _ _ _ _ hp he
 ·rcases tp a with a|a;·exact(fI.kf h.own (Kf.dP _ h.inv)) _ _ _ _ _ _ a he hw c p d
  ·cases a;exact(fI.kf h.own (Kf.dP _ h.inv)) _ _ _ _ _ _ hp he hw c p d
def aBM(h:dS V)(a:V.space pid=some s)(g:Int):iP V pid ({V with procs:=V.procs.set pid.toNat (g,some s)},.zero):=by
 obtain⟨f,hp⟩:=jt a;refine⟨h.fO a g (h.sp _ _ _ hp) (λ_=>rfl) λq e he=>⟨e,he,rfl,λb=>?_⟩,hU.nil V,FG (by show(V.procs.set _ _).length=_;rw[dM]) (yY hp),λd _ _=>absurd rfl d⟩;obtain⟨y,c⟩:=kJ.1 b;exact⟨y,y,c,c,rfl⟩
def aIS(h:dS V)(hn:V.core.bt.next+(V.procs.length+1)<16777216){o:dw}(a:V.space o.a=some s)(hk:4<=o.kind/\o.kind<=10):iP V o.a (V.call s o):=by
 unfold Vs.call;dsimp only;split
 ·split;·exact aBM h a _
  ·exact iP.hV h 2
 split
 ·split;·exact SZ h a _
  ·exact iP.hV h 1
 split
 ·split
  ·split;·exact iP.hV h 1
   ·exact SZ h a _
  ·exact iP.hV h 1
 split
 ·split;·exact aD1 h a _ _
  ·exact iP.hV h 1
 split;·exact aFp h hn a _
 split;·exact aDW h hn a _ _
 split
 ·split;·exact iP.hV h 3
  ·next hf=>exact aFe h a hf
 ·omega
def FK(h:dS V)(hn:V.core.bt.next+(V.procs.length+1)<16777216)(o:dw):fJ V o (V.act o):=by
 by_cases l:o.kind=0;·exact aEk h o l
 by_cases h1:o.kind=1;·exact aDj h o h1
 by_cases h2:o.kind=2;·exact aEl h o h2
 by_cases n:o.kind=3;·exact aEn h o n
 by_cases f:o.kind=12;·exact aIj h o f
 by_cases g:o.kind=13;·exact aDk h o g
 by_cases hm:o.kind<0\/13<o.kind;·rw[Sm ⟨hm,trivial⟩];exact fJ.id h (.inl bN)
 rw[E7 ⟨bu,bu⟩];cases i:V.space o.a with
 |none=>exact fJ.id h (.inl bN)
 |some s=>
  dsimp only;by_cases a:o.kind=11
  ·have e:V.call s o=(V.exit o.a,.zero):=by
    unfold Vs.call;dsimp only;rw[cF,cF,cF,cF,cF,cF,cF]
   rw[e];obtain⟨m,_,pr⟩:=h.exit o.a;refine⟨m,hU.nil V,?_,λ_=>⟨by rw[i];rfl,rfl⟩,λj _ _=>absurd rfl j⟩;rw[bL ⟨a,rfl⟩];show lC V.procs (V.exit o.a).procs [o.a];rw[pr];exact FH _ _
  ·obtain⟨m,k,d,b⟩:=aIS h hn i ⟨bu,bu⟩;refine⟨m,k,?_,λc=>absurd c.1 a,b⟩;rw[bJ (λc=>a c.1),hs];exact d
def hC{V:Vs}(h:dS V)(hn:V.core.bt.next+(V.procs.length+1)<16777216)(o:dw):(V.act o).1.core.bt.next<=V.core.bt.next+66:=by
 have e8:=h.e8;by_cases hk:o.kind≠0/\o.kind≠1/\o.kind≠2;·have:=((SH hk).inv h.inv bu).2.2;omega
 ·unfold Vs.act;by_cases a:o.kind=0
  ·rw[bL a];have:=((cr.cp (S:=V.core) o.a).inv h.inv bu).2.2;show(V.core.cp o.a).1.bt.next<=_;omega
  by_cases h1:o.kind=1
  ·rw[bJ a,bL h1];split;·show V.core.bt.next<=_;omega
   ·have:=((cr.remove (S:=V.core) o.a).inv h.inv bu).2.2;show(V.core.remove o.a).1.bt.next<=_;omega
  ·have h2:o.kind=2:=rE λh2=>hk ⟨a,h1,h2⟩;rw[bJ a,bJ h1,bL h2];have:=((cr.cC (S:=V.core) o.a o.b o.c).inv h.inv bu).2.2;show(V.core.cC o.a o.b o.c).1.bt.next<=_;omega
end Go.Kw
namespace Go.Kc
open Go Go.Kt Go.Sp
variable{S S':Cs}
def Pl(S S':Cs):Prop:=S'.fr.bS.length=S.fr.bS.length/\S'.sl.bS.length=S.sl.bS.length
def Pl.refl(S:Cs):Pl S S:=⟨rfl,rfl⟩
def Pl.trans{A B C:Cs}(h:Pl A B)(k:Pl B C):Pl A C:=⟨k.1.trans h.1,k.2.trans h.2⟩
def Pl.outs(a:Inv S)(h:eD S S'):Pl S S':=(h.kept a).bS
def Pl.c3(h:Inv S)(hn:S.bt.next<16777216){g:Int}(hl:S.live g=true)(text:bA UInt8):Pl S (S.c3 g text).1:=by
 rcases uu h hn hl text with⟨S0,a,k,he,_⟩|⟨S0,t,k,he⟩
 ·have p:=Pl.outs h k.outs;rw[he];exact⟨(dM).trans p.1,p.2⟩
 ·rw[he];exact Pl.outs h k.outs
def Pl.cd(h:Inv0 S)(c:∀x p,S.bt.pg x=some p->p.kf<0->p.place≠0)(x g:Int):Pl S (S.cd x g).1:=by
 by_cases hb:S.bt.pg x=none\/S.live g=false\/∃p,S.bt.pg x=some p/\p.place=0/\p.kf<0;·rw[oF h hb];exact Pl.refl S
 ·obtain⟨p,hp⟩:∃p,S.bt.pg x=some p:=by
   cases f:S.bt.pg x with
   |none=>exact absurd (.inl f) hb
   |some p=>exact⟨p,rfl⟩
  have hl:S.live g=true:=by
   cases d:S.live g with
   |true=>rfl
   |false=>exact absurd (.inr (.inl d)) hb
  by_cases h1:p.place=1;·rw[w1 h hp h1 hl];exact Pl.refl S
  ·rcases sd h c hp hl (λe=>hb (.inr (.inr ⟨p,hp,e⟩))) h1 with⟨S0,a,b,_⟩|⟨S0,i,b,he⟩
   ·have q:=Pl.outs ⟨h,c⟩ b.took.outs;refine⟨by rw[b.bS];exact(dM).trans q.1,?_⟩;rw[b.sl];split;·exact(rY _ _).trans q.2
    ·exact q.2
   ·rw[he];exact Pl.outs ⟨h,c⟩ b.outs
def Pl.cN(h:Inv S)(hn:S.bt.next<16777216)(k:Int×Int)(g:Int):Pl S (S.cN k g).1:=by
 unfold Cs.cN;dsimp only;split;·exact Pl.refl S
 next i=>
 have hl:S.live g=true:=by
  cases a:S.live g with
  |true=>rfl
  |false=>exact absurd (.inr a) i
 have hf:ej S.files k=true:=by
  cases a:ej S.files k with
  |true=>rfl
  |false=>exact absurd (.inl a) i
 by_cases hm:S.bt.of k<0
 ·rw[dE hm];simp only[gQ];obtain⟨kf,ki⟩:=k;have e:=uw hf;have j:=pv S.bt (kf:=kf) (ki:=ki) (o:=g) ⟨h.cI.next,hn⟩ (.inr hm);have m:=h.toInv0.make hn (kf:=kf) (ki:=ki) hl (.inr ⟨hm,hf⟩);have f:gJ S.bt kf ki=(kf,ki):=by unfold gJ;rw[bJ (by have:0<=kf:=e;omega)]
  have c:∀x p,(S.bt.make kf ki g).1.pg x=some p->p.kf<0->p.place≠0:=by
   intro x q d b;rw[j.2.2]at d;split at d
   ·rw[<- cU d,f]at b;have:kf<0:=b;have:0<=kf:=e;omega
   ·exact h.anon _ _ d b
  have l:=Pl.cd (S:={S with bt:=(S.bt.make kf ki g).1}) m c (S.bt.make kf ki g).2.1 g;split<;>exact l
 ·rw[di hm];simp only[l2,gP];have:=Pl.cd h.toInv0 h.anon (S.bt.of k) g;split<;>exact this
def Pl.bO(h:Inv S)(x n:Int):Pl S (S.bO x n).1:=by
 rcases oG h x n with⟨_,he⟩|⟨p,hp,⟨_,he⟩|⟨_,_,he⟩|⟨_,_,_,_,_,_,_,_,a,b,_⟩⟩
 ·rw[he];exact Pl.refl S
 ·rw[he];exact Pl.refl S
 ·rw[he];exact Pl.refl S
 ·refine⟨by rw[a];split;exact rY _ _;rfl,by rw[b];split;exact rY _ _;rfl⟩
def Pl.act(h:Inv S)(hn:S.bt.next<16777216)(x:Act):Pl S (S.act x).1:=by
 refine uy (P:=λr=>Pl S r.1) S x (λ_=>?_) (λ_=>?_) (λ_=>?_) (λ_=>?_) (λ_=>Pl.cN h hn _ _) (λ_=>Pl.cd h.toInv0 h.anon _ _) (λ_=>?_) (λ_=>?_) (λ_=>?_) (λ_=>Pl.bO h _ _) (λ_=>Pl.refl S) (λ_=>Pl.outs h (w4 h _ _));·unfold Cs.cp;dsimp only;split<;>exact Pl.refl S
 ·unfold Cs.remove;dsimp only;split<;>exact Pl.refl S
 ·unfold Cs.cC Cs.ig;repeat' split
  all_goals exact Pl.refl S
 ·unfold Cs.fresh;split;·exact Pl.refl S
  ·next hl=>exact Pl.c3 h hn (by simpa using hl) _
 ·unfold Cs.copy;dsimp only;split;·exact Pl.refl S
  ·next hl=>
   rw[om,om]at hl;exact Pl.c3 h hn (by simpa using hl.2.1) _
 ·unfold Cs.put;dsimp only;split;·exact Pl.refl S
  ·split<;>exact Pl.refl S
 ·unfold Cs.get;dsimp only;split;·exact Pl.refl S
  ·dsimp only;split<;>exact Pl.refl S
def Path.pl{n:Nat}(h:Path n S S')(a:Inv S)(hn:S.bt.next+n<16777216):Pl S S':=h.ind (R:=Pl) Pl.refl Pl.trans (λ_ a hn x _=>Pl.act a hn x) a hn
def ru{T:TS}(h:∀x,T.pg x=none)(pl:Int)(is:Pg->Bool):iJ T pl is=0:=by
 unfold iJ hz;rw[Th];intro i _;unfold ml;rw[h];simp
end Go.Kc
namespace Go.Kw
open Go Go.Kc Go.Kt Go.Vc
variable{V:Vs}
def S1{V:Vs}(b:Kc.Inv V.core)(hn:V.core.bt.next+(V.procs.length+1)<16777216)(o:dw):Pl V.core (V.act o).1.core:=by
 by_cases a:o.kind=0
 ·unfold Vs.act;rw[bL a];exact Pl.act b bu ⟨0,o.a,0,0,0,0⟩
 by_cases h1:o.kind=1
 ·unfold Vs.act;rw[bJ a,bL h1];split;·exact Pl.refl _
  ·exact Pl.act b bu ⟨1,o.a,0,0,0,0⟩
 by_cases h2:o.kind=2
 ·unfold Vs.act;rw[bJ a,bJ h1,bL h2];exact Pl.act b bu ⟨2,o.a,o.b,o.c,0,0⟩
 ·exact(SH ⟨a,h1,h2⟩).pl b bu
def S2:∀(os:bA dw) {V:Vs},dS V->V.core.bt.next+66*os.length+66<16777216->Pl V.core (ek V os).1.core
 |[],_,_,_=>Pl.refl _
 |o::os,V,m,hn=>by
  have e8:=m.e8;rw[hI]at hn;exact(S1 m.inv bu o).trans (S2 os (FK m bu o).yX (by have:=Kw.hC m bu o;omega))
def S3:∀(os:bA dw) {V:Vs},dS V->V.core.bt.next+66*os.length+66<16777216->dS (ek V os).1
 |[],_,m,_=>m
 |o::os,V,m,hn=>by
  have e8:=m.e8;rw[hI]at hn;exact S3 os (FK m bu o).yX (by have:=Kw.hC m bu o;omega)
def aJ9(fr sl:Int)(zs:bR)(h1:fr<=24)(h2:sl<=24):((Vs.new fr sl zs).core.fr.bS.length:Int)=ea fr 0/\((Vs.new fr sl zs).core.sl.bS.length:Int)=ea sl 0:=by
 constructor
 ·show(((iF fr).length:Nat):Int)=_;unfold iF ea;rw[lF];split<;>omega
 ·show(((iF sl).length:Nat):Int)=_;unfold iF ea;rw[lF];split<;>omega
def aIX(V:Vs)(i:Int):V.act ⟨11,i,0,0,0⟩=match V.space i with|none=>(V,.bad 2)|some _=>(V.exit i,.zero):=by
 rw[E7 ⟨by show(4:Int)<=11;decide,by show(11:Int)<=11;decide⟩];dsimp only;cases V.space i with
 |none=>rfl
 |some s=>
  dsimp only;unfold Vs.call;dsimp only;rw[bJ bN,bJ bN,bJ bN,bJ bN,bJ bN,bJ bN,bJ bN]
def aG6(V:Vs)(i:Int):(V.act ⟨11,i,0,0,0⟩).1=V.exit i/\((V.act ⟨11,i,0,0,0⟩).2.err==0)=(V.space i).isSome:=by
 rw[aIX];cases a:V.space i with
 |none=>exact⟨(yK a).symm,rfl⟩
 |some s=>exact⟨rfl,rfl⟩
def aGA(m:dS V)(h:∀(i:Nat) p,V.procs[i]?=some p->p.2=none):(∀x,V.core.bt.pg x=none)/\V.core.memory 0=0/\V.core.swap 0=0/\V.core.bt.all= []/\V.core.fr.bS.count true=0/\V.core.sl.bS.count true=0:=by
 have a:∀x,(fH V.procs).count x=0:=λx=>by
  have:fH V.procs= []:=by
   unfold fH;rw[List.flatMap_eq_nil_iff];intro p hp;obtain⟨i,c⟩:=FZ hp;unfold adc;rw[h i p c]
  rw[this];rfl
 have h1:∀x,V.core.bt.pg x=none:=λx=>by
  have:(V.core.bt.pg x).map Pg.refs=if(fH V.procs).count x=0 then none else some (((fH V.procs).count x:Nat):Int):=m.refs x
  rw[a,bL rfl]at this;cases hp:V.core.bt.pg x with
  |none=>rfl
  |some p=>rw[hp]at this;cases this
 have h2:V.core.bt.all= []:=by
  cases b:V.core.bt.all with
  |nil=>rfl
  |cons x l=>
   have:=(Go.Mp.lV m.inv.cI).1 (show x∈V.core.bt.all by rw[b];exact fz);rw[h1]at this;cases this
 refine⟨h1,(m.inv.fr.use 0 bN bN).trans ?_,(m.inv.sl.use 0 bN bN).trans ?_,h2,?_,?_⟩;·rw[ru h1];rfl
 ·rw[ru h1];rfl
 ·rw[m.inv.fr.all,ru h1]
 ·rw[m.inv.sl.all,ru h1]
end Go.Kw
namespace Go.Mp
open Go Go.Vc Go.Sp Go.Proofs Go.Kc Go.Kw Go.Kt
variable{E:Env}{L:cv}{w W:bH}{A:At}{v:Nat}{V:Vs}
def S4:∀ {l:bA Bool},(∀b∈l,b=false)->wd l=0
 |[],_=>rfl
 |b::l,h=>by
  have h1:=h b fz;subst h1;unfold wd;rw[S4 λc a=>h c (fT _ a)];rfl
def aJT(w:bH):Calls P IA #[.int .u64 0] w (cA λx w'=>x=Iv 0/\w'=w):=by
 apply Wb;unfold KL;exact⟨bN,bN,bN,bN,bN,bN,by kernel_rfl,rfl⟩
def aGN{T:bA Bool}{b q:Nat}(f:T.count true=0)(h:Sep E L w)(g:L[q]?=some (acl b T)):Calls P Ie #[Pb b] w (cA λx w'=>x=Iv 0/\w'=w):=by
 apply VP;unfold Kq qI qK qQ qW;obtain⟨s,hn,hb,h1⟩:=acl.get (h.fr q g);refine⟨_,rfl,s,h1.cell 1,?_⟩;refine⟨λn x w'=>w'=w/\n=0/\∃j:Nat,x=j/\j<=nW T.length,λ_ x _=>(nW T.length-x).toNat,⟨rfl,rfl,0,rfl,e7 _⟩,?_⟩;rintro _ n x i ⟨rfl,rfl,j,rfl,r⟩;have o:nW T.length<=2000:=by unfold nW;omega
 refine cX (λm=>?_) (λl=>⟨rfl,rfl⟩);have a:j<nW T.length:=by omega
 have hw:gX T j=0:=S4 λc d=>by
  have hm:c∈T:=rH (m8 d);cases c with
  |false=>rfl
  |true=>exact absurd hm (List.count_eq_zero.1 f)
 refine bw.el 1 h1 rfl bu bu (λp k d=>⟨((gX T j:Nat):Int),?_,?_⟩)
 ·have:=d 0 bN;rw[k1]at this;rw[this,fM,dz,sP a]
 ·rw[hw];refine use (aJT i) ?_;rintro _ t ⟨rfl,rfl⟩;have e:i64.wrap ((j:Int)+1)=((j+1:Nat):Int):=by rw[cR bu bu];omega
  refine⟨_,rfl,⟨rfl,rfl,j+1,e,a⟩,by dsimp only;rw[e];omega⟩
def S5{T:bA Bool}{p:Nat}(a:T.count true=0)(h:Sep E (ga p T::L) w):Calls P Bp #[Pb p] w (cY E (Iv (T.length:Nat)) (ga p T::L)):=by
 apply VF;unfold Kg qG qQ qZ;refine Dr.i h (λc h1=>?_);obtain⟨b,hb,h2⟩:=ga.get h1;refine⟨_,rfl,_,h2.cell 0,_,rfl,_,h2.cell 0,use (M5 (q:=1) h2 rfl) ?_⟩;rintro _ w2 ⟨rfl,rfl⟩;refine⟨_,rfl,_,h2.cell 0,rfl,use (aGN (q:=1) a h2 rfl) ?_⟩;rintro _ d ⟨rfl,rfl⟩;refine⟨_,rfl,?_,h1⟩;rw[cR bu bu];congr 1
def ef.vU(h:ef E A v V L w)(h1:V.core.fr.bS.count true=0)(h2:V.core.sl.bS.count true=0){K:Ending->bg0}(k:∀w',ef E A v V L w'->K (.returned (.tuple #[Iv (V.core.fr.bS.length:Nat),Iv (V.core.sl.bS.length:Nat)])) w'):Calls P Bm #[Pb A.c] w K:=by
 obtain⟨B,M,d,_,e,f⟩:=h.cc;rw[<- d];have g:Calls P Bm #[Pb B.c] w (cY E (.tuple #[Iv (V.core.fr.bS.length:Nat),Iv (V.core.sl.bS.length:Nat)]) (cg B V.core++M)):=by
  apply VB;unfold J9 qG qQ qZ;refine Dr.i e (λi b=>⟨_,rfl,ld b 0 rfl rfl rfl ⟨_,rfl,ld b 0 rfl rfl rfl (use (S5 h1 (b.fr 2 rfl)) ?_)⟩⟩);rintro _ w2 ⟨rfl,a⟩;have a:=a.put (q:=2) rfl;have a:Sep E (cg B V.core++M) w2:=a;refine⟨_,rfl,ld a 0 rfl rfl rfl ⟨rfl,use (S5 h2 (a.fr 5 rfl)) ?_⟩⟩;rintro _ j ⟨rfl,c⟩;have c:=c.put (q:=5) rfl;exact⟨_,rfl,rfl,c⟩
 refine use g ?_;rintro _ w' ⟨rfl,b⟩;exact k w' (f [] w' b)
def aHf{cx cT:Int}{sz l:Sl}{zs:bR}{os:bA dw}(H:yR W sz zs)(G:nL W l os)(h:Sep E (eg W.heap::L) w):
  Calls P nV #[Iv cx,Iv cT,Sv sz,Sv l] w (cY E (.bool true) (eg W.heap::L)):=by
 apply ang;unfold RB qF qJ qL qO qQ qR qU qW qj qy zL zW zx;refine use (aEZ h) ?_;rintro _ ag ⟨rfl,h1⟩;refine⟨_,rfl,bF rfl (use (aGR cx cT sz l ag) ?_)⟩;rintro _ _ ⟨rfl,rfl⟩;refine⟨_,rfl,cw (λ_=>⟨rfl,h1⟩) (λJ=>?_)⟩;obtain⟨hf,M,_,hl⟩:=aHs J;have al:=G.1;have hp:=aJ9 cx cT zs hf M;refine SM (sz:=sz) (l:=zs) (H.ints (q:=0) rfl) H.2.1 h1 (λA v au ho Z=>⟨_,rfl,?_⟩);refine aHk G bu ho (Vok.new cx cT zs) (by rw[yQ];decide) Z (λav _ n5 F=>?_);have n:=S3 os (dS.new cx cT zs) (by rw[yQ];omega);have u:=S2 os (dS.new cx cT zs) (by rw[yQ];omega);rw[<- u.1,<- u.2]at hp;generalize (ek (Vs.new cx cT zs) os).1=U at n n5 F hp;have e8:=n.e8;refine F.procs n.toVok (λpl aw K aa=>⟨pl,rfl,?_⟩);have ad:U.pr.length=U.procs.length:=en _;refine⟨λi w'=>∃(k:Nat) (X:Vs),i=k/\k<=U.procs.length/\dS X/\X.core.bt.next<=10000+66*k/\X.procs=hH ((List.range k).map λi:Nat=>(i:Int)) U.procs/\(X.core.fr.bS.length=U.core.fr.bS.length/\X.core.sl.bS.length=U.core.sl.bS.length)/\ef E A v X (js pl U.pr::L) w',λi _=>(U.procs.length-i).toNat,
  ⟨0,U,rfl,e7 _,n,bu,(yT _).symm,⟨rfl,rfl⟩,aa⟩,?_⟩
 rintro _ _ ax ⟨k,X,rfl,hk,c,ar,y,r,z⟩;refine cX (λam=>?_) (λaj=>?_)
 ·refine z.jO (o:=⟨11,(k:Int),0,0,0⟩) c.toVok bu (λaq p ah _ B _ n8=>B.dr (λai f=>?_));refine⟨_,f.cell (k:=0) (j:=0) rfl rfl,?_⟩;obtain⟨x,hx⟩:∃x,U.pr[k]?=some x:=⟨_,dN⟩
  refine f.pr 2 rfl K hx (λa _ _ ab=>⟨_,ab,?_⟩);obtain⟨N,O⟩:=aG6 X (k:Int);have m:x.live=(X.space (k:Int)).isSome:=by
   rw[rC y,bJ (by rw[fo];rintro⟨i,b,e⟩;have:=fV.1 b;omega)];rw[EY,eI]at hx;cases d:U.procs[k]? with
   |none=>rw[d]at hx;cases hx
   |some q=>
    rw[d]at hx;cases hx;rw[(jU d).1];obtain⟨g,o⟩:=q;cases o<;>rfl
  refine bF (by rw[O,m];simp) ?_;rw[de];have Q:=c.e8;have af:=(FK c bu ⟨11,(k:Int),0,0,0⟩).yX;have bS:=S1 c.inv bu ⟨11,(k:Int),0,0,0⟩;refine⟨⟨k+1,_,rfl,bu,af,bu,?_,⟨bS.1.trans r.1,bS.2.trans r.2⟩,f.tail.tail⟩,?_⟩;·rw[N,(c.exit (k:Int)).2.2,y,yU,Gj,kK];rfl
  ·show(((U.procs.length:Nat):Int)-((k+1:Nat):Int)).toNat<(((U.procs.length:Nat):Int)-(k:Int)).toNat;omega
 ·have ak:k=U.procs.length:=by omega
  obtain⟨ap,R,S,T,V,Y⟩:=aGA c (λi p b=>by
   rw[y,n4]at b;have I:i<U.procs.length:=by
    cases d:U.procs[i]? with
    |none=>rw[d]at b;cases b
    |some q=>exact(c4.1 d).1
   rw[dL I,gh,bL (fo.2 ⟨i,fV.2 bu,rfl⟩)]at b;rw[<- cU b])
  refine z.core ⟨_,rfl,bF rfl (z.vU V Y (λah B=>⟨_,_,rfl,bT rfl (B.bt c.toVok (λs ai ae f=>⟨s,rfl,bT (by rw[ae,T];rfl) (f.memory 0 (λan C=>⟨_,rfl,bT (by rw[R];rfl) (C.swap 0 (λao D=>⟨_,rfl,bT (by rw[S];rfl) (bT ?_ ⟨?_,?_⟩)⟩))⟩))⟩))⟩))⟩;·rw[p4,<- hp.1,r.1]
  ·congr 1;rw[p4,<- hp.2,r.2]
  ·have t:=D.drop;rw[ho]at t;exact t.ro 3 [0] rfl
end Go.Mp
namespace Go.Proofs.YtafigbgagbolgaaGreatDoor
open Go Go.Vc Go.Sp Go.Mp Go.RowKit Go.ChangeShapes
def azF(os:Os)(started:os.Started)(H:Type)(enc:cf×bE->H):
  ReturnsInHanded {} CR os nV .any (λw args=>(Rows.vmExitSpec.pre enc P m3 [] false w args/\laidMetH P pU w)/\sizedMet enc P m3 (OpenSpec.ofChange Rows.vmExitSpec) false w args) (Rows.vmExitSpec.post enc P m3 false true false false):=by
 refine awL (C:=CR) (tb:=Vi) (X:=λw=>laidMetH P pU w) (λ_ _ m h=>h.of_heap m) own started cV CS
  (ChangeSpec.witness_shaped (enc:=enc) (C:=CR) (os:=os) (X:=λw _=>laidMetH P pU w) false (World.laidAll P os pU) #[.int .i64 0,.int .i64 0,aN8,aN8] 8 (World.laidAll_os _ _ _) (World.shaped_of_ZipB cV cV) cV cV cV (aG3 os _))
  laidOut cV cV rfl cV ?_ ?_
 ·intro e gs j k
  match e,gs,j,k with
  |[d0,d1,d2,d3],[],_,_=>rfl
 ·intro W base args b a _ hx;have hw:=aF3 hx;obtain⟨o,p,q,r,rfl⟩:=aKu b;have a0:=a 0 _ _ rfl rfl;have c:=a 1 _ _ rfl rfl;have d:=a 2 _ _ rfl rfl;have a3:=a 3 _ _ rfl rfl;obtain⟨f,rfl,hf⟩:=Sz a0;obtain⟨s,rfl,n⟩:=Sz c;obtain⟨sz,zs,rfl,i⟩:=aI2 (SA cV d);obtain⟨l,xs,rfl,g⟩:=aI7 a3;refine use (aHf i g hw) ?_;rintro v w' ⟨rfl,h⟩;exact⟨_,rfl,rfl,aJh h⟩
def S6:Tryz.pinned.checked.prog.funcNamed Rows.vmExitRow.func=some nV:=by kernel_rfl
def aGf:Ff P m3 Rows.vmExitSpec Rows.vmExitRow=true:=by kernel_rfl
def aGg:Fg P nV Rows.vmExitRow=true:=by kernel_rfl
def aGh:Fh P nV Rows.vmExitRow=true:=by kernel_rfl
def aGi:Fi P nV Rows.vmExitRow=true:=by kernel_rfl
def aGj:Fj P nV Rows.vmExitRow=true:=by kernel_rfl
def aGk:Fk P m3 Rows.vmExitSpec Rows.vmExitRow=true:=by kernel_rfl
def aGl:Fl P m3 Rows.vmExitSpec Rows.vmExitRow=true:=by kernel_rfl
def aGm:Fm P Rows.vmExitRow=true:=by kernel_rfl
def aGn:Fo P m3 Rows.vmExitSpec Rows.vmExitRow=true:=by kernel_rfl
def aBG:Rows.VmExitSaid:=
 OpenClaim.holds_of_wide nV m3 rfl rfl rfl rfl rfl rfl rfl ⟨rfl,rfl,rfl,rfl,rfl⟩ rfl rfl rfl rfl rfl S6 CS
  (aFm aGf aGg aGh aGi aGj aGk aGl aGm aGn)
  (mG cV) (by unfold Func.isWrapper;rw[bJ (by decide+kernel)];exact⟨rfl,rfl⟩)
  (λos started H enc _=>azF os started H enc)
def aGo:Rows.vmExitRow.wfByText (OpenSpec.ofChange Rows.vmExitSpec)=true:=by kernel_rfl
def aCf:Tryz.pinned.checked.prog.mainIs=some (true, "6dae9ca1e3fae822e43264ec614d78dc4c2fe72aea56ab24750a95019e43a27c".toList):=by kernel_rfl
def aBH:false=Tryz.pinned.checked.prog.looks []:=by kernel_rfl
def aCe:false=Rows.vmExitRow.goesBy Tryz.pinned.checked.prog:=by kernel_rfl
def aBI:(m3.params.toList.all λu=> !P.wantsStandIn u)=true:=by kernel_rfl
def vmExit_card:Rows.VmExitCardSaid:=
 Claim7.holds_tied_plain_at .later [] [.data] true (true, "6dae9ca1e3fae822e43264ec614d78dc4c2fe72aea56ab24750a95019e43a27c") false
  aBG (λ_ h=>by cases h) aGo (λ_ h=>by cases h) vmExit_row_tie rfl ⟨rfl,rfl⟩ aCf rfl
  (λf fn hf a=>by
   obtain rfl:f=nV:=cU (S6.symm.trans hf) |>.symm;obtain rfl:fn=m3:=(cU (CS.symm.trans a)).symm;refine⟨aBH,λj t b=>?_⟩;have hm:t∈m3.params.toList:=by simpa using mD b
   exact(show P.wantsStandIn t=false by simpa using fS.1 aBI t hm))
  aCe
end Go.Proofs.YtafigbgagbolgaaGreatDoor
