/- A part of the proof. -/
import Derived.Test.YtafigbgagbolgaaGreatDoorE05
import Derived.HandedShaped
import Derived.LaidMore
import Derived.JoinedOf
import Derived.Lay
import Derived.OpenShut
import Derived.Stop.LaidErr
import Derived.Lib.LaidTab
import Derived.SevenTiedAt
import Derived.Test.YtafigbgagbolgaaGreatDoorRows
import Derived.Test.YtafigbgagbolgaaGreatDoorTie
import Derived.Test.YtafigbgagbolgaaGreatDoorCards
set_option linter.all false
set_option maxRecDepth 100000
open Go.IntKind(i64 u64)
open Go.Proofs.Tryz
namespace Go.Sp
open Go Go.Vc Go.RowKit Go.ChangeShapes
section
variable{H:Type}{enc:cc×bE->H}
def awx{C:Checked}{os:Os}{f:bg5}{fn:Func}{s:ChangeSpec}{conds:bA PathCond}{apart fresh handsOn:Bool}{tb:cc}{X:bf8}(G:∀(w w':bI),w.heap=w'.heap->X w->X w')(own:ownKnob C.prog.godebug=none)(started:os.Started)(c:C.prog.inits.idxOf? f=none)(z:C.prog.funcs[f]?=some fn)(witness:∃(w:bI) (tape:Tape) (i:Input),w.os=os/\(w.forCall tape i).Shaped C.prog/\i.vars= []/\Input.okWide C.prog (w.forCall tape i) .any w.heap.size f i/\
   ((s.pre enc C.prog fn conds apart (w.forCall tape i).memory i.args/\X (w.forCall tape i).memory)/\sizedMet enc C.prog fn (OpenSpec.ofChange s) apart (w.forCall tape i).memory i.args)/\Assume.holds {} C.prog (lone (Frame.enter C.prog f i.args .normal) [] (w.forCall tape i)))(hl:laidOutB C.prog=true)(d:(fn.params.toList.all λt=>C.prog.readableRec t&&Nat.blt t C.prog.types.size)=true)(k:varsRowed C.prog s.vars=true)(n:fn.resultTypes.toList= [tb])(F:C.prog.underlying tb=some .bool)(g:∀b gs:bA (DataW H),b.length=fn.params.size->gs.length=s.vars.length->s.fn H (b++gs)= {results:=[.lit (.bool true)],args:=b,vars:=gs})(a:∀(W:bI) (base:Nat) (args:cb bE),args.size=fn.params.size->(∀(j:Nat) t v,fn.params[j]?=some t->args[j]?=some v->Rd C.prog W t v.cells.toList/\Value.okWide C.prog W .any base t v)->W.ShapedOpen C.prog->X W->
   Calls C.prog f args W (cz λv r=>v=.bool true/\Below W.heap.size W r)):
  ReturnsInHanded {} C os f .any (λw args=>(s.pre enc C.prog fn conds apart w args/\X w)/\sizedMet enc C.prog fn (OpenSpec.ofChange s) apart w args) (s.post enc C.prog fn apart fresh handsOn false):=by
 refine returnsInHanded_of_calls own started c witness ?_;intro w tape i _ D _ B m A;obtain⟨_,_,_,u,l,_,_,_,_,o⟩:=B;have e:u=fn:=cR (l.symm.trans z);subst e;obtain⟨⟨⟨b,gs,before,hw,M⟩,hx⟩,N⟩:=m;have y:=DataW.Whole.of_heap (w':=w.forCall tape i) (by rfl) hw;obtain⟨p,q,x,L,K,I,J⟩:=id y;refine(a (w.forCall tape i) w.heap.size i.args (by have:=(Dc x).1;simpa using this) (λj t v E h=>⟨MP x j t v (by simpa using E) (by simpa using h),o j t v E h⟩) D (G _ _ (by rfl) hx)).mono λe r ⟨v,he,h,hb⟩=>?_;subst he;subst h;exact ChangeSpec.post_blind (Yz hl d k n F (g b gs) y hb)
end
end Go.Sp
namespace Go
def E9(P:cN)(fn:Func)(s:ChangeSpec)(c:OpenClaim):Bool:=
 c.wf (OpenSpec.ofChange s)&&laidOutB P&&mapsRowed P&&fn.params.all (P.readableRec ·)&&namedTie P c.named s.vars
def Fa(P:cN)(f:bg5)(c:OpenClaim):Bool:=
 (c.stops== [])&&(P.stops== [])&&(c.knobs== [])&&(P.stopKnobs== [])&&(c.inPlace==P.inPlace f)
def Fb(P:cN)(f:bg5)(c:OpenClaim):Bool:=c.unfollowed==P.unfollowed f
def Fc(P:cN)(f:bg5)(c:OpenClaim):Bool:=c.recurses==P.recurses f
def Fe(P:cN)(f:bg5)(c:OpenClaim):Bool:=c.named==P.varsNamed f
def Ff(P:cN)(fn:Func)(s:ChangeSpec)(c:OpenClaim):Bool:=
 (c.maps==(fn.params.toList++s.plain.varTypes P).any (P.mapsRec ·))&&(c.ifaces==(fn.params.toList++s.plain.varTypes P).any (P.ifacesRec ·))&&(c.mapsOut==P.mapsAmong fn.resultTypes.toList)&&
 (c.loops==(fn.params.toList++s.plain.varTypes P).any (P.loopsFrom ·))&&(c.wideKeys==(fn.params.toList++s.plain.varTypes P++fn.resultTypes.toList).any (P.wideKeysFrom ·))
def Fg(P:cN)(fn:Func)(s:ChangeSpec)(c:OpenClaim):Bool:=
 s.vars.all (P.varReadable ·)&&fn.resultTypes.all (λt=>P.readableRec t&&decide (t<P.types.size))&&(c.ifacesOut==fn.resultTypes.toList.any (P.ifacesRec ·))&&(c.loopsOut==fn.resultTypes.toList.any (P.loopsFrom ·))&&(c.plainKeys==P.plainKeys)&&c.shortTexts.isNone
def Fh(P:cN)(c:OpenClaim):Bool:=P.stopsHeard&&P.mayEnter&&(c.lifted==P.liftsFinal)&&(P.make==some c.make)
def Fi(P:cN)(fn:Func)(s:ChangeSpec)(c:OpenClaim):Bool:=
 (c.kinds==(if c.domain.isEmpty then[]else fn.params.toList.map λt=>match P.underlying t with|some (.int k)=>some k|_=>none))&&(c.pinned==c.pinnedBy)&&
 (c.veiled==(fn.params.toList++s.plain.varTypes P++fn.resultTypes.toList).any (P.veiledRec ·))&&c.veiledFits P fn.params.toList (fn.params.toList++s.plain.varTypes P++fn.resultTypes.toList)
def aFj{P:cN}{f:bg5}{fn:Func}{s:ChangeSpec}{c:OpenClaim}(a:E9 P fn s c=true)(hB:Fa P f c=true)(h:Fb P f c=true)(i:Fc P f c=true)(j:Fe P f c=true)(b:Ff P fn s c=true)(d:Fg P fn s c=true)(e:Fh P c=true)(g:Fi P fn s c=true):
  joinedFacts P f fn s c=true:=by
 unfold E9 at a;unfold Fa at hB;unfold Fb at h;unfold Fc at i;unfold Fe at j;unfold Ff at b;unfold Fg at d;unfold Fh at e;unfold Fi at g;unfold joinedFacts;simp only[dy]at a hB b d e g ⊢;obtain⟨⟨⟨⟨k,l⟩,a3⟩,a4⟩,a5⟩:=a;obtain⟨⟨⟨⟨b1,b2⟩,b3⟩,b4⟩,b5⟩:=hB;obtain⟨⟨⟨⟨f1,f2⟩,f3⟩,f4⟩,f5⟩:=b;obtain⟨⟨⟨⟨⟨m,n⟩,o⟩,p⟩,q⟩,r⟩:=d;obtain⟨⟨⟨h1,h2⟩,t⟩,u⟩:=e;obtain⟨⟨⟨i1,i2⟩,i3⟩,i4⟩:=g;exact⟨⟨⟨⟨⟨⟨⟨⟨⟨⟨⟨⟨⟨⟨⟨⟨⟨⟨⟨⟨⟨⟨⟨⟨⟨⟨⟨⟨⟨⟨⟨k,l⟩,a3⟩,a4⟩,a5⟩,b1⟩,b2⟩,b3⟩,b4⟩,b5⟩,h⟩,i⟩,j⟩,f1⟩,f2⟩,f3⟩,f4⟩,f5⟩,m⟩,n⟩,o⟩,p⟩,q⟩,r⟩,h1⟩,h2⟩,t⟩,u⟩,i1⟩,i2⟩,i3⟩,i4⟩
end Go
namespace Go.Proofs.YtafigbgagbolgaaGreatDoor
open Go Go.Vc Go.Sp Go.Mp Go.RowKit Go.ChangeShapes
def own:ownKnob P.godebug=none:=by kernel_rfl
def laidOut:laidOutB P=true:=by kernel_rfl
def aKd{α:Type}{a:cb α}(h:a.size=6):∃b c d e f g,a= #[b,c,d,e,f,g]:=by
 obtain⟨l⟩:=a
 match l,h with
 |[b,c,d,e,f,g],_=>exact⟨b,c,d,e,f,g,rfl⟩
def wf_i64{n:Int}(h:(Lit.int .i64 n).wf=true): -9223372036854775808<=n/\n<=9223372036854775807:=by
 simpa[Lit.wf,IntKind.has,IntKind.min,IntKind.max,IntKind.signed,IntKind.bits]using h
def yM{W:bI}{base:Nat}{v:bE}(h:Rd P W lS v.cells.toList/\Value.okWide P W .any base lS v):∃n,v=.int .i64 n/\ -9223372036854775808<=n/\n<=9223372036854775807:=by
 obtain⟨h1,h2⟩:=h;rw[MO h2 cS]at h1;obtain⟨n,a,b⟩:=h1.kB (k:=.i64) cS;exact⟨n,a,wf_i64 b⟩
def Si{t:cc}{W:bI}{base:Nat}{v:bE}(a:ej P t=some false)(h:Rd P W t v.cells.toList/\Value.okWide P W .any base t v):Rd P W t [v]:=by
 obtain⟨h1,h2⟩:=h;rw[MO h2 a]at h1;exact h1
def aIQ{W:bI}{base:Nat}{v:bE}(h:Rd P W Bd v.cells.toList/\Value.okWide P W .any base Bd v):∃(l:Sl) (xs:bA Kw.dx),v=.slice l.p l.n l.c/\nN W l xs:=
 aJV (Si cS h)
abbrev pT:bA (String×DataW Unit):=Rows.vmSpawnsRow.laid
def aGP(os:Os)(args:cb bE):laidMetH P pT ((World.laidAll P os pT).forCall (λ_ _=>0) ⟨#[],args,[]⟩).memory:=by
 rw[MakeChecks.laidMetH_plain _ _ _ cS];exact laidMet_laidAll _ cS cS
def Sj:P.globalNamed "math/bits.deBruijn64tab" =some 2:=by kernel_rfl
def aJ1{W:bI}(h:laidMetH P pT W):∃o,W.heap[2]?=some o/\pD o:=by
 rw[MakeChecks.laidMetH_plain _ _ _ cS]at h;have a:Lib.TabIs P W "math/bits.deBruijn64tab" .u8 (Lib.deBruijn64tab.map λn:Nat=>(n:Int)):=
  Lib.tabIs_of_head (t:=355) (e:=U1) (n:=64) Sj cS cS cS cS cS h
 unfold Lib.TabIs World.var? at a;rw[Sj,Ga]at a;split at a
 ·next c t z d=>
  refine⟨_,d,c,t,z,rfl,λj b=>?_⟩;cases a;have hl:Lib.deBruijn64tab.length=64:=by decide
  simp[dJ,hl,b]
 ·cases a
def aF0{W:bI}(h:laidMetH P pT W):Sep (World.env W) [dY W.heap] W:=Sep.cG.2 ⟨aJ1 h,Sep.start W⟩
def aI0{W w':bI}(h:Sep (World.env W) [dY W.heap] w'):Below W.heap.size W w':=(Sep.cG.1 h).2.below (i:=0) rfl
end Go.Proofs.YtafigbgagbolgaaGreatDoor
namespace Go.Kc
open Go Go.Kt Go.Sp
variable{S:Cs}
namespace By
variable{n:Nat}{X t:bA UInt8}{i j:Int}
def aKm{a:Int}(h:X.length=16*n)(hp:pg n i)(b:0<=a/\a<16):gt n X i a=((rd n X i).1.getD a.toNat 0,0):=by
 have:=h;unfold gt rd;rw[bK ⟨hp,b.1,b.2⟩,bK hp];congr 1;rw[dJ,dJ,Ht bu]
end By
variable{S':Cs}{id:Int}{t:bA UInt8}
def vL{p:Pg}(h1:p.place=1):S.text p=(By.rd S.fr.bY.length S.fr.c9 p.at_).1:=by unfold Cs.text;rw[bK h1]
def aKe{pl:Int}{s:eY}(b:ik S.bt S.tree s pl){p:Pg}(hp:S.bt.pg id=some p)(h1:p.place=pl)(a:0<=p.at_):By.pg s.bY.length p.at_/\s.bY[p.at_.toNat]?=some true:=by
 have:=(b.taken p.at_.toNat).2 ⟨id,p,hp,h1,bu⟩;have c:=(cZ.1 this).1;exact⟨⟨a,bu⟩,this⟩
end Go.Kc
namespace Go.Kc
open Go Go.Kt Go.Sp
variable{S S':Cs}{id:Int}{t:bA UInt8}
def yN(h:Inv S){p:Pg}(hp:S.bt.pg id=some p)(h1:p.place=1){a:Int}(d:0<=a/\a<16):S.get id a=({S with bP:=(hj S.bP id).1},(((S.text p).getD a.toNat 0).toNat:Int),0):=by
 have b:=(h.cH.pl _ _ hp).1.2.2.1;have c:=(aKe h.fr hp h1 b).1;have e:S.here id=(p.at_,true):=by
  unfold Cs.here;rw[h.bL hp];show(p.at_,(0:Int)==0&&p.place==1)=_;rw[h1];rfl
 unfold Cs.get;rw[e];dsimp only;rw[bJ bN,By.aKm h.fr.len c d,vL h1];rfl
end Go.Kc
namespace Go.Kc
open Go Go.Kt
variable{S T:Cs}
inductive Path:Nat->Cs->Cs->Prop
 |nil (n:Nat) (S:Cs):Path n S S
 |act {n:Nat} {S T:Cs} (x:Act) (hx:3<=x.k/\x.k<=11):Path n S T->Path (n+grow x) S (T.act x).1
def Path.runs{n:Nat}(h:Path n S T):cq n S T:=by
 induction h with
 |nil n=>exact .nil n _
 |act x _ _ a=>exact .act x a
def Path.up{n m:Nat}(h:Path n S T)(k:n<=m):Path m S T:=by
 induction h generalizing m with
 |nil n=>exact .nil m _
 |act x hx h a=>
  obtain⟨j,rfl⟩:∃j,m=j+grow x:=⟨m-grow x,bu⟩
  exact .act x hx (a bu)
def Path.trans{n m:Nat}{U:Cs}(h:Path n S T)(k:Path m T U):Path (n+m) S U:=by
 induction k with
 |nil m=>exact h.up (Nat.le_add_right _ _)
 |act x hx k a=>rw[<- tF];exact .act x hx (a h)
def Path.inv{n:Nat}(h:Path n S T)(a:Inv S)(hn:S.bt.next+n<=16777216):Inv T/\S.bt.next<=T.bt.next/\T.bt.next<=S.bt.next+n:=h.runs.inv a hn
def Path.one(k a b c kf ki:Int)(hx:3<=k/\k<=11):Path (grow ⟨k,a,b,c,kf,ki⟩) S (S.act ⟨k,a,b,c,kf,ki⟩).1:=by
 have:=Path.act ⟨k,a,b,c,kf,ki⟩ hx (Path.nil 0 S);rwa[fx]at this
def Path.fresh(g:Int):Path 1 S (S.fresh g).1:=Path.one 3 g 0 0 0 0 bN
def Path.cA(k:Int×Int)(g:Int):Path 1 S (S.cA k g).1:=Path.one 4 g 0 0 k.1 k.2 bN
def Path.bX(id g:Int):Path 0 S (S.bX id g).1:=Path.one 5 g id 0 0 0 bN
def Path.copy(id g:Int):Path 1 S (S.copy id g).1:=Path.one 6 g id 0 0 0 bN
def Path.get(id a:Int):Path 0 S (S.get id a).1:=Path.one 8 a id 0 0 0 bN
def Path.bO(id n:Int):Path 0 S (S.bO id n).1:=Path.one 9 0 id n 0 0 bN
def Path.dt(t:Int):Path 0 S (S.dt t).1:=Path.one 10 t 0 0 0 0 bN
def Path.shrink(t n:Int):Path 0 S (S.shrink t n).1:=Path.one 11 t 0 n 0 0 bN
def Path.put(id a:Int)(b:UInt8):Path 0 S (S.put id a b).1:=by
 have h:=Path.one (S:=S) 7 a id (b.toNat:Int) 0 0 bN;have e:(S.act ⟨7,a,id,(b.toNat:Int),0,0⟩).1=(S.put id a (mh (b.toNat:Int))).1:=rfl;have c:mh (b.toNat:Int)=b:=by
  unfold mh;have:=b.toNat_lt;rw[show((b.toNat:Int)%256).toNat=b.toNat by omega];exact UInt8.ofNat_toNat
 rw[e,c]at h;exact h
end Go.Kc
namespace Go.Kw
open Go Go.Kc Go.Kt
def vM:∀(ids:bS) (S:Cs),Path 0 S (ed ids S)
 |[],S=>.nil 0 S
 |x::r,S=>(Path.bO (S:=S) x (-1)).trans (vM r (S.bO x (-1)).1)
def Fj:∀(ids:bS) (S:Cs),Path 0 S (dD ids S)
 |[],S=>.nil 0 S
 |x::r,S=>(Path.bO (S:=S) x 1).trans (Fj r (S.bO x 1).1)
def Sk(V:Vs)(pid:Int):Path 0 V.core (V.exit pid).core:=by
 cases h:V.space pid with
 |none=>rw[EP h];exact .nil 0 _
 |some s=>rw[vA h];exact vM _ _
def Fk:∀(l:bS) (V:Vs),Path 0 V.core (V.de l).core
 |[],V=>.nil 0 _
 |x::r,V=>(Sk V x).trans (Fk r (V.exit x))
def Sm{f:Cs->Int->Cs×Int×Int×Int}{pid:Int}(hf:∀S g,Path 1 S (f S g).1):∀(n:Nat) (V:Vs) (o:cF),Path n V.core (fy f pid n V o).1.core
 |0,V,o=>.nil 0 _
 |n+1,V,o=>by
  rw[nM];dsimp only;have h1:=hf V.core (V.group pid);generalize f V.core (V.group pid)=r at h1;have a:Path (n+1) V.core r.1:=h1.up bu;split;·exact a
  split;·exact a
  generalize dead {V with core:=r.1} r.2.2.1=d;have h2:=h1.trans (Fk d {V with core:=r.1});split;·exact h2.up bu
  split;·exact h2.up bu
  exact(h2.trans (Sm hf n _ _)).up bu
def yO{f:Cs->Int->Cs×Int×Int×Int}{pid:Int}{V:Vs}(hf:∀S g,Path 1 S (f S g).1)(o:cF):Path (V.procs.length+1) V.core (V.dR f pid o).1.core:=Sm hf _ V o
def vN(V:Vs)(pid p id:Int)(k:Nat)(wr:Bool):(V.enter pid p id k wr).core=(V.core.bO id 1).1:=by
 unfold Vs.enter;dsimp only;split<;>rfl
def Sn{V:Vs}(pid id:Int)(o:cF):Path (V.procs.length+1) V.core (V.bX pid id o).1.core:=yO (λS g=>(Path.bX id g).up bu) o
def Sq{V:Vs}(pid p:Int)(s:Sp)(x:Rg)(o:cF):Path (V.procs.length+1) V.core (V.there pid p s x o).1.core:=by
 unfold Vs.there;split;·exact Sn _ _ _
 ·have h:=yO (V:=V) (f:=λS g=>S.cA (dC x p) g) (pid:=pid) (λS g=>Path.cA _ g) o;dsimp only;split
  ·next id _=>
   show Path _ _ (Vs.enter _ _ _ _ _ _).core;rw[vN];exact h.trans (Path.bO id 1)
  ·exact h
def aHe{V:Vs}(pid p:Int)(s:Sp)(o:cF):Path (V.procs.length+1) V.core (V.own pid p s o).1.core:=by
 unfold Vs.own;split
 ·next e _=>
  dsimp only;split;·exact Sn _ _ _
  have h:=yO (V:=V) (f:=λS g=>S.copy e.id g) (pid:=pid) (λS g=>Path.copy _ g) o;split
  ·next id _=>
   show Path _ _ ((Vs.enter _ _ _ _ _ _).core.bO _ _).1;rw[vN];exact(h.trans (Path.bO id 1)).trans (Path.bO _ (-1))
  ·exact h
 ·have h:=yO (V:=V) (f:=λS g=>S.fresh g) (pid:=pid) (λS g=>Path.fresh g) o;dsimp only;split
  ·next id _=>
   show Path _ _ (Vs.enter _ _ _ _ _ _).core;rw[vN];exact h.trans (Path.bO id 1)
  ·exact h
def yP(V:Vs)(pid p:Int):(V.cm pid p).core=V.core:=by
 unfold Vs.cm;split<;>rfl
def aFo{V:Vs}(pid:Int)(s:Sp)(b:Int):Path (V.procs.length+1) V.core (V.load pid s b).1.core:=by
 unfold Vs.load;dsimp only;split;·exact .nil _ _
 next x _=>
 split;·exact .nil _ _
 split;·exact .nil _ _
 have h:=Sq (V:=V) pid (b/16) s x .zero;split;·exact h
 ·next id _=>
  show Path _ _ (Vs.cm _ _ _).core;rw[yP];exact h.trans (Path.get id (b%16))
def aDM{V:Vs}(pid:Int)(s:Sp)(b c:Int):Path (V.procs.length+1) V.core (V.store pid s b c).1.core:=by
 unfold Vs.store;dsimp only;split;·exact .nil _ _
 split;·exact .nil _ _
 next x _=>
 split;·exact .nil _ _
 split;·exact .nil _ _
 have h:Path (V.procs.length+1) V.core (if x.kind=2 then V.there pid (b/16) s x .zero else V.own pid (b/16) s .zero).1.core:=by
  split;·exact Sq pid (b/16) s x .zero
  ·exact aHe pid (b/16) s .zero
 generalize (if x.kind=2 then V.there pid (b/16) s x .zero else V.own pid (b/16) s .zero)=r at h;split;·exact h
 ·next id _=>
  show Path _ _ (Vs.cm _ _ _).core;rw[yP];exact h.trans (Path.put id (b%16) _)
def aEX{V:Vs}(s:Sp)(o:dx):Path (V.procs.length+1) V.core (V.call s o).1.core:=by
 unfold Vs.call;dsimp only;split;·split<;>exact .nil _ _
 split;·split<;>exact .nil _ _
 split
 ·split;·split<;>exact .nil _ _
  ·exact .nil _ _
 split
 ·split;·exact(vM _ _).up bu
  ·exact .nil _ _
 split;·exact aFo _ _ _
 split;·exact aDM _ _ _ _
 split
 ·split;·exact .nil _ _
  ·exact(Fj _ _).up bu
 exact(Sk _ _).up bu
def aGn{V:Vs}{o:dx}(ho:o.kind≠0/\o.kind≠1/\o.kind≠2):Path (V.procs.length+1) V.core (V.act o).1.core:=by
 unfold Vs.act;rw[bJ ho.1,bJ ho.2.1,bJ ho.2.2];dsimp only;split
 ·split;·exact .nil _ _
  ·split<;>exact .nil _ _
 split;·exact(Path.dt _).up bu
 split;·exact(Path.shrink _ _).up bu
 split;·exact .nil _ _
 split;·exact .nil _ _
 ·exact aEX _ _
end Go.Kw
namespace Go.Kc
open Go Go.Kt Go.Sp
variable{S S' T:Cs}{id g:Int}
def kr(p:Pg):Int×Int×Int:=(p.kf,p.ki,p.refs)
structure Base(S S':Cs):Prop where
 tree:S'.tree=S.tree
 guards:S'.guards=S.guards
 bW:S'.files.bW=S.files.bW
def Base.refl(S:Cs):Base S S:=⟨rfl,rfl,rfl⟩
def Base.trans{A B C:Cs}(h:Base A B)(k:Base B C):Base A C:=⟨k.tree.trans h.tree,k.guards.trans h.guards,k.bW.trans h.bW⟩
def Base.live(h:Base S S')(g:Int):S'.live g=S.live g:=by unfold Cs.live;rw[h.tree]
def Base.has(h:Base S S')(k:Int×Int):ec S'.files k=ec S.files k:=by unfold ec nq;rw[h.bW]
structure gv(S S':Cs):Prop extends Base S S' where
 kr:∀x,(S'.bt.pg x).map kr=(S.bt.pg x).map kr
def gv.refl(S:Cs):gv S S:=⟨Base.refl S,λ_=>rfl⟩
def gv.bL(h:gv S S'){p:Pg}(hp:S.bt.pg id=some p):∃q,S'.bt.pg id=some q/\q.kf=p.kf/\q.ki=p.ki/\q.refs=p.refs:=by
 have:=h.kr id;rw[hp]at this;cases a:S'.bt.pg id with
 |none=>rw[a]at this;cases this
 |some q=>
  rw[a]at this;have e:Kc.kr q=Kc.kr p:=cR this;unfold Kc.kr at e;simp only[ot]at e;exact⟨q,rfl,e⟩
def gv.none_(h:gv S S'):S'.bt.pg id=none↔S.bt.pg id=none:=by
 have:=h.kr id;cases a:S'.bt.pg id<;>cases hp:S.bt.pg id<;>rw[a,hp]at this<;>simp at this ⊢
def gv.of(h:Base S S')(hp:∀x,S'.bt.pg x=S.bt.pg x):gv S S':=⟨h,λx=>by rw[hp]⟩
structure Made(S S':Cs)(id:Int):Prop extends Base S S' where
 new:S.bt.pg id=none
 bL:∃p,S'.bt.pg id=some p/\p.refs=0
 Sr:∀x,x≠id->(S'.bt.pg x).map kr=(S.bt.pg x).map kr
def Kept.gF(h:Kept S S'):gv S S':=by
 refine⟨⟨h.tree,h.guards,h.bW⟩,λx=>?_⟩;cases hp:S.bt.pg x with
 |none=>rw[h.none_ x hp]
 |some p=>
  obtain⟨q,d,a,b,_,c,_⟩:=h.bL x p hp;rw[d];unfold Kc.kr;simp only[gg,a,b,c]
def eG.gF(h:eG S S')(a:Inv S):gv S S':=(h.kept a).gF
def Inv.j0(h:Inv0 S):S.bt.pg S.bt.next=none:=by
 cases hp:S.bt.pg S.bt.next with
 |none=>rfl
 |some p=>have:=h.cH.ids _ _ hp;omega
inductive Ss(S:Cs)(id g:Int):Prop
 |ok (p:Pg) (hp:(S.bX id g).1.bt.pg id=some p) (h1:p.place=1) (he:(S.bX id g).2=(-1,0)) (hl:S.live g=true)
 |mem (he:(S.bX id g).2.2=12) (hl:S.live g=true) (hp:(S.bt.pg id).isSome=true)
 |bad (he:S.bX id g=(S, -1,2)) (hb:S.bt.pg id=none\/S.live g=false)
def Su(h:Inv0 S)(b:∀x p,S.bt.pg x=some p->p.kf<0->p.place≠0)(id g:Int):gv S (S.bX id g).1/\Ss S id g:=by
 have c:Inv S:=⟨h,b⟩
 cases hp:S.bt.pg id with
 |none=>have e:=pw (g:=g) h (.inl hp);rw[e];exact⟨gv.refl S,.bad e (.inl hp)⟩
 |some p=>
  cases hl:S.live g with
  |false=>have e:=pw (id:=id) h (.inr (.inl hl));rw[e];exact⟨gv.refl S,.bad e (.inr hl)⟩
  |true=>
   have d:¬ (p.place=0/\p.kf<0):=λe=>b _ _ hp e.2 e.1;by_cases h1:p.place=1
   ·have e:=w1 h hp h1 hl;refine⟨by rw[e];exact gv.of ⟨rfl,rfl,rfl⟩ (λ_=>rfl),.ok p (by rw[e];exact hp) h1 (by rw[e]) hl⟩
   ·rcases ur h b hp hl d h1 with⟨S0,a,k,f⟩|⟨S0,t,k,he⟩
    ·have s:=k.took.outs.gF c;refine⟨⟨⟨k.tree,k.guards,by rw[k.files];exact s.bW⟩,λx=>?_⟩,.ok {p with owner:=if p.place=0 then g else p.owner,place:=1,at_:=a} (by rw[k.pg,bK rfl]) rfl k.A1 hl⟩;rw[k.pg];by_cases e:x=id;·subst e;rw[bK rfl,hp];rfl
     ·rw[bJ e];exact s.kr x
    ·refine⟨by rw[he];exact k.outs.gF c,.mem (by rw[he]) hl (by rw[hp];rfl)⟩
def Inv.hV(h:Inv S)(id g:Int):gv S (S.bX id g).1/\Ss S id g:=Su h.toInv0 h.anon id g
inductive Fl(S:Cs)(g:Int)(bad:Prop)(r:Cs×Int×Int×Int):Prop
 |ok (p:Pg) (hm:Made S r.1 r.2.1) (hp:r.1.bt.pg r.2.1=some p) (h1:p.place=1) (hk:p.kf<0) (he:r.2.2.2=0) (hl:S.live g=true)
 |mem (s:gv S r.1) (he:r.2.2.2=12) (hl:S.live g=true) (hn:¬ bad)
 |bad (he:r=(S, -1, -1,2)) (hb:bad\/S.live g=false)
def Sw(h:Inv S)(hn:S.bt.next<16777216){B:Prop}(hb:¬ B)(hl:S.live g=true)(text:bA UInt8):Fl S g B (S.c8 g text):=by
 rcases wZ h hn hl text with⟨S0,a,k,he,d,c⟩|⟨S0,t,k,he⟩
 ·have s:=k.outs.gF h;have h1:(S.c8 g text).2.1=S.bt.next:=by rw[he]
  have b:(S.c8 g text).1.bt.pg S.bt.next=some ⟨-1,S.bt.next,1,a,g,0,0,false,false⟩:=by rw[c,bK rfl]
  refine .ok _ ?_ (h1▸b) rfl (by show(-1:Int)<0;decide) (by rw[he]) hl;rw[h1];refine⟨⟨by rw[he];exact s.tree,by rw[he];exact s.guards,by rw[he];exact s.bW⟩,Inv.j0 h.toInv0,⟨_,b,rfl⟩,λx hx=>?_⟩;rw[c,bJ hx];exact s.kr x
 ·exact .mem (by rw[he];exact k.outs.gF h) (by rw[he]) hl hb
def Inv.j1(h:Inv S)(hn:S.bt.next<16777216)(g:Int):Fl S g False (S.fresh g):=by
 cases hl:S.live g with
 |false=>exact .bad (by unfold Cs.fresh;rw[bK hl]) (.inr hl)
 |true=>
  have e:S.fresh g=S.c8 g By.zs:=by unfold Cs.fresh;rw[bJ (by rw[hl];decide)]
  rw[e];exact Sw h hn (λx=>x) hl _
def Inv.l0(h:Inv S)(hn:S.bt.next<16777216)(x g:Int):Fl S g (¬ ∃p,S.bt.pg x=some p/\p.place≠0) (S.copy x g):=by
 unfold Cs.copy;dsimp only;split
 ·next hb=>
  refine .bad rfl ?_;rcases hb with hb|hb|hb
  ·refine .inl ?_;rintro⟨p,hp,_⟩;rw[h.bL hp]at hb;exact hb rfl
  ·exact .inr hb
  ·refine .inl ?_;rintro⟨p,hp,a⟩;rw[h.bL hp]at hb;exact a hb
 ·next hb=>
  rw[o9,o9]at hb;have hl:S.live g=true:=by simpa using hb.2.1
  refine Sw h hn (λhB=>hB ?_) hl _;cases hp:S.bt.pg x with
  |none=>
   exfalso;have:=hb.1;unfold TS.get at this;rw[hp]at this;exact this bN
  |some p=>
   rw[h.bL hp]at hb;exact⟨p,rfl,hb.2.2⟩
inductive aKc(S:Cs)(k:Int×Int)(g:Int)(r:Cs×Int×Int×Int):Prop
 |ok (p:Pg) (hm:(gv S r.1/\(S.bt.pg r.2.1).isSome=true)\/Made S r.1 r.2.1) (hp:r.1.bt.pg r.2.1=some p) (h1:p.place=1) (hk:(p.kf,p.ki)=k/\0<=p.kf) (he:r.2.2.2=0)
 |mem (s:gv S r.1) (he:r.2.2.2=12) (hl:S.live g=true) (hf:ec S.files k=true)
 |bad (he:r=(S, -1, -1,2)) (hb:ec S.files k=false\/S.live g=false)
def Inv.kK(h:Inv S)(hn:S.bt.next<16777216)(k:Int×Int)(g:Int):aKc S k g (S.cA k g):=by
 unfold Cs.cA;dsimp only;split;·next hb=>exact .bad rfl hb
 next B=>
 have hl:S.live g=true:=by
  cases n:S.live g with
  |true=>rfl
  |false=>exact absurd (.inr n) B
 have hf:ec S.files k=true:=by
  cases n:ec S.files k with
  |true=>rfl
  |false=>exact absurd (.inl n) B
 by_cases hm:S.bt.of k<0
 ·rw[dF hm];simp only[g3];obtain⟨kf,ki⟩:=k;have j:=w3 hf;have l:=q4 S.bt (kf:=kf) (ki:=ki) (o:=g) ⟨h.cH.next,hn⟩ (.inr hm);rw[show(S.bt.make kf ki g).2.1=S.bt.next by rw[l.1]];have z:=h.toInv0.make hn (kf:=kf) (ki:=ki) hl (.inr ⟨hm,hf⟩);have r:g5 S.bt kf ki=(kf,ki):=by unfold g5;rw[bJ (by have:0<=kf:=j;omega)]
  have hp:(S.bt.make kf ki g).1.pg S.bt.next=some ⟨kf,ki,0,0,g,0,0,false,false⟩:=by rw[l.2.2,bK rfl,r]
  have d:∀x p,(S.bt.make kf ki g).1.pg x=some p->p.kf<0->p.place≠0:=by
   intro x q c v;rw[l.2.2]at c;split at c
   ·rw[<- cR c,r]at v;have:kf<0:=v;have:0<=kf:=j;omega
   ·exact h.anon _ _ c v
  obtain⟨s,b⟩:=Su (S:={S with bt:=(S.bt.make kf ki g).1}) z d S.bt.next g;have u:∀x,x≠S.bt.next->((Cs.bX {S with bt:=(S.bt.make kf ki g).1} S.bt.next g).1.bt.pg x).map kr=(S.bt.pg x).map kr:=λx hx=>by
   rw[s.kr x];show((S.bt.make kf ki g).1.pg x).map kr=_;rw[l.2.2,bJ hx]
  have i:Base S (Cs.bX {S with bt:=(S.bt.make kf ki g).1} S.bt.next g).1:=⟨s.tree,s.guards,s.bW⟩
  obtain⟨q,c,m,w,y⟩:=s.bL hp;rcases b with⟨p,f,h1,he,_⟩|⟨he,_,_⟩|⟨he,hb⟩
  ·rw[he];dsimp only;rw[bK rfl];rw[c]at f;cases f;exact .ok q (.inr ⟨i,Inv.j0 h.toInv0,⟨q,c,y⟩,u⟩) c h1 ⟨by rw[m,w],by rw[m];exact j⟩ rfl
  ·rw[he];rw[bJ bN];have F:q.place=0:=by
    rcases ur (S:={S with bt:=(S.bt.make kf ki g).1}) z d (id:=S.bt.next) (g:=g) hp hl (λe=>by have h1:kf<0:=e.2;have:0<=kf:=j;omega) (by show(0:Int)≠1;decide)with⟨S0,a,b,G⟩|⟨S0,t,b,A⟩
    ·rw[b.A1]at he;cases he
    ·obtain⟨H,D,_,_,_,_,E⟩:=(b.outs.kept ⟨z,d⟩).bL S.bt.next _ hp;rw[A,D]at c;cases c;rw[E (by show(0:Int)≠1;decide)]
   refine .mem ⟨⟨i.tree,i.guards,i.bW⟩,λx=>?_⟩ rfl hl hf;dsimp only;rw[uu c (by rw[y];exact g2 _) F];show(cL _ _ none x).map kr=_;by_cases hx:x=S.bt.next;·subst hx;rw[j7,Inv.j0 h.toInv0]
   ·rw[db _ _ hx];exact u x hx
  ·rcases hb with hb|hb;·rw[show(Cs.mk _ _ _ _ _ _ (S.bt.make kf ki g).1 _ _).bt.pg S.bt.next=_ from hp]at hb;cases hb
   ·have hb:S.live g=false:=hb;rw[hl]at hb;cases hb
 ·rw[dg hm];simp only[l4,gR];obtain⟨p,hp,hk,C⟩:=HE h.toInv0 (k:=k) bu;obtain⟨s,b⟩:=h.hV (S.bt.of k) g;obtain⟨q,c,m,w,y⟩:=s.bL hp;rcases b with⟨p2,f,h1,he,_⟩|⟨he,_,_⟩|⟨he,hb⟩
  ·rw[he];dsimp only;rw[bK rfl];rw[c]at f;cases f;exact .ok q (.inl ⟨s,by rw[hp];rfl⟩) c h1 ⟨by rw[m,w];exact hk,by rw[m];exact C⟩ rfl
  ·rw[he,bJ bN];exact .mem s rfl hl hf
  ·rcases hb with hb|hb;·rw[hp]at hb;cases hb
   ·rw[hl]at hb;cases hb
def aFf(id a:Int):gv S (S.get id a).1:=by
 unfold Cs.get;dsimp only;split;·exact gv.refl S
 ·dsimp only;split;·exact gv.of ⟨rfl,rfl,rfl⟩ (λ_=>rfl)
  ·exact gv.refl S
def aFD(id a:Int)(b:UInt8):gv S (S.put id a b).1:=by
 unfold Cs.put;dsimp only;split;·exact gv.refl S
 ·split
  ·refine⟨⟨rfl,rfl,rfl⟩,λx=>?_⟩;show((S.bt.mark id true).1.pg x).map kr=_;rw[(q3 S.bt id true).2.2.2 x,wj];cases S.bt.pg x with
   |none=>rfl
   |some p=>simp only[gg,Function.comp];split<;>rfl
  ·exact gv.refl S
end Go.Kc
namespace Go.Kw
open Go Go.Kc Go.Kt
def aG3(a b:Int)(l:bS):(Kc.new a b l).live 0=true:=rfl
def aFZ{V:Vs}(h:V.core.live 0=true):V.act ⟨3,0,0,0,0⟩=if 64<=V.procs.length then(V,.bad 3)else({V with procs:=V.procs++[(0,some Sp.new)]},⟨0,V.procs.length,[]⟩):=by
 unfold Vs.act;rw[bJ bN,bJ bN,bJ bN,bK rfl];show(if V.core.live 0=false then _ else _)=_;rw[bJ (by rw[h];decide)]
def Sx{V:Vs}{k a b c d:Int}(h:4<=k/\k<=11){s:Sp}(e:V.space a=some s):V.act ⟨k,a,b,c,d⟩=V.call s ⟨k,a,b,c,d⟩:=by
 rw[yL h];dsimp only;rw[e]
def aGm{V:Vs}{k a b c d:Int}(h:4<=k/\k<=11)(e:V.space a=none):V.act ⟨k,a,b,c,d⟩=(V,.bad 2):=by
 rw[yL h];dsimp only;rw[e]
def Sy{V:Vs}{pid at_:Int}{s:Sp}(a:V.space pid=some s):V.act ⟨8,pid,at_,0,0⟩=V.load pid s at_:=by
 rw[Sx bN a];rfl
end Go.Kw
namespace Go.Mp
open Go Go.Vc Go.Sp Go.Proofs Go.Kc Go.Kw Go.Kt
variable{E:Env}{L:ct}{w W:bI}{A:At}{v:Nat}{V:Vs}
def iv:bA dx:=[⟨3,0,0,0,0⟩,⟨5,0,2,0,0⟩,⟨9,0,20,7,0⟩,⟨8,0,20,0,0⟩,⟨8,0,21,0,0⟩]
def Fm:(eu (Vs.new 4 4 []) iv).2.map (λa=>(a.err,a.n))= [(0,0),(0,0),(0,0),(0,7),(0,0)]:=by decide+kernel
def Fo{k:Nat}{e n:Int}(h: [((0:Int),(0:Int)),(0,0),(0,0),(0,7),(0,0)][k]?=some (e,n)):∃a,(eu (Vs.new 4 4 []) iv).2[k]?=some a/\a.err=e/\a.n=n:=by
 rw[<- Fm,eC]at h;cases b:(eu (Vs.new 4 4 []) iv).2[k]? with
 |none=>rw[b]at h;cases h
 |some a=>rw[b]at h;cases h;exact⟨a,rfl,rfl,rfl⟩
def Sz{fr sl:Int}{sz:Sl}{l:bS}{o:cb Obj}(b:Ints E (dY o::L) sz l)(a:sz.n<=sz.c)(h:Sep E (dY o::L) w){K:Ending->bf8}(k:∀(A:At) (v:Nat) w',A.o=o->eL E A v (Vs.new fr sl l) L w'->K (.returned (Pb v)) w'):Calls P uy #[Iv fr,Iv sl,Sv sz] w K:=by
 refine use (Sb b a h) ?_;rintro _ c ⟨A,v,rfl,ho,h1⟩;exact k A v c ho (eL.iJ h1)
def Fp(fr sl:Int)(l:bS):(Vs.new fr sl l).core.bt.next=0:=rfl
def aEW{o:cb Obj}(h:Sep E (dY o::L) w):Calls P H2 #[] w (cW E (.bool true) (dY o::L)):=by
 apply an8;unfold Rr qJ qL qR qU qW qg qy zL zW zw zx;refine Al.i h (λp V h1=>?_);have h1:Sep E (dY o::bC p (bQ e6 iv)::L) V:=h1.swap;refine use (aJJ (fr:=4) (sl:=4) (sz:=⟨none,0,0⟩) (l:=[]) (ol:=⟨some ⟨p,0,none⟩,5,5⟩) (os:=iv) (L:=bC p (bQ e6 iv)::L) (o:=o) ⟨rfl,λw _ i x hx=>by cases hx⟩ (ek _) (oY.jr (q:=0) (c:=5) (os:=iv) rfl) bN h1) ?_;rintro _ w2 ⟨s,rfl,h2⟩;have hlen:s.n=5:=(fP.len 0 h2 rfl).trans (E5 iv _);obtain⟨J,C,T,_⟩:=Fo (k:=2) rfl;obtain⟨a3,D,_,R⟩:=Fo (k:=3) rfl;obtain⟨a4,t,U,S⟩:=Fo (k:=4) rfl;generalize (eu (Vs.new 4 4 []) iv).2=r at h2 C D t;have h2:Sep E (dY o::fP s r::bC p (bQ e6 iv)::L) w2:=h2.swap;refine⟨s,rfl,Sz (fr:=4) (sl:=4) (sz:=⟨none,0,0⟩) (l:=[]) ⟨rfl,λw _ i x hx=>by cases hx⟩ (ek _) h2 (λA v Y ho K=>⟨_,rfl,λw'=>eL E A v (Vs.new 4 4 []) (fP s r::bC p (bQ e6 iv)::L) w',bF rfl (bF (by rw[hlen];rfl) K),?_⟩)⟩;intro _ W G;refine⟨⟨p,0,none⟩,rfl,⟨bN,bN⟩,?_⟩;have hb:∀j x,(bQ e6 iv)[j]?=some x->W.cell? (Addr.add ⟨p,0,none⟩ j)=some x:=λj x hx=>G.cell (k:=1) rfl hx;refine⟨_,hb 0 _ rfl,_,hb 1 _ rfl,_,hb 2 _ rfl,_,hb 3 _ rfl,_,hb 4 _ rfl,?_⟩;have z:(Vs.new 4 4 []).act ⟨3,0,0,0,0⟩=({Vs.new 4 4 []with procs:=[(0,some Kw.Sp.new)]},⟨0,0,[]⟩):=by
  rw[aFZ (aG3 4 4 [])];rfl
 refine eL.jo (o:=⟨3,0,0,0,0⟩) G (Vok.new 4 4 []) (by rw[Fp];decide) (λX q Z m u B n5=>?_);rw[z]at u B n5 m;dsimp only at u B n5 m;refine u.procs B (λpl I n e=>⟨pl,rfl,?_⟩);have g:=e.right;have d:∀(i:Int) (k:Nat) (a:cF) {F:Addr->Prop},i=k->r[k]?=some a->(∀a0:Addr,I.cell? (a0.add 0)=some (Iv a.err)->I.cell? (a0.add 1)=some (Iv a.n)->F a0)->cK s.p s.n i 3 F:=λi k a F O M f=>fP.el 3 g rfl O M f;refine d 2 2 J rfl C (λx hx _=>⟨_,hx,bT (by rw[T];rfl) (d 3 3 a3 rfl D (λx _ hx=>⟨_,hx,bT (by rw[R];rfl) (d 4 4 a4 rfl t (λx _ hx=>⟨_,hx,bT (by rw[S];rfl) (d 4 4 a4 rfl t (λx hx _=>⟨_,hx,bT (by rw[U];rfl) ?_⟩))⟩))⟩))⟩);refine⟨_,e.cell (k:=1) (j:=0) rfl rfl,bT rfl (bT (by rw[n];rfl) ?_)⟩;refine lV Pr.mx 0 g rfl n (show(0:Int)=((0:Nat):Int)from rfl) (show _=some (⟨0,0,true⟩:Pr)from rfl) (λb _ N=>⟨_,by rw[cf];exact N 2 _ rfl,bT rfl ?_⟩);refine e.space (pid:=0) (λx hx=>⟨x,rfl,bT (by rw[hx];rfl) (e.space (pid:=1) (λy Q=>⟨y,rfl,bT (by rw[Q];rfl) (e.core ⟨_,rfl,rfl,?_⟩)⟩))⟩);have H:=e.drop;rw[ho]at H;exact H.ro 6 [0] rfl
def aGD(cC cV:Int)(bW l:Sl)(w:bI):Calls P HZ #[Iv cC,Iv cV,Sv bW,Sv l] w
  (cz λv w'=>v=.bool (decide (cC>24)||decide (cV>24)||decide (bW.n>40)||decide (l.n>40))/\w'=w):=by
 apply aoH;unfold Rq;refine fZ (λh1=>⟨by rw[dF h1];rfl,rfl⟩) (λh1=>fZ (λh2=>⟨by rw[dF h2,Bool.or_true];rfl,rfl⟩) (λh2=>fZ (λa=>⟨by rw[dF (show bW.n>40 by omega),Bool.or_true];rfl,rfl⟩) (λa=>⟨?_,rfl⟩)));rw[dg (show ¬ cC>24 by omega),dg (show ¬ cV>24 by omega),dg (show ¬ bW.n>40 by omega)];simp only[Gl];congr 1;simp only[tB];omega
end Go.Mp
namespace Go.Mp
open Go Go.Vc Go.Sp Go.Proofs Go.Kc
variable{E:Env}{L:ct}{w:bI}{A:At}{S:Cs}
def yQ(W:bI)(s:Sl)(l:bS):Prop:=s.n=l.length/\s.n<=s.c/\∀(i:Nat) x,l[i]?=some x->∃a,s.p=some a/\W.cell? (a.add i)=some (Iv x)
def yQ.ints{W:bI}{s:Sl}{l:bS}{q:Nat}(h:yQ W s l)(c:L[q]?=some (dY W.heap)):Ints E L s l:=by
 refine⟨h.1,λw d i x hx=>?_⟩;obtain⟨a,hp,b⟩:=h.2.2 i x hx;exact⟨a,hp,vC d c b⟩
def aIL{W:bI}{v:bE}(h:Rd P W mr [v]):∃(s:Sl) (l:bS),v=Sv s/\yQ W s l:=by
 obtain⟨p,n,c,rfl,f,_,j⟩:=h.nC (e:=lS) cS;have key:∀i,i<n->∃x:Int,∃a,p=some a/\W.cell? (a.add i)=some (Iv x):=by
  intro i d;obtain⟨a,es,rfl,hl,b,hr⟩:=j i d;have g:P.cellsOf lS=1:=by kernel_rfl
  rw[g]at b hl
  match es,hl,hr with
  |[v0],_,hr=>
  obtain⟨k,rfl,_⟩:=hr.kB (k:=.i64) cS;refine⟨k,a,rfl,?_⟩;have:=b 0 bu;rw[fR,Addr.add,Addr.add]at this;simpa[Addr.add]using this
 obtain⟨xs,hl,hx⟩:=Sg key;exact⟨⟨p,n,c⟩,xs,rfl,hl.symm,f,hx⟩
end Go.Mp
namespace Go.Mp
open Go Go.Vc Go.Sp Go.Proofs Go.Kc Go.Kw Go.Kt
variable{E:Env}{L:ct}{w W:bI}{A:At}{v:Nat}{V:Vs}
def aHc{cC cV:Int}{n m:Nat}(h:(decide (cC>24)||decide (cV>24)||decide (n>40)||decide (m>40))=false):cC<=24/\cV<=24/\n<=40/\m<=40:=by
 simp only[FT,FN]at h;omega
def eL.dr{f:bf8}(h:eL E A v V L w)(k:∀w',eL E A v V L w'->f w'):Dr f w:=by
 obtain⟨gs,us,r,ps,h1,h2,a⟩:=h;exact Dr.i a (λw' b=>k w' ⟨gs,us,r,ps,h1,h2,b⟩)
def eL.alloc{c:cb bE}{t:cc}{f:Addr->bf8}(h:eL E A v V L w)(k:∀b w',eL E A v V (bC b c.toList::L) w'->f ⟨b,0,none⟩ w'):Al (.cells c t) f w:=by
 obtain⟨gs,us,r,ps,h1,h2,a⟩:=h;exact Al.i a (λb w' d=>k b w' ⟨gs,us,r,ps,h1,h2,Vm.e9 d⟩)
def eL.pr{s:Sl}{l:bA Pr}(q:Nat)(h:eL E A v V L w)(d:L[q]?=some (hU s l))(hn:s.n=l.length){k:Nat}{x:Pr}(hx:l[k]?=some x){F:Addr->Prop}(f:∀a,w.cell? (a.add 0)=some (Iv x.g)->w.cell? (a.add 1)=some (Iv x.size)->w.cell? (a.add 2)=some (.bool x.live)->F a):cK s.p s.n (k:Int) 3 F:=
 lV Pr.mx q h.right d hn rfl hx (λb _ c=>f _ (by rw[cf];exact c 0 _ rfl) (by rw[cf];exact c 1 _ rfl) (by rw[cf];exact c 2 _ rfl))
end Go.Mp
namespace Go.Kc
open Go Go.Kt Go.Sp
variable{S S' T:Cs}{id g:Int}{f:Int->Nat}
def Refs(S:Cs)(f:Int->Nat):Prop:=∀x,(S.bt.pg x).map Pg.refs=if f x=0 then none else some (f x:Int)
def rA(S:Cs)(id:Int)(f:Int->Nat):Prop:=(∀x,x≠id->(S.bt.pg x).map Pg.refs=if f x=0 then none else some (f x:Int))/\(S.bt.pg id).map Pg.refs=some (f id:Int)
def Refs.congr(h:Refs S f){f':Int->Nat}(e:∀x,f' x=f x):Refs S f':=λx=>by rw[e];exact h x
def Fq{a b:bV Pg}(h:a.map kr=b.map kr):a.map Pg.refs=b.map Pg.refs:=by
 have:=eJ (Option.map λq:Int×Int×Int=>q.2.2) h;rw[wj,wj]at this;exact this
def Refs.gF(h:Refs S f)(s:gv S S'):Refs S' f:=λx=>by rw[Fq (s.kr x)];exact h x
def Refs.pg(h:Refs S f){p:Pg}(hp:S.bt.pg id=some p):p.refs=f id/\0<f id:=by
 have:=h id;rw[hp]at this;by_cases e:f id=0;·rw[bK e]at this;cases this
 ·rw[bJ e]at this;exact⟨cR this,bu⟩
def Refs.some_(h:Refs S f)(a:0<f id):∃p,S.bt.pg id=some p/\p.refs=f id:=by
 have:=h id;rw[cD]at this;cases hp:S.bt.pg id with
 |none=>rw[hp]at this;cases this
 |some p=>rw[hp]at this;exact⟨p,rfl,cR this⟩
def Refs.toP(h:Refs S f)(a:0<f id):rA S id f:=by
 refine⟨λx _=>h x,?_⟩;rw[h id,cD]
def Refs.made(h:Refs S f)(m:Made S S' id):rA S' id f/\f id=0:=by
 have a:f id=0:=by
  have:=h id;rw[m.new]at this;by_cases e:f id=0;·exact e
  ·rw[bJ e]at this;cases this
 refine⟨⟨λx hx=>by rw[Fq (m.Sr x hx)];exact h x,?_⟩,a⟩;obtain⟨p,hp,hr⟩:=m.bL;rw[hp,a,gg,hr];rfl
def vO(h:Inv S)(id n:Int):Base S (S.bO id n).1:=by
 rcases nY h id n with⟨_,he⟩|⟨p,hp,⟨_,he⟩|⟨_,_,he⟩|⟨_,_,_,_,_,_,h1,h2,_,_,a,_⟩⟩
 ·rw[he];exact Base.refl S
 ·rw[he];exact Base.refl S
 ·rw[he];exact⟨rfl,rfl,rfl⟩
 ·exact⟨h1,h2,a⟩
def rA.up(h:Inv S)(r:rA S id f)(hb:f id<1000000000):Refs (S.bO id 1).1 (λx=>if x=id then f x+1 else f x)/\(∀x,(S.bt.pg x).map (λp=>(p.place,p.at_,p.kf,p.ki))=((S.bO id 1).1.bt.pg x).map (λp=>(p.place,p.at_,p.kf,p.ki)))/\(S.bO id 1).1.fr=S.fr/\(S.bO id 1).1.sl=S.sl/\(S.bO id 1).1.files=S.files:=by
 obtain⟨d,a,c⟩:∃p,S.bt.pg id=some p/\p.refs=f id:=by
  have:=r.2;cases hp:S.bt.pg id with
  |none=>rw[hp]at this;cases this
  |some p=>rw[hp]at this;exact⟨p,rfl,cR this⟩
 have hw:i64.wrap (d.refs+1)=(f id:Int)+1:=by rw[c];exact cP bu bu
 rcases nY h id 1 with⟨hn,_⟩|⟨p,hp,⟨b,_⟩|⟨_,_,he⟩|⟨g,_⟩⟩
 ·rw[a]at hn;cases hn
 ·rw[a]at hp;cases hp;rw[hw]at b;omega
 ·rw[a]at hp;cases hp;rw[he];refine⟨λx=>?_,λx=>?_,rfl,rfl,rfl⟩
  ·show(cL S.bt.pg id (some _) x).map Pg.refs=if(if x=id then f x+1 else f x)=0 then none else some (((if x=id then f x+1 else f x):Nat):Int)
   by_cases e:x=id
   ·subst e;rw[j7,bK rfl,cD,gg];show some (i64.wrap (d.refs+1))=_;rw[hw];rfl
   ·rw[db _ _ e,bJ e];exact r.1 x e
  ·show _=(cL S.bt.pg id (some _) x).map _;by_cases e:x=id;·subst e;rw[j7,a];rfl
   ·rw[db _ _ e]
 ·rw[a]at hp;cases hp;rw[hw]at g;omega
def Refs.down(h:Inv S)(r:Refs S f)(i:0<f id)(hb:f id<1000000000):Refs (S.bO id (-1)).1 (λx=>if x=id then f x-1 else f x):=by
 obtain⟨g,a,d⟩:=r.some_ i;have hw:i64.wrap (g.refs+ -1)=(f id:Int)-1:=by rw[d];exact cP bu bu
 rcases nY h id (-1)with⟨hn,_⟩|⟨p,hp,⟨b,_⟩|⟨h1,_,he⟩|⟨h1,_,_,_,_,c,_⟩⟩
 ·rw[a]at hn;cases hn
 ·rw[a]at hp;cases hp;rw[hw]at b;omega
 ·rw[a]at hp;cases hp;rw[he];intro x;show(cL S.bt.pg id (some _) x).map Pg.refs=if(if x=id then f x-1 else f x)=0 then none else some (((if x=id then f x-1 else f x):Nat):Int)
  by_cases e:x=id
  ·subst e;rw[hw]at h1;rw[j7,bK rfl,cD,gg];show some (i64.wrap (g.refs+ -1))=_;rw[hw];congr 1;omega
  ·rw[db _ _ e,bJ e];exact r x
 ·rw[a]at hp;cases hp;intro x;show _=if(if x=id then f x-1 else f x)=0 then none else some (((if x=id then f x-1 else f x):Nat):Int)
  rw[c];by_cases e:x=id
  ·subst e;rw[hw]at h1;rw[bK rfl,bK rfl,eK];rfl
  ·rw[bJ e,bJ e];exact r x
end Go.Kc
namespace Go.Kw
open Go Go.Kc Go.Kt Go.Sp
def Fs:∀(ids:bS) {S:Cs} {f:Int->Nat},Kc.Inv S->S.bt.next<=16777216->Refs S f->(∀x,ids.count x<=f x)->(∀x,f x<1000000000)->Refs (ed ids S) (λx=>f x-ids.count x)/\Base S (ed ids S)
 |[],S,f,_,_,r,_,_=>⟨r,Base.refl S⟩
 |y::l,S,f,d,hn,r,b,hb=>by
  have g:0<f y:=by have:=b y;rw[yX]at this;omega
  have h:=r.down d g (hb y);have a:=d.bO y (-1);have c:(S.bO y (-1)).1.bt.next<=16777216:=a.ids;obtain⟨i,b2⟩:=Fs l a c h (λx=>by
   have:=b x;by_cases e:x=y;·subst e;rw[yX]at this;rw[bK rfl];omega
   ·rw[yW (nd e)]at this;rw[bJ e];exact this) (λx=>by have:=hb x;split<;>omega)
  refine⟨i.congr λx=>?_,(vO d y (-1)).trans b2⟩;by_cases e:x=y;·subst e;rw[yX,bK rfl];omega
  ·rw[yW (nd e),bJ e]
def SA:∀(ids:bS) {S:Cs} {f:Int->Nat},Kc.Inv S->S.bt.next<=16777216->Refs S f->(∀x∈ids,0<f x)->(∀x,f x+ids.length<1000000000)->Refs (dD ids S) (λx=>f x+ids.count x)/\Base S (dD ids S)
 |[],S,f,_,_,r,_,_=>⟨r,Base.refl S⟩
 |y::l,S,f,d,hn,r,b,hb=>by
  have g:0<f y:=b y fE;have h:=((r.toP g).up d (by have:=hb y;omega)).1;have a:=d.bO y 1;have c:(S.bO y 1).1.bt.next<=16777216:=a.ids;obtain⟨i,b2⟩:=SA l a c h (λx hx=>by have:=b x (fY _ hx);split<;>omega) (λx=>by have:=hb x;rw[hM]at this;split<;>omega);refine⟨i.congr λx=>?_,(vO d y 1).trans b2⟩;by_cases e:x=y;·subst e;rw[yX,bK rfl];omega
  ·rw[yW (nd e),bJ e]
def g1(s:Sp):bS:=s.cH.map λq=>(q.2.id:Int)
def ke(p:PP):bS:=match p.2 with|some s=>g1 s|none=>[]
def fX(l:bA PP):bS:=l.flatMap ke
def vP{s:Sp}(h:fC s):s.ids 0 65536=g1 s:=by
 unfold Sp.ids g1;rw[vY.2 λq a=>?_];have:=(h.cH.low q a).1;unfold hq;simp;omega
def nX{x:Int}:∀ {l:bA PP} {i:Nat} {p p':PP},l[i]?=some p->(fX (l.set i p')).count x+(ke p).count x=(fX l).count x+(ke p').count x
 |q::l,0,p,p',h=>by
  have h:q=p:=by simpa using h
  subst h;show((ke p'++fX l).count x)+_=(ke q++fX l).count x+_;rw[wa,wa];omega
 |q::l,i+1,p,p',h=>by
  have:=nX (x:=x) (l:=l) (i:=i) (p:=p) (p':=p') (by simpa using h);show((ke q++fX (l.set i p')).count x)+_=(ke q++fX l).count x+_;rw[wa,wa];omega
def count_le{x:Int}{l:bA PP}{i:Nat}{p:PP}(h:l[i]?=some p):(ke p).count x<=(fX l).count x:=by
 have:=nX (x:=x) (p':=(0,none)) h;have a:(ke (0,none)).count x=0:=rfl;omega
def Ft{x:Int}:∀ {l:bA PP},(∀(i:Nat) g s,l[i]?=some (g,some s)->fC s)->(fX l).count x<=65536*l.length
 |[],_=>fj _
 |q::l,h=>by
  have h1:=Ft (x:=x) (l:=l) λi g s a=>h (i+1) g s (by simpa using a);show(ke q++fX l).count x<=_;rw[wa,hM];have h2:(ke q).count x<=65536:=by
   refine mK List.count_le_length ?_;obtain⟨g,o⟩:=q;cases o with
   |none=>exact fj _
   |some s=>show(s.cH.map _).length<=_;rw[ei];exact Go.Mp.gO (h 0 g s rfl).cH
  omega
def Kf(S S':Cs):Prop:=∀x q,S'.bt.pg x=some q->∃p,S.bt.pg x=some p/\q.kf=p.kf
def Kf.trans{A B C:Cs}(h:Kf A B)(k:Kf B C):Kf A C:=λx q b=>by
 obtain⟨p,hp,e⟩:=k x q b;obtain⟨r,hr,a⟩:=h x p hp;exact⟨r,hr,e.trans a⟩
def Kf.of{S S':Cs}(s:gv S S'):Kf S S':=λx q a=>by
 cases hp:S.bt.pg x with
 |none=>rw[s.none_.2 hp]at a;cases a
 |some p=>
  obtain⟨r,hr,e,_⟩:=s.bL hp;rw[hr]at a;cases a;exact⟨p,rfl,e⟩
def Kf.bO{S:Cs}(h:Kc.Inv S)(id n:Int):Kf S (S.bO id n).1:=λx q a=>by
 rcases nY h id n with⟨_,he⟩|⟨p,hp,⟨_,he⟩|⟨_,_,he⟩|⟨_,_,_,_,_,b,_⟩⟩
 ·rw[he]at a;exact⟨q,a,rfl⟩
 ·rw[he]at a;exact⟨q,a,rfl⟩
 ·rw[he]at a;have a:cL S.bt.pg id (some _) x=some q:=a;by_cases e:x=id;·subst e;rw[j7]at a;cases a;exact⟨p,hp,rfl⟩
  ·rw[db _ _ e]at a;exact⟨q,a,rfl⟩
 ·rw[b]at a;split at a;·cases a
  ·exact⟨q,a,rfl⟩
def Kf.ed:∀(ids:bS) {S:Cs},Kc.Inv S->Kf S (ed ids S)
 |[],_,_=> λ_ q a=>⟨q,a,rfl⟩
 |y::l,S,b=>(Kf.bO b y (-1)).trans (Kf.ed l (b.bO y (-1)))
def lE(P:bA PP):Prop:=∀(i:Nat) g s q e,P[i]?=some (g,some s)->s.entry q=some e->(s.cw q).isSome=true
structure eb(V:Vs):Prop extends Vok V where
 refs:Refs V.core λx=>(fX V.procs).count x
 g6:lE V.procs
 own:∀(i:Nat) g s q e x,V.procs[i]?=some (g,some s)->s.entry q=some e->s.cw q=some x->x.kind≠2->∀p,V.core.bt.pg e.id=some p->p.kf<0
def eb.small{V:Vs}(h:eb V)(x:Int):(fX V.procs).count x<1000000000:=by
 have:=Ft (x:=x) h.sp;have:=h.fk;omega
def eb.new(a b:Int)(l:bS):eb (Vs.new a b l):=⟨⟨Inv.new a b l,(λi g s h=>by cases h),by show(0:Nat)<=64;decide⟩,λx=>rfl,(λi g s q e h=>by cases h),λi g s q e x h=>by cases h⟩
def hL(K:bS)(l:bA PP):bA PP:=l.mapIdx λi p=>if(i:Int)∈K then(p.1,none)else p
def Fu(l:bA PP):hL [] l=l:=by
 unfold hL;apply hg;intro i;rw[List.getElem?_mapIdx];cases l[i]? <;>simp
def oZ(K:bS)(l:bA PP)(i:Nat):(hL K l)[i]?=(l[i]?).map λp=>if(i:Int)∈K then(p.1,none)else p:=by unfold hL;rw[List.getElem?_mapIdx]
def SB(K:bS)(l:bA PP):(hL K l).length=l.length:=by unfold hL;rw[List.length_mapIdx]
def Fv(K M:bS)(l:bA PP):hL M (hL K l)=hL (K++M) l:=by
 apply hg;intro i;rw[oZ,oZ,oZ,wj];cases l[i]? with
 |none=>rfl
 |some p=>
  simp only[gg,Function.comp,gH];by_cases h1:(i:Int)∈K<;>by_cases h2:(i:Int)∈M<;>simp[h1,h2]
def eb.exit{V:Vs}(h:eb V)(pid:Int):eb (V.exit pid)/\Base V.core (V.exit pid).core/\(V.exit pid).procs=hL [pid] V.procs:=by
 cases d:V.space pid with
 |none=>
  rw[EP d];refine⟨h,Base.refl _,?_⟩;apply hg;intro i;rw[oZ];cases a:V.procs[i]? with
  |none=>rfl
  |some p=>
   rw[gg];by_cases e:(i:Int)∈ [pid]
   ·rw[bK e];rw[ia]at e;obtain⟨g,o⟩:=p;have:=(jw a).1;rw[e,d]at this;rw[<- this]
   ·rw[bJ e]
 |some s=>
  rw[vA d];obtain⟨n,hp⟩:=iu d;have f:=h.sp _ _ _ hp;have c:=(cZ.1 hp).1;have j:∀x,(fX (V.procs.set pid.toNat (V.group pid,none))).count x+(g1 s).count x=(fX V.procs).count x:=λx=>by
   have:=nX (x:=x) (p':=(V.group pid,none)) hp;exact this
  obtain⟨r,b⟩:=Fs (s.ids 0 65536) h.inv h.inv.ids h.refs (λx=>by rw[vP f];have:=j x;omega) h.small;have m:=((vM (s.ids 0 65536) V.core).inv h.inv (by have:=h.inv.ids;omega)).1;refine⟨⟨⟨m,λi g s' a=>?_,by show(V.procs.set _ _).length<=64;rw[dW];exact h.fk⟩,r.congr λx=>?_,λi g s' q e a he=>?_,λi g s' q e x a he hw hk pg l=>?_⟩,b,?_⟩
  ·have a:(V.procs.set pid.toNat (V.group pid,none))[i]?=some (g,some s'):=a;rw[hd]at a;split at a
   ·try rw[bK c]at a
    cases a
   ·exact h.sp _ _ _ a
  ·show(fX (V.procs.set pid.toNat (V.group pid,none))).count x=_;rw[vP f];have:=j x;omega
  ·have a:(V.procs.set pid.toNat (V.group pid,none))[i]?=some (g,some s'):=a;rw[hd]at a;split at a
   ·try rw[bK c]at a
    cases a
   ·exact h.g6 _ _ _ _ _ a he
  ·have a:(V.procs.set pid.toNat (V.group pid,none))[i]?=some (g,some s'):=a;obtain⟨t,k,e0⟩:=Kf.ed (s.ids 0 65536) h.inv _ _ l;rw[hd]at a;split at a
   ·try rw[bK c]at a
    cases a
   ·rw[e0];exact h.own _ _ _ _ _ _ a he hw hk _ k
  ·show V.procs.set pid.toNat (V.group pid,none)=_;apply hg;intro i;rw[oZ,hd];by_cases e:pid.toNat=i
   ·subst e;rw[bK rfl,bK c,hp,gg,bK (by rw[ia];omega)]
   ·rw[bJ e];cases V.procs[i]? with
    |none=>rfl
    |some p=>rw[gg,bJ (by rw[ia];omega)]
def eb.de:∀(K:bS) {V:Vs},eb V->eb (V.de K)/\Base V.core (V.de K).core/\(V.de K).procs=hL K V.procs
 |[],V,h=>⟨h,Base.refl _,(Fu _).symm⟩
 |x::K,V,h=>by
  obtain⟨h1,b1,a⟩:=h.exit x;obtain⟨h2,b2,b⟩:=eb.de K h1;refine⟨h2,b1.trans b2,?_⟩;rw[show V.de (x::K)=(V.exit x).de K from rfl,b,a,Fv];rfl
end Go.Kw
namespace Go.Kw
open Go Go.Kc Go.Kt
variable{V V':Vs}{pid p:Int}{s:Sp}
def eb.core(h:eb V){S:Cs}(s:gv V.core S)(c:Kc.Inv S):eb {V with core:=S} :=by
 refine⟨⟨c,h.sp,h.fk⟩,h.refs.gF s,h.g6,λi g s' q e x b he hw hk p hp=>?_⟩;obtain⟨d,a,e0⟩:=Kf.of s _ _ hp;rw[e0];exact h.own _ _ _ _ _ _ b he hw hk _ a
structure hW(V:Vs)(K:bS):Prop where
 nodup:K.Nodup
 live:∀x∈K,∃s,V.space x=some s
def ti{K:bS}(hp:V'.procs=hL K V.procs)(i:Int):V'.space i=if i∈K then none else V.space i:=by
 unfold Vs.space;by_cases a:0<=i
 ·rw[bK a,bK a,hp,oZ,show((i.toNat:Nat):Int)=i by omega];cases V.procs[i.toNat]? with
  |none=>split<;>rfl
  |some p=>rw[gg];split<;>rfl
 ·rw[bJ a,bJ a];split<;>rfl
def hW.nil(V:Vs):hW V []:=⟨List.nodup_nil,λ_ h=>by cases h⟩
def hW.app{K M:bS}(h:hW V K)(hp:V'.procs=hL K V.procs)(k:hW V' M):hW V (K++M):=by
 have c:=ti hp;refine⟨v7.2 ⟨h.nodup,k.nodup,λa d b hb e=>?_⟩,λx hx=>?_⟩
 ·subst e;obtain⟨s,e⟩:=k.live a hb;rw[c,bK d]at e;cases e
 ·rcases gH.1 hx with hx|hx;·exact h.live x hx
  ·obtain⟨s,e⟩:=k.live x hx;rw[c]at e;split at e;·cases e
   ·exact⟨s,e⟩
inductive vR(f:Cs->Int->Cs×Int×Int×Int)(pid:Int)(n:Nat)(V:Vs)(o:cF)(q:Vs×cF×bV Int):Prop
 |ok (K:bS) (V':Vs) (hK:hW V K) (hp:V'.procs=hL K V.procs) (ef:pid∉K) (h:eb V') (hn:V'.core.bt.next+1<=V.core.bt.next+n) (b:Base V.core V'.core) (e0:(f V'.core (V'.group pid)).2.2.2=0)
   (e:q=({V' with core:=(f V'.core (V'.group pid)).1}, {o with bH:=o.bH++K},some (f V'.core (V'.group pid)).2.1)) (h1:K= []->V'=V) (h2:K≠ []->(f V.core (V.group pid)).2.2.2=12)
 |no (K:bS) (V':Vs) (err:Int) (hK:hW V K) (hp:V'.procs=hL K V.procs) (h:eb V') (b:Base V.core V'.core) (e:q=(V', {o with bH:=o.bH++K,err:=err},none))
   (he:(err=12/\pid∉K)\/(err=13/\pid∈K)\/(err≠0/\err≠12/\pid∉K/\∃V0:Vs,eb V0/\V0.procs=V'.procs/\Base V.core V0.core/\V0.core.bt.next+1<=V.core.bt.next+n/\f V0.core (V0.group pid)=(V'.core,(f V0.core (V0.group pid)).2)/\(f V0.core (V0.group pid)).2.2.2=err/\(K= []->V0=V)/\(K≠ []->(f V.core (V.group pid)).2.2.2=12)))
def aE5{x t:Int}(h:x∈dead V t):∃s,V.space x=some s:=ET h
def tj{K:bS}(hp:V'.procs=hL K V.procs)(i:Int):V'.group i=V.group i:=by
 unfold Vs.group;rw[hp,dJ,dJ,oZ];cases V.procs[i.toNat]? with
 |none=>rfl
 |some p=>rw[gg];show(if _ then _ else _:PP).1=_;split<;>rfl
def SC{f:Cs->Int->Cs×Int×Int×Int}(hf:∀S g,Path 1 S (f S g).1)(y:∀S g,Kc.Inv S->S.bt.next<16777216->(f S g).2.2.2≠0->gv S (f S g).1/\((f S g).2.2.2=12->(f S g).1.bt.next<=S.bt.next+1)):
  ∀(n:Nat) (V:Vs) (o:cF),eb V->V.core.bt.next+n<16777216->jb V.procs<n->(V.space pid).isSome=true->vR f pid n V o (fy f pid n V o)
 |0,V,o,_,_,hl,_=>absurd hl (Nat.not_lt_zero _)
 |n+1,V,o,h,hn,hl,z=>by
  rw[nM];dsimp only;obtain⟨r,hr⟩:∃r,f V.core (V.group pid)=r:=⟨_,rfl⟩
  have t:=(hf V.core (V.group pid)).inv h.inv bu;have m:=y V.core (V.group pid) h.inv bu;rw[hr]at t m ⊢;by_cases e0:r.2.2.2=0
  ·rw[bK e0];exact .ok [] V (hW.nil V) (Fu _).symm (by simp) h bu (Base.refl _) (by rw[hr];exact e0) (by rw[hr,hv]) (λ_=>rfl) (λe=>absurd rfl e)
  rw[bJ e0];obtain⟨s1,_⟩:=m e0;have h1:eb {V with core:=r.1} :=h.core s1 t.1;by_cases j:r.2.2.2≠12
  ·rw[bK j];exact .no [] {V with core:=r.1} r.2.2.2 (hW.nil V) (Fu _).symm h1 s1.toBase (by rw[hv]) (.inr (.inr ⟨e0,j,by simp,V,h,rfl,Base.refl _,bu,by rw[hr],by rw[hr],λ_=>rfl,λe=>absurd rfl e⟩))
  rw[bJ j];obtain⟨d,q⟩:∃d,dead {V with core:=r.1} r.2.2.1=d:=⟨_,rfl⟩
  have hk:hW V d:=⟨by rw[<- q];exact RM _ _ _ _,λx hx=>by rw[<- q]at hx;exact aE5 (V:={V with core:=r.1}) hx⟩
  obtain⟨h2,b2,p2⟩:=eb.de d h1;have v:=(Fk d {V with core:=r.1}).inv t.1 (by show r.1.bt.next+0<=_;omega);have J:(Vs.de {V with core:=r.1} d).core.bt.next<=r.1.bt.next+0:=v.2.2;rw[q];have p2:(Vs.de {V with core:=r.1} d).procs=hL d V.procs:=p2;split
  ·next i=>
   refine .no d _ 12 hk p2 h2 (s1.toBase.trans b2) rfl (.inl ⟨rfl,by rw[i];simp⟩)
  next i=>
  split;·next ef=>exact .no d _ 13 hk p2 h2 (s1.toBase.trans b2) rfl (.inr (.inl ⟨rfl,ef⟩))
  next ef=>
  have I:jb (Vs.de {V with core:=r.1} d).procs<jb V.procs:=by
   obtain⟨x,l,rfl⟩:=List.exists_cons_of_ne_nil i;have:=hk.live x fE;exact RA (V:={V with core:=r.1}) (by obtain⟨s,e⟩:=this;exact(show Vs.space {V with core:=r.1} x=some s from e)▸rfl)
  have u:((Vs.de {V with core:=r.1} d).space pid).isSome=true:=by rw[ti p2,bJ ef];exact z
  have k:r.2.2.2=12:=by omega
  rcases SC hf y n (Vs.de {V with core:=r.1} d) {o with bH:=o.bH++d} h2 bu bu u with⟨K,W,hK,hp,w,p,H,b,f0,e,N,O⟩|⟨K,W,err,hK,hp,p,b,e,he⟩
  ·refine .ok (d++K) W (hk.app p2 hK) (by rw[hp,p2,Fv]) (by rw[gH];exact λx=>x.elim ef w) p bu ((s1.toBase.trans b2).trans b) f0 ?_ (λe=>absurd (yV.1 e).1 i) (λ_=>by rw[hr];exact k);rw[e];dsimp only;rw[dj]
  ·refine .no (d++K) W err (hk.app p2 hK) (by rw[hp,p2,Fv]) p ((s1.toBase.trans b2).trans b) ?_ ?_
   ·rw[e];dsimp only;rw[dj]
   ·rcases he with⟨a,c⟩|⟨a,c⟩|⟨A,B,a3,V0,C,D,E,L,F,G,M⟩
    ·exact .inl ⟨a,by rw[gH];exact λx=>x.elim ef c⟩
    ·exact .inr (.inl ⟨a,gH.2 (.inr c)⟩)
    ·exact .inr (.inr ⟨A,B,by rw[gH];exact λx=>x.elim ef a3,V0,C,D,(s1.toBase.trans b2).trans E,bu,F,G,λe=>absurd (yV.1 e).1 i,λ_=>by rw[hr];exact k⟩)
def yR{f:Cs->Int->Cs×Int×Int×Int}(hf:∀S g,Path 1 S (f S g).1)(b:∀S g,Kc.Inv S->S.bt.next<16777216->(f S g).2.2.2≠0->gv S (f S g).1)(h:eb V)(hn:V.core.bt.next+(V.procs.length+1)<16777216)(a:(V.space pid).isSome=true)(o:cF):vR f pid (V.procs.length+1) V o (V.dR f pid o):=by
 refine SC hf (λS g c hx he=>⟨b S g c hx he,λ_=>?_⟩) _ V o h bu (Nat.lt_succ_of_le FQ) a;exact((hf S g).inv c bu).2.2
def one(x y:Int):Nat:=if x=y then 1 else 0
def Fw{p:Nat}{e:En}(x:Int):∀ {T:c2},T.Pairwise (λx y=>x.1<y.1)->((eZ T p e).map λq=>(q.2.id:Int)).count x+(match dL T p with|some f=>one x f.id|none=>0)=(T.map λq=>(q.2.id:Int)).count x+one x e.id
 |[],_=>by
  show([(e.id:Int)].count x)+0=0+one x e.id;unfold one;by_cases h:x=(e.id:Int)
  ·rw[bK h,h];simp
  ·rw[bJ h,yW (nd h)];rfl
 |(k,f)::T,h=>by
  obtain⟨h1,h2⟩:=g7.1 h;have c:∀(a:Int) (l:bS),(a::l).count x=l.count x+one x a:=λa l=>by
   unfold one;by_cases h:x=a;·subst h;rw[yX,bK rfl]
   ·rw[yW (nd h),bJ h,lK]
  by_cases g:p<k
  ·have b:dL ((k,f)::T) p=none:=by
    cases b:dL ((k,f)::T) p with
    |none=>rfl
    |some y=>
     have:=sV b;rcases ew.1 this with h|h;·cases h;omega
     ·have:=h1 _ h;have:k<p:=this;omega
   rw[b];unfold eZ;rw[bK g,kh,c];rfl
  by_cases d:p=k
  ·have b:dL ((k,f)::T) p=some f:=by unfold dL;rw[bK d.symm]
   rw[b];unfold eZ;rw[bJ g,bK d,kh,kh,c,c];dsimp only;omega
  ·have b:dL ((k,f)::T) p=dL T p:=by show(if k=p then some f else dL T p)=_;rw[bJ (nd d)]
   rw[b];unfold eZ;rw[bJ g,bJ d,kh,kh,c,c];have:=Fw (p:=p) (e:=e) x h2;omega
def aBP(h:fC s){e:En}(he:s.entry p=some e):0<(g1 s).count (e.id:Int):=by
 have:=sV (h.entry he).2.2.2;exact List.count_pos_iff.2 (fA.2 ⟨_,this,rfl⟩)
def Fx(h:eb V)(a:V.space pid=some s){e:En}(he:s.entry p=some e):0<(fX V.procs).count (e.id:Int):=by
 obtain⟨_,hp⟩:=iu a;exact lI (aBP (h.sp _ _ _ hp) he) (count_le hp)
def Fy(h:eb V)(b:V.space pid=some s){e:En}(he:s.entry p=some e):∃q,V.core.bt.pg e.id=some q:=by
 obtain⟨q,a,_⟩:=h.refs.some_ (Fx h b he);exact⟨q,a⟩
inductive o0(V:Vs)(pid p:Int)(s:Sp)(o:cF)(q:Vs×cF×bV Int):Prop
 |ok (K:bS) (V1:Vs) (id:Int) (s1:Sp) (e:En) (hK:hW V K) (ef:pid∉K) (h:eb V1) (hp:V1.procs=(hL K V.procs).set pid.toNat (V.group pid,some s1)) (hr:s1.dp=s.dp) (he:s1.entry p=some e) (eS:(e.id:Int)=id)
   (x:Pg) (hx:V1.core.bt.pg id=some x) (h1:x.place=1) (b:Base V.core V1.core) (e:q=(V1, {o with bH:=o.bH++K},some id))
 |no (K:bS) (V':Vs) (err:Int) (hK:hW V K) (hp:V'.procs=hL K V.procs) (h:eb V') (b:Base V.core V'.core) (e:q=(V', {o with bH:=o.bH++K,err:=err},none))
   (he:(err=12/\pid∉K)\/(err=13/\pid∈K)\/(err=2/\K= []/\V'=V))
def tg{l:bA PP}{i:Nat}{p:PP}(h:l[i]?=some p):l.set i p=l:=by
 apply hg;intro j;rw[hd];split
 ·next e=>
  subst e;rw[bK (cZ.1 h).1,h]
 ·rfl
def SD{K:bS}(a:V.space pid=some s)(ef:pid∉K):(hL K V.procs)[pid.toNat]?=some (V.group pid,some s):=by
 obtain⟨b,hp⟩:=iu a;rw[oZ,hp,gg,bJ (by rw[show((pid.toNat:Nat):Int)=pid by omega];exact ef)]
def Base.j2{S S':Cs}(b:Base S S'){g:Int}(h:S'.live g=false)(k:S.live g=true):False:=by rw[b.live,k]at h;cases h
def SE(h:eb V)(hn:V.core.bt.next+(V.procs.length+1)<16777216)(v:V.space pid=some s){e:En}(he:s.entry p=some e)(o:cF):o0 V pid p s o (V.bX pid e.id o):=by
 have hb:∀S g,Path 1 S ((λ(S:Cs) g=>let r:=S.bX e.id g;(r.1,(e.id:Int),r.2)) S g).1:=λS g=>(Path.bX _ g).up bu;have C:∀W:Vs,eb W->∀K,W.procs=hL K V.procs->pid∉K->∃q,W.core.bt.pg e.id=some q:=λW j K hp hK=>Fy j (by rw[ti hp,bJ hK];exact v) he;rcases yR (f:=λ(S:Cs) g=>let r:=S.bX e.id g;(r.1,(e.id:Int),r.2)) hb (λS g M _ _=>(M.hV e.id g).1) h hn (by rw[v];rfl) o with⟨K,W,hK,hp,ef,j,L,b,f0,m,_⟩|⟨K,W,err,hK,hp,j,b,m,A⟩
 ·obtain⟨D,n⟩:=j.inv.hV e.id (W.group pid);dsimp only at f0 m;rcases n with⟨x,hx,h1,a,_⟩|⟨a,_⟩|⟨a,_⟩
  ·refine .ok K _ e.id s e hK ef (j.core D (j.inv.bX _ _)) ?_ rfl he rfl x hx h1 (b.trans D.toBase) m;rw[tg (SD v ef)];exact hp
  ·rw[a]at f0;cases f0
  ·rw[a]at f0;cases f0
 ·refine .no K W err hK hp j b m ?_;rcases A with h1|h1|⟨E,F,a3,V0,y,l,G,_,t,i,H,u⟩
  ·exact .inl h1
  ·exact .inr (.inl h1)
  ·refine .inr (.inr ?_);dsimp only at t i u;obtain⟨_,n⟩:=y.inv.hV e.id (V0.group pid);rcases n with⟨x,hx,h1,a,_⟩|⟨a,_⟩|⟨a,c⟩
   ·rw[a]at i;exact absurd i.symm E
   ·rw[a]at i;exact absurd i.symm F
   ·rw[a]at i t;have d:K= []:=by
     refine rD λd=>?_;obtain⟨_,w⟩:=h.inv.hV e.id (V.group pid);rcases w with⟨x,hx,h1,k,_⟩|⟨_,B,_⟩|⟨k,_⟩
     ·have:=u d;rw[k]at this;cases this
     ·rcases c with c|c
      ·obtain⟨q,I⟩:=C V0 y K (by rw[l];exact hp) a3;rw[I]at c;cases c
      ·rw[show V0.group pid=V.group pid from tj (K:=K) (by rw[l];exact hp) pid]at c;exact Base.j2 G c B
     ·have:=u d;rw[k]at this;cases this
    refine⟨i.symm,d,?_⟩;have J:=H d;subst J;have z:W.core=V0.core:=by
     have:=eJ Prod.fst t;exact this.symm
    cases W;cases V0;dsimp only at z l;rw[z,l]
def SF{W:Vs}{S:Cs}{id:Int}{k:Nat}{wr:Bool}(j:eb W)(t:Kc.Inv S)(b:Base W.core S)(o:W.space pid=some s)(hw:(s.cw p).isSome=true)(eS:0<=id/\id<16777216)(hk:k=1\/k=2)(hr:rA S id λx=>(fX W.procs).count x){s1:Sp}(h:s1=s.enter p id k wr):
  ∃V1:Vs,Vs.enter {W with core:=S} pid p id k wr=V1/\V1.procs=W.procs.set pid.toNat (W.group pid,some s1)/\V1.core=(S.bO id 1).1/\Kc.Inv V1.core/\Base W.core V1.core/\s1.dp=s.dp/\s1.entry p=some ⟨k,id.toNat,wr,false⟩/\
   (∀(i:Nat) g s,V1.procs[i]?=some (g,some s)->fC s)/\V1.procs.length<=64/\Refs V1.core (λx=>(fX W.procs).count x+one x id)/\(∀x,(fX V1.procs).count x+(match s.entry p with|some f=>one x f.id|none=>0)=(fX W.procs).count x+one x id)/\
   (∀x,(S.bt.pg x).map (λp=>(p.place,p.at_,p.kf,p.ki))=(V1.core.bt.pg x).map (λp=>(p.place,p.at_,p.kf,p.ki)))/\V1.core.fr=S.fr/\V1.core.sl=S.sl/\V1.core.files=S.files:=by
 obtain⟨F,hp⟩:=iu o;have a:=j.sp _ _ _ hp;obtain⟨G,r⟩:=kX.1 hw;have l:=sZ a r;have c:s1= {s with cH:=eZ s.cH p.toNat ⟨k,id.toNat,wr,false⟩} :=by rw[h];unfold Sp.enter;rw[bK ⟨hw,eS.1,eS.2⟩]
 have n:=(cZ.1 hp).1;obtain⟨z,pl,v,w,y⟩:=hr.up t (j.small id);have heq:Vs.enter {W with core:=S} pid p id k wr=⟨(S.bO id 1).1,W.procs.set pid.toNat (W.group pid,some s1)⟩:=by
  unfold Vs.enter;dsimp only;rw[show Vs.space {core:=(S.bO id 1).1,procs:=W.procs} pid=some s from o,h];rfl
 have m:∀x,(fX (W.procs.set pid.toNat (W.group pid,some s1))).count x+(match s.entry p with|some f=>one x f.id|none=>0)=(fX W.procs).count x+one x id:=λx=>by
  have A:=nX (x:=x) (p':=(W.group pid,some s1)) hp;have B:=Fw (p:=p.toNat) (e:=⟨k,id.toNat,wr,false⟩) x a.cH.cX;have C:(ke (W.group pid,some s1)).count x=((eZ s.cH p.toNat ⟨k,id.toNat,wr,false⟩).map λq=>(q.2.id:Int)).count x:=by rw[c];rfl
  have D:(ke (W.group pid,some s)).count x=(s.cH.map λq=>(q.2.id:Int)).count x:=rfl;have u:s.entry p=dL s.cH p.toNat:=by unfold Sp.entry;rw[bK l.1]
  have E:one x (((⟨k,id.toNat,wr,false⟩:En).id:Nat):Int)=one x id:=by show one x ((id.toNat:Nat):Int)=_;rw[show((id.toNat:Nat):Int)=id by omega]
  rw[u];omega
 refine⟨_,heq,rfl,rfl,t.bO id 1,b.trans (vO t id 1),by rw[c],?_,λi g s' d=>?_,by rw[dW];exact j.fk,z.congr λx=>?_,m,pl,v,w,y⟩
 ·rw[c];unfold Sp.entry;rw[bK l.1];dsimp only;rw[u2 a.cH.cX,bK rfl]
 ·rw[hd]at d;split at d
  ·try rw[bK n]at d
   cases d;rw[h];exact a.enter hk
  ·exact j.sp _ _ _ d
 ·show _=if x=id then(fX W.procs).count x+1 else(fX W.procs).count x
  unfold one;split<;>rfl
end Go.Kw
namespace Go.Kw
open Go Go.Kc Go.Kt Go.Sp
variable{V V':Vs}{pid p:Int}{s:Sp}{k:Int}
def fI(P:bA PP)(S:Cs):Prop:=∀(i:Nat) g s q e x,P[i]?=some (g,some s)->s.entry q=some e->s.cw q=some x->x.kind≠2->∀p,S.bt.pg e.id=some p->p.kf<0
def fI.kf{P:bA PP}{S S':Cs}(h:fI P S)(k:Kf S S'):fI P S':=λi g s q e x b he hw hx p hp=>by
 obtain⟨c,a,e0⟩:=k _ _ hp;rw[e0];exact h i g s q e x b he hw hx _ a
def fI.made{W:Vs}{S:Cs}{id:Int}(h:eb W)(m:Made W.core S id):fI W.procs S:=λi g s q e x b he hw hx p hp=>by
 by_cases eS:(e.id:Int)=id
 ·exfalso;obtain⟨r,hr⟩:=Fy h (pid:=(i:Int)) (jw b).1 he;rw[eS,m.new]at hr;cases hr
 ·have:=m.Sr _ eS;rw[hp]at this;cases a:W.core.bt.pg e.id with
  |none=>rw[a]at this;cases this
  |some c=>
   rw[a]at this;have e0:kr p=kr c:=cR this;unfold kr at e0;simp only[ot]at e0;rw[e0.1];exact h.own _ _ _ _ _ _ b he hw hx _ a
def fI.j3{P:bA PP}{S:Cs}{n:Nat}{g:Int}{s1:Sp}(h:fI P S)(h1:∀q e x,s1.entry q=some e->s1.cw q=some x->x.kind≠2->∀p,S.bt.pg e.id=some p->p.kf<0):fI (P.set n (g,some s1)) S:=λi b s q e x a he hw hx p hp=>by
 rw[hd]at a;split at a
 ·split at a;·cases a;exact h1 q e x he hw hx p hp
  ·cases a
 ·exact h i b s q e x a he hw hx p hp
def lE.j3{P:bA PP}{n:Nat}{g:Int}{s1:Sp}(h:lE P)(h1:∀q e,s1.entry q=some e->(s1.cw q).isSome=true):lE (P.set n (g,some s1)):=λi b s q e a he=>by
 rw[hd]at a;split at a
 ·split at a;·cases a;exact h1 q e he
  ·cases a
 ·exact h i b s q e a he
def vS{s s1:Sp}(h:s1.dp=s.dp)(p:Int):s1.cw p=s.cw p:=by unfold Sp.cw;rw[h]
def yS(a:fC s){id:Int}{k:Nat}{wr:Bool}{q:Int}{e:En}(he:(s.enter p id k wr).entry q=some e):(q=p/\(e.id:Int)=id/\0<=id)\/s.entry q=some e:=by
 unfold Sp.enter at he;split at he
 ·next b=>
  obtain⟨x,hx⟩:=kX.1 b.1;have d:=sZ a hx;unfold Sp.entry at he ⊢;split at he
  ·next c=>
   rw[bK c];dsimp only at he;rw[u2 a.cH.cX]at he;split at he
   ·next f=>
    cases he;refine .inl ⟨bu,?_,b.2.1⟩;show((id.toNat:Nat):Int)=id;omega
   ·exact .inr he
  ·cases he
 ·exact .inr he
def j4{W:Vs}{S:Cs}{id:Int}{k:Nat}{wr:Bool}{o:cF}{K:bS}{G:Rg}(i:eb W)(P:Kc.Inv S)(b0:Base V.core W.core)(b:Base W.core S)(N:V.space pid=some s)(hK:hW V K)(ef:pid∉K)(hp:W.procs=hL K V.procs)(hw:s.cw p=some G)(B:s.entry p=none)(eS:0<=id/\id<16777216)(hk:k=1\/k=2)(hr:rA S id λx=>(fX W.procs).count x)(ho:fI W.procs S){x:Pg}(hx:S.bt.pg id=some x)(h1:x.place=1)(A:G.kind=2\/x.kf<0):
  o0 V pid p s o (Vs.enter {W with core:=S} pid p id k wr, {o with bH:=o.bH++K},some id):=by
 have a:W.space pid=some s:=by rw[ti hp,bJ ef];exact N
 have w:W.group pid=V.group pid:=tj hp pid;have m:=i.sp _ _ _ (iu a).2;obtain⟨V1,J,pr,I,H,b1,g,v,D,u,O,M,C,Q,R,T⟩:=SF (wr:=wr) i P b a (by rw[hw];rfl) eS hk hr rfl;rw[J];have d:Kf S V1.core:=by rw[I];exact Kf.bO P id 1
 have E:∃y,V1.core.bt.pg id=some y/\y.place=1:=by
  have:=C id;rw[hx]at this;cases j:V1.core.bt.pg id with
  |none=>rw[j]at this;cases this
  |some y=>
   rw[j]at this;have:=cR this;simp only[ot]at this;exact⟨y,rfl,by rw[<- this.1];exact h1⟩
 obtain⟨y,j,F⟩:=E;refine .ok K V1 id (s.enter p id k wr) ⟨k,id.toNat,wr,false⟩ hK ef ⟨⟨H,D,u⟩,O.congr λz=>?_,?_,?_⟩ (by rw[pr,hp,w]) g v (by show((id.toNat:Nat):Int)=id;omega) y j F (b0.trans b1) rfl
 ·have:=M z;rw[B]at this;exact this
 ·rw[pr];refine i.g6.j3 λq e he=>?_;rw[vS g];rcases yS m he with⟨r,_⟩|t;·rw[r,hw];rfl
  ·exact i.g6 _ _ _ _ _ (iu a).2 t
 ·rw[pr];refine(ho.kf d).j3 λq e Y he c l X f=>?_;rw[vS g]at c;rcases yS m he with⟨r,L,_⟩|t
  ·subst r;rw[hw]at c;cases c;rw[L]at f;obtain⟨U,n,e0⟩:=d _ _ f;rw[hx]at n;cases n;rw[e0];rcases A with h|h;·exact absurd h l
   ·exact h
  ·exact(ho.kf d) _ _ _ _ _ _ (iu a).2 t c l _ f
def Fz{f:Cs->Int->Cs×Int×Int×Int}{n:Nat}{o:cF}{q:Vs×cF×bV Int}{K:bS}{W:Vs}{err:Int}(hK:hW V K)(hp:W.procs=hL K V.procs)(u:eb W)(b:Base V.core W.core)(e:q=(W, {o with bH:=o.bH++K,err:=err},none))(he:(err=12/\pid∉K)\/(err=13/\pid∈K)\/(err≠0/\err≠12/\pid∉K/\∃V0:Vs,eb V0/\V0.procs=W.procs/\Base V.core V0.core/\V0.core.bt.next+1<=V.core.bt.next+n/\f V0.core (V0.group pid)=(W.core,(f V0.core (V0.group pid)).2)/\(f V0.core (V0.group pid)).2.2.2=err/\(K= []->V0=V)/\(K≠ []->(f V.core (V.group pid)).2.2.2=12)))(h2:∀V0:Vs,eb V0->V0.procs=hL K V.procs->pid∉K->Base V.core V0.core->V0.core.bt.next+1<=V.core.bt.next+n->(f V0.core (V0.group pid)).2.2.2≠0->(f V0.core (V0.group pid)).2.2.2≠12->f V0.core (V0.group pid)=(V0.core, -1, -1,2)/\((f V.core (V.group pid)).2.2.2=12->False)):o0 V pid p s o q:=by
 refine .no K W err hK hp u b e ?_;rcases he with h1|h1|⟨i,j,a3,V0,k,d,l,m,g,c,r,t⟩
 ·exact .inl h1
 ·exact .inr (.inl h1)
 ·refine .inr (.inr ?_);obtain⟨d1,d2⟩:=h2 V0 k (by rw[d];exact hp) a3 l m (by rw[c];exact i) (by rw[c];exact j);have a:K= []:=rD λa=>d2 (t a);have v:=r a;subst v;rw[d1]at g c;refine⟨c.symm,a,?_⟩;have h:W.core=V0.core:=(eJ Prod.fst g).symm;cases W;cases V0;dsimp only at h d;rw[h,d]
def SG(h:eb V)(hn:V.core.bt.next+(V.procs.length+1)<16777216)(j:V.space pid=some s){a:Rg}(hw:s.cw p=some a)(hk:s.entry p=none->a.kind=2)(o:cF):o0 V pid p s o (V.there pid p s a o):=by
 unfold Vs.there;cases he:s.entry p with
 |some e=>exact SE h hn j he o
 |none=>
  dsimp only;have A:∀S g,Kc.Inv S->S.bt.next<16777216->((λ(S:Cs) g=>S.cA (dC a p) g) S g).2.2.2≠0->gv S ((λ(S:Cs) g=>S.cA (dC a p) g) S g).1:=λS g I hx m=>by
   dsimp only at m ⊢;rcases I.kK hx (dC a p) g with⟨_,_,_,_,_,e0⟩|⟨i,_⟩|⟨e0,_⟩
   ·exact absurd e0 m
   ·exact i
   ·rw[e0];exact gv.refl S
  rcases yR (f:=λ(S:Cs) g=>S.cA (dC a p) g) (λS g=>Path.cA _ g) A h hn (by rw[j];rfl) o with⟨K,W,hK,hp,ef,c,G,b,f0,q,_⟩|⟨K,W,err,hK,hp,c,b,q,v⟩
  ·rw[q];dsimp only at f0 ⊢;have eS:=RU c.inv (k:=dC a p) (g:=W.group pid) bu f0;have u:=c.inv.cA bu (dC a p) (W.group pid);rcases c.inv.kK bu (dC a p) (W.group pid)with⟨x,hm,hx,h1,H,e0⟩|⟨_,e0,_⟩|⟨e0,_⟩
   ·generalize W.core.cA (dC a p) (W.group pid)=r at*
    rcases hm with⟨i,l⟩|hm
    ·obtain⟨y,D⟩:=kX.1 l;exact j4 c u b i.toBase j hK ef hp hw he eS (.inr rfl) ((c.refs.gF i).toP (c.refs.pg D).2) (fI.kf c.own (Kf.of i)) hx h1 (.inl (hk he))
    ·exact j4 c u b hm.toBase j hK ef hp hw he eS (.inr rfl) (c.refs.made hm).1 (fI.made c hm) hx h1 (.inl (hk he))
   ·rw[e0]at f0;cases f0
   ·rw[e0]at f0;cases f0
  ·rw[q];dsimp only;refine Fz (f:=λS g=>S.cA (dC a p) g) (n:=V.procs.length+1) hK hp c b rfl v (λV0 E F ef b0 J B C=>?_);try dsimp only at B C ⊢
   rcases E.inv.kK bu (dC a p) (V0.group pid)with⟨_,_,_,_,_,e0⟩|⟨_,e0,_⟩|⟨e0,hb⟩
   ·exact absurd e0 B
   ·exact absurd e0 C
   ·refine⟨e0,λd=>?_⟩;rcases h.inv.kK bu (dC a p) (V.group pid)with⟨_,_,_,_,_,t⟩|⟨_,_,z,w⟩|⟨t,_⟩
    ·rw[t]at d;cases d
    ·rcases hb with hb|hb;·rw[b0.has,w]at hb;cases hb
     ·rw[tj F pid]at hb;exact Base.j2 b0 hb z
    ·rw[t]at d;cases d
def aB3{S:Cs}(h:Kc.Inv S){x id:Int}(n:Int)(hx:x≠id):(S.bO id n).1.bt.pg x=S.bt.pg x:=by
 rcases nY h id n with⟨_,he⟩|⟨p,hp,⟨_,he⟩|⟨_,_,he⟩|⟨_,_,_,_,_,a,_⟩⟩
 ·rw[he]
 ·rw[he]
 ·rw[he];exact db _ _ hx
 ·rw[a,bJ hx]
def copied{W:Vs}{S:Cs}{id:Int}{o:cF}{K:bS}{N:Rg}{f:En}(a:eb W)(O:Kc.Inv S)(b0:Base V.core W.core)(L:V.space pid=some s)(hK:hW V K)(ef:pid∉K)(hp:W.procs=hL K V.procs)(hw:s.cw p=some N)(hf:s.entry p=some f)(eS:0<=id/\id<16777216)(hm:Made W.core S id){x:Pg}(hx:S.bt.pg id=some x)(h1:x.place=1)(B:x.kf<0):
  o0 V pid p s o ({Vs.enter {W with core:=S} pid p id 1 true with core:=((Vs.enter {W with core:=S} pid p id 1 true).core.bO f.id (-1)).1}, {o with bH:=o.bH++K},some id):=by
 have b:W.space pid=some s:=by rw[ti hp,bJ ef];exact L
 have v:W.group pid=V.group pid:=tj hp pid;have k:=a.sp _ _ _ (iu b).2;obtain⟨hr,R⟩:=a.refs.made hm;obtain⟨V1,H,pr,G,d,b1,h,u,D,t,M,J,C,_⟩:=SF (wr:=true) a O hm.toBase b (by rw[hw];rfl) eS (.inl rfl) hr rfl;rw[H];have j:(f.id:Int)≠id:=by
  intro e;have:=Fx a b hf;rw[e]at this;omega
 have w:Kf S V1.core:=by rw[G];exact Kf.bO O id 1
 have c:Kf S (V1.core.bO f.id (-1)).1:=w.trans (Kf.bO d _ _);have E:∃y,(V1.core.bO f.id (-1)).1.bt.pg id=some y/\y.place=1:=by
  rw[aB3 d (-1) (nd j)];have:=C id;rw[hx]at this;cases i:V1.core.bt.pg id with
  |none=>rw[i]at this;cases this
  |some y=>
   rw[i]at this;have:=cR this;simp only[ot]at this;exact⟨y,rfl,by rw[<- this.1];exact h1⟩
 obtain⟨y,i,F⟩:=E;have P:=Fx a b hf;have Q:=a.small (f.id:Int);have rd:=M.down (id:=(f.id:Int)) d bu (by unfold one;rw[bJ j];omega);refine .ok K {V1 with core:=(V1.core.bO f.id (-1)).1} id (s.enter p id 1 true) ⟨1,id.toNat,true,false⟩ hK ef ⟨⟨d.bO _ _,D,t⟩,rd.congr λz=>?_,?_,?_⟩ (by show V1.procs=_;rw[pr,hp,v]) h u (by show((id.toNat:Nat):Int)=id;omega) y i F ((b0.trans b1).trans (vO d _ _)) rfl
 ·have:=J z;rw[hf]at this;have this:(fX V1.procs).count z+one z f.id=(fX W.procs).count z+one z id:=this;show(fX V1.procs).count z=if z=(f.id:Int)then(fX W.procs).count z+one z id-1 else(fX W.procs).count z+one z id
  unfold one at this ⊢;split<;>rename_i e;·rw[bK e]at this;omega
  ·rw[bJ e]at this;omega
 ·show lE V1.procs;rw[pr];refine a.g6.j3 λq e he=>?_;rw[vS h];rcases yS k he with⟨n,_⟩|r;·rw[n,hw];rfl
  ·exact a.g6 _ _ _ _ _ (iu b).2 r
 ·show fI V1.procs _;rw[pr];refine(((fI.made a hm).kf c)).j3 λq e X he m A U g=>?_;rw[vS h]at m;rcases yS k he with⟨n,I,_⟩|r
  ·subst n;rw[I]at g;obtain⟨T,l,e0⟩:=c _ _ g;rw[hx]at l;cases l;rw[e0];exact B
  ·exact((fI.made a hm).kf c) _ _ _ _ _ _ (iu b).2 r m A _ g
def aHd(h:eb V)(hn:V.core.bt.next+(V.procs.length+1)<16777216)(k:V.space pid=some s){F:Rg}(hw:s.cw p=some F)(hk:F.kind≠2)(o:cF):o0 V pid p s o (V.own pid p s o):=by
 unfold Vs.own;cases he:s.entry p with
 |some e=>
  dsimp only;split;·exact SE h hn k he o
  have v:∀S g,Kc.Inv S->S.bt.next<16777216->((λ(S:Cs) g=>S.copy e.id g) S g).2.2.2≠0->gv S ((λ(S:Cs) g=>S.copy e.id g) S g).1:=λS g G hx d=>by
   dsimp only at d ⊢;rcases G.l0 hx e.id g with⟨_,_,_,_,_,e0,_⟩|⟨D,_⟩|⟨e0,_⟩
   ·exact absurd e0 d
   ·exact D
   ·rw[e0];exact gv.refl S
  rcases yR (f:=λ(S:Cs) g=>S.copy e.id g) (λS g=>Path.copy _ g) v h hn (by rw[k];rfl) o with⟨K,W,hK,hp,ef,a,E,b,f0,i,_⟩|⟨K,W,err,hK,hp,a,b,i,m⟩
  ·rw[i];dsimp only at f0 ⊢;have eS:=RS a.inv (id:=e.id) (g:=W.group pid) bu f0;have B:=a.inv.copy bu e.id (W.group pid);rcases a.inv.l0 bu e.id (W.group pid)with⟨x,hm,hx,h1,t,e0,_⟩|⟨_,e0,_⟩|⟨e0,_⟩
   ·generalize W.core.copy e.id (W.group pid)=r at*
    exact copied a B b k hK ef hp hw he eS hm hx h1 t
   ·rw[e0]at f0;cases f0
   ·rw[e0]at f0;cases f0
  ·rw[i];dsimp only;refine Fz (f:=λS g=>S.copy e.id g) (n:=V.procs.length+1) hK hp a b rfl m (λV0 l z ef b0 H w y=>?_);try dsimp only at w y ⊢
   rcases l.inv.l0 bu e.id (V0.group pid)with⟨_,_,_,_,_,e0,_⟩|⟨_,e0,_⟩|⟨e0,hb⟩
   ·exact absurd e0 w
   ·exact absurd e0 y
   ·refine⟨e0,λc=>?_⟩;rcases h.inv.l0 bu e.id (V.group pid)with⟨_,_,_,_,_,j,_⟩|⟨_,_,u,_⟩|⟨j,_⟩
    ·rw[j]at c;cases c
    ·rcases hb with hb|hb
     ·have A:V0.space pid=some s:=by rw[ti z,bJ ef];exact k
      obtain⟨q,C⟩:=Fy l A he;exact hb ⟨q,C,l.inv.anon _ _ C (l.own _ _ _ _ _ _ (iu A).2 he hw hk _ C)⟩
     ·rw[tj z pid]at hb;exact Base.j2 b0 hb u
    ·rw[j]at c;cases c
 |none=>
  dsimp only;have v:∀S g,Kc.Inv S->S.bt.next<16777216->((λ(S:Cs) g=>S.fresh g) S g).2.2.2≠0->gv S ((λ(S:Cs) g=>S.fresh g) S g).1:=λS g G hx d=>by
   dsimp only at d ⊢;rcases G.j1 hx g with⟨_,_,_,_,_,e0,_⟩|⟨D,_⟩|⟨e0,_⟩
   ·exact absurd e0 d
   ·exact D
   ·rw[e0];exact gv.refl S
  rcases yR (f:=λ(S:Cs) g=>S.fresh g) (λS g=>Path.fresh g) v h hn (by rw[k];rfl) o with⟨K,W,hK,hp,ef,a,E,b,f0,i,_⟩|⟨K,W,err,hK,hp,a,b,i,m⟩
  ·rw[i];dsimp only at f0 ⊢;have eS:=RR a.inv (g:=W.group pid) bu f0;have B:=a.inv.fresh bu (W.group pid);rcases a.inv.j1 bu (W.group pid)with⟨x,hm,hx,h1,t,e0,_⟩|⟨_,e0,_⟩|⟨e0,_⟩
   ·generalize W.core.fresh (W.group pid)=r at*
    exact j4 a B b hm.toBase k hK ef hp hw he eS (.inl rfl) (a.refs.made hm).1 (fI.made a hm) hx h1 (.inr t)
   ·rw[e0]at f0;cases f0
   ·rw[e0]at f0;cases f0
  ·rw[i];dsimp only;refine Fz (f:=λS g=>S.fresh g) (n:=V.procs.length+1) hK hp a b rfl m (λV0 l z ef b0 H w y=>?_);try dsimp only at w y ⊢
   rcases l.inv.j1 bu (V0.group pid)with⟨_,_,_,_,_,e0,_⟩|⟨_,e0,_⟩|⟨e0,hb⟩
   ·exact absurd e0 w
   ·exact absurd e0 y
   ·refine⟨e0,λc=>?_⟩;rcases h.inv.j1 bu (V.group pid)with⟨_,_,_,_,_,j,_⟩|⟨_,_,u,_⟩|⟨j,_⟩
    ·rw[j]at c;cases c
    ·rcases hb with hb|hb;·exact hb
     ·rw[tj z pid]at hb;exact Base.j2 b0 hb u
    ·rw[j]at c;cases c
def alive(p:PP):Bool:=p.2.isSome
inductive lF(P P':bA PP)(K:bS):Prop
 |same (hl:P'.length=P.length) (h:∀i:Nat,(P'[i]?).map alive=(P[i]?).map λp=>alive p&&decide ((i:Int)∉K))
 |more (x:PP) (hx:alive x=true) (hK:K= []) (h:P'=P++[x])
structure fJ(V:Vs)(o:dx)(r:Vs×cF):Prop where
 yT:eb r.1
 kill:hW V r.2.bH
 FA:lF V.procs r.1.procs (r.2.bH++if o.kind=11/\r.2.err=0 then[o.a]else[])
 exit:o.kind=11/\r.2.err=0->(V.space o.a).isSome=true/\r.2.bH= []
 bad:r.2.err≠0->r.2.err≠12->r.2.err≠13->r.1=V/\r.2.n=0/\r.2.bH= []
def FB(P:bA PP):lF P P []:=.same rfl λi=>by cases P[i]? <;>simp
def FD{P P':bA PP}(hl:P'.length=P.length)(h:∀i:Nat,(P'[i]?).map alive=(P[i]?).map alive):lF P P' []:=.same hl λi=>by rw[h];cases P[i]? <;>simp
def fJ.id(h:eb V){o:dx}{e:Int}(he:e≠0\/o.kind≠11):fJ V o (V,.bad e):=by
 refine⟨h,hW.nil V,?_,λc=>?_,λ_ _ _=>⟨rfl,rfl,rfl⟩⟩
 ·rw[bJ];·exact FB _
  ·rintro⟨a,b⟩;rcases he with he|he;·exact he b
   ·exact he a
 ·rcases he with he|he;·exact absurd c.2 he
  ·exact absurd c.1 he
def fJ.core(h:eb V){o:dx}{S:Cs}{a:cF}(t:Kc.Inv S)(hk:o.kind≠11)(d:∀x,(S.bt.pg x).map kr=(V.core.bt.pg x).map kr)(f:a.bH= [])(hb:a.err≠0->a.err≠12->a.err≠13->S=V.core/\a.n=0):fJ V o ({V with core:=S},a):=by
 refine⟨⟨⟨t,h.sp,h.fk⟩,λx=>by rw[Fq (d x)];exact h.refs x,h.g6,λi g s q e x n he hw m p hp=>?_⟩,by rw[f];exact hW.nil V,?_,λc=>absurd c.1 hk,λj k l=>⟨?_,(hb j k l).2,f⟩⟩
 ·have:=d e.id;have hp:S.bt.pg e.id=some p:=hp;rw[hp]at this;cases b:V.core.bt.pg e.id with
  |none=>rw[b]at this;cases this
  |some r=>
   rw[b]at this;have e0:kr p=kr r:=cR this;unfold kr at e0;simp only[ot]at e0;rw[e0.1];exact h.own _ _ _ _ _ _ n he hw m _ b
 ·rw[f,bJ (λc=>hk c.1)];exact FB _
 ·rw[(hb j k l).1]
def aFm{S:Cs}(g a n:Int)(h:(S.cB g a n).2≠0):(S.cB g a n).1=S:=by
 unfold Cs.cB at h ⊢;split at h<;>rename_i h1;·rw[bK h1]
 rw[bJ h1];split at h<;>rename_i h2;·rw[bK h2]
 rw[bJ h2];split at h<;>rename_i e;·exact absurd rfl h
 rw[bJ e];split at h<;>rename_i f;·exact absurd rfl h
 rw[bJ f];split at h<;>rename_i d
 ·rw[bK d];unfold j6 at h ⊢;dsimp only at h ⊢;split at h<;>rename_i b;·exact absurd rfl h
  ·rw[bJ b]
 rw[bJ d];split at h<;>rename_i b
 ·rw[bK b];unfold j6 at h ⊢;dsimp only at h ⊢;split at h<;>rename_i c;·exact absurd rfl h
  ·rw[bJ c]
 rw[bJ b];split at h<;>rename_i c
 ·rw[bK c];split at h<;>rename_i i;·rw[bK i]
  ·exact absurd rfl h
 rw[bJ c]
def aBS(S:Cs)(g a n:Int):(S.cB g a n).1.bt=S.bt:=by
 unfold Cs.cB Cs.iL;repeat' split
 all_goals rfl
def aEj(h:eb V)(o:dx)(hk:o.kind=0):fJ V o (V.act o):=by
 unfold Vs.act;rw[bK hk];refine fJ.core h (h.inv.cn _) bu (λx=>?_) rfl (λhe _ _=>?_);·unfold Cs.cn;dsimp only;split<;>rfl
 ·dsimp only at he ⊢;unfold Cs.cn at he ⊢;dsimp only at he ⊢;split at he<;>rename_i h1;·exact absurd h1 he
  ·rw[bJ h1];refine⟨rfl,?_⟩;unfold gh at h1 ⊢;split at h1<;>rename_i h2;·rw[bK h2];rfl
   rw[bJ h2];split at h1<;>rename_i a;·rw[bK a];rfl
   rw[bJ a];split at h1<;>rename_i b;·rw[bK b];rfl
   ·exact absurd rfl h1
def aFH{S:Cs}(h:Kc.Inv S)(g x:Int):((S.remove g).1.bt.pg x).map kr=(S.bt.pg x).map kr:=by
 unfold Cs.remove;dsimp only;split
 ·show((S.bt.dv (S.bt.eo g) (pa S.tree g)).pg x).map kr=_;rw[w4 h.cH,wj];cases S.bt.pg x with
  |none=>rfl
  |some p=>rw[gg,gg];show some (kr (if _ then _ else _))=_;split<;>rfl
 ·rfl
def aC8(h:eb V)(o:dx)(hk:o.kind=1):fJ V o (V.act o):=by
 unfold Vs.act;rw[cD,bK hk];split;·exact fJ.id h (.inr bu)
 ·refine fJ.core h (h.inv.remove _) bu (aFH h.inv _) rfl (λhe _ _=>⟨?_,rfl⟩);have he:(V.core.remove o.a).2≠0:=he;unfold Cs.remove at he ⊢;dsimp only at he ⊢;split at he<;>rename_i h1;·exact absurd rfl he
  ·rw[bJ h1]
def aEk(h:eb V)(o:dx)(hk:o.kind=2):fJ V o (V.act o):=by
 unfold Vs.act;rw[cD,cD,bK hk];exact fJ.core h (h.inv.cB _ _ _) bu (λx=>by rw[aBS]) rfl (λhe _ _=>⟨aFm _ _ _ he,rfl⟩)
def tk{P:bA PP}{x:PP}{i:Nat}{g:Int}{s:Sp}(h:(P++[x])[i]?=some (g,some s)):P[i]?=some (g,some s)\/x=(g,some s):=by
 rcases hN i P.length with a|a;·rw[eM a]at h;exact .inl h
 ·rw[fM a]at h;rcases k2 (i-P.length)with b|b;·rw[b]at h;exact .inr (cR h)
  ·rw[gQ (by simp;omega)]at h;cases h
def SH(P:bA PP)(x:PP)(y:Int):(fX (P++[x])).count y=(fX P).count y+(ke x).count y:=by
 unfold fX;rw[FZ,wa];simp
def aEl(h:eb V)(o:dx)(hk:o.kind=3):fJ V o (V.act o):=by
 unfold Vs.act;rw[cD,cD,cD,bK hk];split;·exact fJ.id h (.inr bu)
 split;·exact fJ.id h (.inr bu)
 refine⟨⟨⟨h.inv,λi g s a=>?_,by show(V.procs++[_]).length<=64;rw[dd];simp only[l3];omega⟩,h.refs.congr λx=>?_,λi g s q e a he=>?_,λi g s q e x a he hw b p hp=>?_⟩,hW.nil V,?_,λc=>bu,λc _ _=>absurd rfl c⟩
 ·rcases tk a with a|a;·exact h.sp _ _ _ a
  ·cases a;exact fC.new
 ·show(fX (V.procs++[_])).count x=_;rw[SH];rfl
 ·rcases tk a with a|a;·exact h.g6 _ _ _ _ _ a he
  ·cases a;unfold Sp.entry at he;split at he<;>cases he
 ·rcases tk a with a|a;·exact h.own _ _ _ _ _ _ a he hw b p hp
  ·cases a;unfold Sp.entry at he;split at he<;>cases he
 ·rw[cD];exact .more _ rfl rfl rfl
def aH3(h:eb V)(o:dx)(hk:o.kind=12):fJ V o (V.act o):=by
 unfold Vs.act;rw[cD,cD,cD,cD,bK hk];exact fJ.core h (h.inv.dt _) bu (λx=>rfl) rfl (λhe _ _=>absurd rfl he)
def aC9(h:eb V)(o:dx)(hk:o.kind=13):fJ V o (V.act o):=by
 unfold Vs.act;rw[cD,cD,cD,cD,cD,bK hk];exact fJ.core h (h.inv.shrink _ _) bu ((A5 h.inv _ _).gF h.inv).kr rfl (λhe _ _=>absurd rfl he)
def yU{P:bA PP}{i:Nat}{g a:Int}{s s1:Sp}(h:P[i]?=some (g,some s))(j:Nat):((P.set i (a,some s1))[j]?).map alive=(P[j]?).map alive:=by
 rw[hd];split
 ·next e=>
  subst e;rw[bK (cZ.1 h).1,h];rfl
 ·rfl
def FE(P:bA PP)(K:bS):lF P (hL K P) K:=.same (SB _ _) λi=>by
 rw[oZ,wj];cases P[i]? with
 |none=>rfl
 |some p=>
  rw[gg,gg];show some (alive (if _ then _ else _))=_;split<;>rename_i h;·simp[alive,h]
  ·simp[h]
def aGO{P:bA PP}{K:bS}{i:Nat}{g b:Int}{s s1:Sp}(h:(hL K P)[i]?=some (g,some s)):lF P ((hL K P).set i (b,some s1)) K:=by
 cases FE P K with
 |same hl a=>exact .same (by rw[dW];exact hl) λj=>by rw[yU h];exact a j
 |more x hx hK a=>exact absurd (eJ List.length a) (by rw[SB,dd];simp)
def eb.fB(h:eb V)(t:V.space pid=some s)(g:Int){s1:Sp}(l:fC s1)(r:∀x,(g1 s1).count x=(g1 s).count x)(hw:∀q e,s1.entry q=some e->∃f,s.entry q=some f/\f.id=e.id/\((s.cw q).isSome=true->∃x y,s1.cw q=some x/\s.cw q=some y/\x.kind=y.kind)):eb {V with procs:=V.procs.set pid.toNat (g,some s1)} :=by
 obtain⟨w,hp⟩:=iu t;have k:=(cZ.1 hp).1;refine⟨⟨h.inv,λi o s' a=>?_,by show(V.procs.set _ _).length<=64;rw[dW];exact h.fk⟩,h.refs.congr λx=>?_,?_,?_⟩
 ·have a:(V.procs.set pid.toNat (g,some s1))[i]?=some (o,some s'):=a;rw[hd]at a;split at a
  ·try rw[bK k]at a
   cases a;exact l
  ·exact h.sp _ _ _ a
 ·have u:=nX (x:=x) (p':=(g,some s1)) hp;have v:(ke (g,some s1)).count x=(ke (V.group pid,some s)).count x:=r x;show(fX (V.procs.set pid.toNat (g,some s1))).count x=_;omega
 ·refine lE.j3 (P:=V.procs) h.g6 λq e he=>?_;obtain⟨f,b,_,d⟩:=hw q e he;obtain⟨x,y,h1,_⟩:=d (h.g6 _ _ _ _ _ hp b);rw[h1];rfl
 ·refine fI.j3 (P:=V.procs) h.own λq e x he m j z c=>?_;obtain⟨f,b,n,d⟩:=hw q e he;obtain⟨A,y,h1,h2,p⟩:=d (h.g6 _ _ _ _ _ hp b);rw[m]at h1;cases h1;rw[<- n]at c;exact h.own _ _ _ _ _ _ hp b h2 (by rw[<- p];exact j) _ c
def FF(h:s.entry p=none):s.cm p=s:=by unfold Sp.cm;rw[h]
def FG{e:En}(h:s.entry p=some e):s.cm p= {s with cH:=eZ s.cH p.toNat {e with tc:=true}} :=by unfold Sp.cm;rw[h]
def aB6(a:fC s)(q:Int):((s.cm p).entry q).map En.id=(s.entry q).map En.id:=by
 cases he:s.entry p with
 |none=>rw[FF he]
 |some e=>
  rw[FG he];obtain⟨d,_,_,c⟩:=a.entry he;unfold Sp.entry;split
  ·dsimp only;rw[u2 a.cH.cX];split;·next b=>rw[b,c];rfl
   ·rfl
  ·rfl
def aB5(a:fC s)(x:Int):(g1 (s.cm p)).count x=(g1 s).count x:=by
 cases he:s.entry p with
 |none=>rw[FF he]
 |some e=>
  rw[FG he];obtain⟨c,_,_,b⟩:=a.entry he;have:=Fw (p:=p.toNat) (e:={e with tc:=true}) x a.cH.cX;rw[b]at this;unfold g1;dsimp only at this ⊢;omega
def aDO:(s.cm p).dp=s.dp:=by
 cases he:s.entry p with
 |none=>rw[FF he]
 |some e=>rw[FG he]
def eb.cm(h:eb V)(b:V.space pid=some s)(p:Int):eb (V.cm pid p)/\(V.cm pid p).procs=V.procs.set pid.toNat (V.group pid,some (s.cm p)):=by
 have a:=h.sp _ _ _ (iu b).2;have e:V.cm pid p= {V with procs:=V.procs.set pid.toNat (V.group pid,some (s.cm p))} :=by unfold Vs.cm;rw[b];rfl
 rw[e];refine⟨h.fB b _ (a.cm p) (aB5 a) λq e he=>?_,rfl⟩;have:=aB6 (p:=p) a q;rw[he]at this;cases hf:s.entry q with
 |none=>rw[hf]at this;cases this
 |some f=>
  rw[hf]at this;refine⟨f,rfl,(cR this).symm,λc=>?_⟩;obtain⟨y,d⟩:=kX.1 c;exact⟨y,y,by rw[vS aDO];exact d,d,rfl⟩
structure iT(V:Vs)(pid:Int)(r:Vs×cF):Prop where
 yT:eb r.1
 kill:hW V r.2.bH
 FA:lF V.procs r.1.procs r.2.bH
 bad:r.2.err≠0->r.2.err≠12->r.2.err≠13->r.1=V/\r.2.n=0/\r.2.bH= []
def iT.hX(h:eb V)(e:Int):iT V pid (V,.bad e):=⟨h,hW.nil V,FB _,λ_ _ _=>⟨rfl,rfl,rfl⟩⟩
def o0.call{q:Vs×cF×bV Int}(m:V.space pid=some s)(d:o0 V pid p s .zero q){F:Vs->Int->Vs}{N:Vs->Int->Int->Int}(t:∀V1 id s1,eb V1->V1.space pid=some s1->∃g s2,(F V1 id).procs=V1.procs.set pid.toNat (g,some s2)/\eb (F V1 id)):
  iT V pid (match q.2.2 with|none=>(q.1,q.2.1)|some id=>(F q.1 id, {q.2.1 with n:=N q.1 id q.2.1.n})):=by
 rcases d with⟨K,V1,id,s1,e,hK,ef,h,hp,hr,he,eS,x,hx,h1,b,rfl⟩|⟨K,W,err,hK,hp,h,b,rfl,he⟩
 ·dsimp only;have f:=SD m ef;have l:=(cZ.1 f).1;have o:V1.procs[pid.toNat]?=some (V.group pid,some s1):=by rw[hp,jd l]
  have j:V1.space pid=some s1:=by
   have:=(jw o).1;rwa[show((pid.toNat:Nat):Int)=pid by have:=(iu m).1;omega]at this
  obtain⟨g,s2,i,u⟩:=t V1 id s1 h j;refine⟨u,hK,?_,λk _ _=>absurd rfl k⟩;dsimp only;rw[i,hp,List.set_set];exact aGO f
 ·dsimp only;refine⟨h,hK,by dsimp only;rw[hp];exact FE _ _,λk i r=>?_⟩;rcases he with⟨a,_⟩|⟨a,_⟩|⟨_,a,c⟩
  ·exact absurd a i
  ·exact absurd a r
  ·subst a;exact⟨c,rfl,rfl⟩
def aFn(h:eb V)(hn:V.core.bt.next+(V.procs.length+1)<16777216)(f:V.space pid=some s)(b:Int):iT V pid (V.load pid s b):=by
 unfold Vs.load;dsimp only;cases hw:s.cw (b/16)with
 |none=>exact iT.hX h 14
 |some x=>
  dsimp only;split;·exact iT.hX h 14
  split;·exact iT.hX h 0
  next c=>
  have g:=h.sp _ _ _ (iu f).2;have a:=(sZ g hw).2.2.1;have hk:s.entry (b/16)=none->x.kind=2:=λe=>by
   rw[e]at c;unfold Rg.valid at a;rw[dy]at a;split at a;·next h1=>exact absurd ⟨rfl,h1⟩ c
   ·split at a;·assumption
    ·exact absurd a.2 bN
  have d:=SG h hn f hw hk .zero;exact d.call f (F:=λV1 id=> {V1 with core:=(V1.core.get id (b%16)).1}.cm pid (b/16)) (N:=λV1 id _=>(V1.core.get id (b%16)).2.1) λV1 id s1 m i=>by
   have j:eb {V1 with core:=(V1.core.get id (b%16)).1} :=m.core (aFf _ _) (m.inv.get _ _);obtain⟨k,e⟩:=eb.cm j (s:=s1) (pid:=pid) i (b/16);exact⟨_,_,e,k⟩
def aDL(h:eb V)(hn:V.core.bt.next+(V.procs.length+1)<16777216)(a:V.space pid=some s)(b c:Int):iT V pid (V.store pid s b c):=by
 unfold Vs.store;dsimp only;split;·exact iT.hX h 1
 cases hw:s.cw (b/16)with
 |none=>exact iT.hX h 14
 |some x=>
  dsimp only;split;·exact iT.hX h 14
  split;·exact iT.hX h 15
  have d:o0 V pid (b/16) s .zero (if x.kind=2 then V.there pid (b/16) s x .zero else V.own pid (b/16) s .zero):=by
   split;·next hk=>exact SG h hn a hw (λ_=>hk) .zero
   ·next hk=>exact aHd h hn a hw hk .zero
  generalize (if x.kind=2 then V.there pid (b/16) s x .zero else V.own pid (b/16) s .zero)=q at d;exact d.call a (F:=λV1 id=> {V1 with core:=(V1.core.put id (b%16) (UInt8.ofNat c.toNat)).1}.cm pid (b/16)) (N:=λV1 id n=>n) λV1 id s1 m f=>by
   have g:eb {V1 with core:=(V1.core.put id (b%16) (UInt8.ofNat c.toNat)).1} :=m.core (aFD _ _ _) (m.inv.put _ _ _);obtain⟨i,e⟩:=eb.cm g (s:=s1) (pid:=pid) f (b/16);exact⟨_,_,e,i⟩
def SI:∀ {l:bA Rg} {a:Int},e8 a l=true->(∀x∈l,a<=x.a/\x.a<x.b)/\l.Pairwise λx y=>x.b<=y.a
 |[],_,_=>⟨(λ_ h=>by cases h),List.Pairwise.nil⟩
 |x::l,a,h=>by
  simp only[e8,dy,gw]at h;obtain⟨⟨c,d⟩,hr⟩:=h;obtain⟨h1,h2⟩:=SI hr;have hx:x.a<x.b:=by
   unfold Rg.valid at c;rw[dy,gw]at c;exact c.1.2.1
  refine⟨λy b=>?_,g7.2 ⟨λy b=>(h1 y b).1,h2⟩⟩;rcases ew.1 b with rfl|b;·exact⟨d,hx⟩
  ·have:=h1 y b;omega
def SJ{l:bA Rg}{q:Int}{x:Rg}(h:jP l q=some x):x∈l/\x.has q=true:=by
 unfold jP at h;split at h;·exact⟨eI h,ye (q:=λx=>x.has q) h⟩
 ·cases h
def SK{l:bA Rg}(hr:e8 0 l=true){q:Int}{x:Rg}(hx:x∈l)(b:x.has q=true):jP l q=some x:=by
 unfold jP;rw[bK hr];obtain⟨i,a⟩:=SZ hx;have:=DE (q:=λx:Rg=>x.has q) a b (λj y h k=>by
  cases c:y.has q with
  |false=>rfl
  |true=>
   exfalso;have hp:=(SI hr).2;obtain⟨f,g⟩:=cZ.1 k;obtain⟨d,e⟩:=cZ.1 a;have:=m8.1 hp j i f d h;rw[g,e]at this;unfold Rg.has at c b;simp at c b;omega)
 rw[this];exact a
def aH6{l:bA Rg}{x y:Rg}(a:y∈l):y∈(eB l x).1:=by
 unfold eB;dsimp only;have key:∀n,y∈l.take n++x::l.drop n:=λn=>by
  rw[<- fK n l]at a;rcases gH.1 a with h|h;·exact gH.2 (.inl h)
  ·exact gH.2 (.inr (fY _ h))
 split;·exact a
 split
 ·split;·exact a
  ·exact key _
 ·exact key _
def aGN{l:bA Rg}(hr:e8 0 l=true){a b q:Int}(k:e8 0 (gX l a b)=true)(p:¬ (a<=q/\q<b)){y:Rg}(m:jP l q=some y):∃x,jP (gX l a b) q=some x/\x.kind=y.kind:=by
 obtain⟨hm,h⟩:=SJ m;have i:y.a<=q/\q<y.b:=by unfold Rg.has at h;simpa using h
 have g:∀c d:Int,c<=q/\q<d->prt y c d∈fF y c d/\(prt y c d).has q=true/\(prt y c d).kind=y.kind:=λc d n=>by
  unfold fF;rw[eK];refine⟨ia.2 rfl,?_,rfl⟩;unfold Rg.has prt;simp;omega
 have mk:∀x,x∈fq a b y->x.has q=true->x.kind=y.kind->∃x,jP (gX l a b) q=some x/\x.kind=y.kind:=λx hx j hk=>by
  refine⟨x,SK k ?_ j,hk⟩;unfold gX;rw[bK hr];exact y3.2 ⟨y,hm,hx⟩
 by_cases f:b<=a
 ·obtain⟨h1,h2,e⟩:=g y.a y.b i;exact mk _ (by unfold fq;rw[bK f];exact h1) h2 e
 ·by_cases o:q<a
  ·obtain⟨h1,h2,e⟩:=g y.a (min y.b a) bu;exact mk _ (by unfold fq;rw[bJ f];exact gH.2 (.inl h1)) h2 e
  ·obtain⟨h1,h2,e⟩:=g (max y.a b) y.b bu;exact mk _ (by unfold fq;rw[bJ f];exact gH.2 (.inr h1)) h2 e
def aHj{l:bA Rg}{x:Rg}(h:(eB l x).2≠0):(eB l x).1=l:=by
 unfold eB at h ⊢;dsimp only at h ⊢;split at h<;>rename_i h1;·rw[bK h1]
 rw[bJ h1];split at h
 ·split at h<;>rename_i h2;·rw[bK h2]
  ·exact absurd rfl h
 ·exact absurd rfl h
def SL(h:eb V)(c:V.space pid=some s)(x:Rg):iT V pid (V.map pid s x):=by
 obtain⟨k,hp⟩:=iu c;have a:=h.sp _ _ _ hp;have b:e8 0 (s.map x).1.dp=true:=O9 a.g6;unfold Vs.map;refine⟨?_,hW.nil V,?_,λg _ _=>⟨?_,rfl,rfl⟩⟩
 ·refine h.fB c _ (s1:=(s.map x).1) ⟨a.cH,b⟩ (λ_=>rfl) λq e he=>⟨e,he,rfl,λd=>?_⟩
  obtain⟨y,f⟩:=kX.1 d;obtain⟨hm,j⟩:=SJ f;exact⟨y,y,SK b (aH6 hm) j,f,rfl⟩
 ·exact FD (by show(V.procs.set _ _).length=_;rw[dW]) (yU hp)
 ·have i:(s.map x).1=s:=by
   unfold Sp.map;have:(eB s.dp x).2≠0:=g;rw[aHj this]
  dsimp only;rw[i];show(⟨V.core,V.procs.set pid.toNat (V.group pid,some s)⟩:Vs)=V;rw[tg hp]
def aDQ(h:eb V)(D:V.space pid=some s)(a b:Int):iT V pid ({V.fB pid (some (s.cut a b).1)with core:=ed (s.cut a b).2 V.core},⟨0,(s.cut a b).2.length,[]⟩):=by
 obtain⟨K,hp⟩:=iu D;have f:=h.sp _ _ _ hp;have n:=(cZ.1 hp).1;have g:=f.cut a b;have u:∀x,(g1 s).count x=(g1 (s.cut a b).1).count x+((s.cut a b).2).count x:=λx=>by
  unfold g1;show _=((s.cH.filter λq=> !hq a b q.1).map _).count x+((s.cH.filter λq=>hq a b q.1).map λq=>(q.2.id:Int)).count x;generalize s.cH=T;induction T with
  |nil=>rfl
  |cons q T z=>
   by_cases j:hq a b q.1=true;·rw[List.filter_cons_of_neg (p:=λq:Nat×En=> !hq a b q.1) (by simp[j]),List.filter_cons_of_pos (p:=λq:Nat×En=>hq a b q.1) j,kh,kh,we,we,z];omega
   ·rw[List.filter_cons_of_pos (p:=λq:Nat×En=> !hq a b q.1) (by simpa using j),List.filter_cons_of_neg (p:=λq:Nat×En=>hq a b q.1) j,kh,kh,we,we,z];omega
 have l:∀x,(fX (V.procs.set pid.toNat (V.group pid,some (s.cut a b).1))).count x+((s.cut a b).2).count x=(fX V.procs).count x:=λx=>by
  have H:=nX (x:=x) (p':=(V.group pid,some (s.cut a b).1)) hp;have I:(ke (V.group pid,some s)).count x=(g1 s).count x:=rfl;have J:(ke (V.group pid,some (s.cut a b).1)).count x=(g1 (s.cut a b).1).count x:=rfl;have:=u x;omega
 obtain⟨r,G⟩:=Fs (s.cut a b).2 h.inv h.inv.ids h.refs (λx=>by have:=l x;omega) h.small;have F:=((vM (s.cut a b).2 V.core).inv h.inv (by have:=h.inv.ids;omega)).1;have d:∀q e,(s.cut a b).1.entry q=some e->s.entry q=some e/\¬ (a<=q/\q<b):=λq e he=>by
  unfold Sp.entry at he;split at he
  ·next t=>
   have hm:=sV he;have hm:(q.toNat,e)∈s.cH.filter λq=> !hq a b q.1:=hm;obtain⟨h1,h2⟩:=gG.1 hm;refine⟨by unfold Sp.entry;rw[bK t];exact sW f.cH.cX h1,λE=>?_⟩;unfold hq at h2;simp at h2;omega
  ·cases he
 have k:∀q e,(s.cut a b).1.entry q=some e->∃x y,(s.cut a b).1.cw q=some x/\s.cw q=some y/\x.kind=y.kind:=λq e he=>by
  obtain⟨h1,h2⟩:=d q e he;obtain⟨y,w⟩:=kX.1 (h.g6 _ _ _ _ _ hp h1);obtain⟨x,hx,hk⟩:=aGN f.g6 g.g6 h2 w;exact⟨x,y,hx,w,hk⟩
 refine⟨⟨⟨F,λi B s' c=>?_,by show(V.procs.set _ _).length<=64;rw[dW];exact h.fk⟩,r.congr λx=>?_,?_,?_⟩,hW.nil V,?_,λA _ _=>absurd rfl A⟩
 ·have c:(V.procs.set pid.toNat (V.group pid,some (s.cut a b).1))[i]?=some (B,some s'):=c;rw[hd]at c;split at c
  ·try rw[bK n]at c
   cases c;exact g
  ·exact h.sp _ _ _ c
 ·show(fX (V.procs.set pid.toNat (V.group pid,some (s.cut a b).1))).count x=_;have:=l x;omega
 ·refine lE.j3 (P:=V.procs) h.g6 λq e he=>?_;obtain⟨x,y,h1,_⟩:=k q e he;rw[h1];rfl
 ·refine fI.j3 (P:=V.procs) (fI.kf h.own (Kf.ed _ h.inv)) λq e x he v m L o=>?_;obtain⟨M,y,h1,h2,C⟩:=k q e he;rw[v]at h1;cases h1;exact(fI.kf h.own (Kf.ed _ h.inv)) _ _ _ _ _ _ hp (d q e he).1 h2 (by rw[<- C];exact m) _ o
 ·exact FD (by show(V.procs.set _ _).length=_;rw[dW]) (yU hp)
def Kf.dD:∀(ids:bS) {S:Cs},Kc.Inv S->Kf S (dD ids S)
 |[],_,_=> λ_ q a=>⟨q,a,rfl⟩
 |y::l,_,b=>(Kf.bO b y 1).trans (Kf.dD l (b.bO y 1))
def aFb(h:eb V)(j:V.space pid=some s)(hf:¬ 64<=V.procs.length):iT V pid ({core:=dD (s.ids 0 65536) V.core,procs:=V.procs++[(V.group pid,some s)]},⟨0,V.procs.length,[]⟩):=by
 obtain⟨m,hp⟩:=iu j;have b:=h.sp _ _ _ hp;have hl:(s.ids 0 65536).length<=65536:=by rw[vP b];unfold g1;rw[ei];exact Go.Mp.gO b.cH
 obtain⟨r,l⟩:=SA (s.ids 0 65536) h.inv h.inv.ids h.refs (λx hx=>by
  rw[vP b]at hx;exact lI (List.count_pos_iff.2 hx) (count_le hp)) (λx=>by
  have:=Ft (x:=x) h.sp;have:=h.fk;omega)
 have k:=((Fj (s.ids 0 65536) V.core).inv h.inv (by have:=h.inv.ids;omega)).1;refine⟨⟨⟨k,λi g s' a=>?_,by show(V.procs++[_]).length<=64;rw[dd];simp only[l3];omega⟩,r.congr λx=>?_,λi g s' q e a he=>?_,λi g s' q e x a he hw c p d=>?_⟩,hW.nil V,.more _ rfl rfl rfl,λf _ _=>absurd rfl f⟩
 ·rcases tk a with a|a;·exact h.sp _ _ _ a
  ·cases a;exact b
 ·show(fX (V.procs++[_])).count x=_;rw[SH,vP b];rfl
 ·rcases tk a with a|a;·exact h.g6 _ _ _ _ _ a he
  ·cases a;exact h.g6 _ _ _ _ _ hp he
 ·rcases tk a with a|a;·exact(fI.kf h.own (Kf.dD _ h.inv)) _ _ _ _ _ _ a he hw c p d
  ·cases a;exact(fI.kf h.own (Kf.dD _ h.inv)) _ _ _ _ _ _ hp he hw c p d
def aBH(h:eb V)(a:V.space pid=some s)(g:Int):iT V pid ({V with procs:=V.procs.set pid.toNat (g,some s)},.zero):=by
 obtain⟨f,hp⟩:=iu a;refine⟨h.fB a g (h.sp _ _ _ hp) (λ_=>rfl) λq e he=>⟨e,he,rfl,λb=>?_⟩,hW.nil V,FD (by show(V.procs.set _ _).length=_;rw[dW]) (yU hp),λd _ _=>absurd rfl d⟩;obtain⟨y,c⟩:=kX.1 b;exact⟨y,y,c,c,rfl⟩
def aIC(h:eb V)(hn:V.core.bt.next+(V.procs.length+1)<16777216){o:dx}(a:V.space o.a=some s)(hk:4<=o.kind/\o.kind<=10):iT V o.a (V.call s o):=by
 unfold Vs.call;dsimp only;split
 ·split;·exact aBH h a _
  ·exact iT.hX h 2
 split
 ·split;·exact SL h a _
  ·exact iT.hX h 1
 split
 ·split
  ·split;·exact iT.hX h 1
   ·exact SL h a _
  ·exact iT.hX h 1
 split
 ·split;·exact aDQ h a _ _
  ·exact iT.hX h 1
 split;·exact aFn h hn a _
 split;·exact aDL h hn a _ _
 split
 ·split;·exact iT.hX h 3
  ·next hf=>exact aFb h a hf
 ·omega
def FH(h:eb V)(hn:V.core.bt.next+(V.procs.length+1)<16777216)(o:dx):fJ V o (V.act o):=by
 by_cases l:o.kind=0;·exact aEj h o l
 by_cases h1:o.kind=1;·exact aC8 h o h1
 by_cases h2:o.kind=2;·exact aEk h o h2
 by_cases n:o.kind=3;·exact aEl h o n
 by_cases f:o.kind=12;·exact aH3 h o f
 by_cases g:o.kind=13;·exact aC9 h o g
 by_cases hm:o.kind<0\/13<o.kind;·rw[R8 ⟨hm,trivial⟩];exact fJ.id h (.inl bN)
 rw[yL ⟨bu,bu⟩];cases i:V.space o.a with
 |none=>exact fJ.id h (.inl bN)
 |some s=>
  dsimp only;by_cases a:o.kind=11
  ·have e:V.call s o=(V.exit o.a,.zero):=by
    unfold Vs.call;dsimp only;rw[cD,cD,cD,cD,cD,cD,cD]
   rw[e];obtain⟨m,_,pr⟩:=h.exit o.a;refine⟨m,hW.nil V,?_,λ_=>⟨by rw[i];rfl,rfl⟩,λj _ _=>absurd rfl j⟩;rw[bK ⟨a,rfl⟩];show lF V.procs (V.exit o.a).procs [o.a];rw[pr];exact FE _ _
  ·obtain⟨m,k,d,b⟩:=aIC h hn i ⟨bu,bu⟩;refine⟨m,k,?_,λc=>absurd c.1 a,b⟩;rw[bJ (λc=>a c.1),hv];exact d
def gz{V:Vs}(h:eb V)(hn:V.core.bt.next+(V.procs.length+1)<16777216)(o:dx):(V.act o).1.core.bt.next<=V.core.bt.next+66:=by
 have fk:=h.fk;by_cases hk:o.kind≠0/\o.kind≠1/\o.kind≠2;·have:=((aGn hk).inv h.inv bu).2.2;omega
 ·unfold Vs.act;by_cases a:o.kind=0
  ·rw[bK a];have:=((cq.cn (S:=V.core) o.a).inv h.inv bu).2.2;show(V.core.cn o.a).1.bt.next<=_;omega
  by_cases h1:o.kind=1
  ·rw[bJ a,bK h1];split;·show V.core.bt.next<=_;omega
   ·have:=((cq.remove (S:=V.core) o.a).inv h.inv bu).2.2;show(V.core.remove o.a).1.bt.next<=_;omega
  ·have h2:o.kind=2:=rD λh2=>hk ⟨a,h1,h2⟩;rw[bJ a,bJ h1,bK h2];have:=((cq.cB (S:=V.core) o.a o.b o.c).inv h.inv bu).2.2;show(V.core.cB o.a o.b o.c).1.bt.next<=_;omega
def bad(a:cF):Prop:=a.err=12\/a.err=13\/a.bH≠ []
def SM{f:Cs->Int->Cs×Int×Int×Int}:∀(n:Nat) (V:Vs) (o:cF),o.bH≠ []->(fy f pid n V o).2.1.bH≠ []
 |0,_,_,h=>h
 |n+1,V,o,h=>by
  rw[nM];dsimp only;generalize f V.core (V.group pid)=r;split;·exact h
  split;·exact h
  generalize dead {V with core:=r.1} r.2.2.1=d;split;·exact λe=>h (yV.1 e).1
  split;·exact λe=>h (yV.1 e).1
  exact SM n _ _ (λe=>h (yV.1 e).1)
def tl(f:Cs->Int->Cs×Int×Int×Int)(pid:Int)(V:Vs):bad (V.dR f pid .zero).2.1\/((f V.core (V.group pid)).2.2.2≠12/\V.dR f pid .zero=({V with core:=(f V.core (V.group pid)).1},⟨(f V.core (V.group pid)).2.2.2,0,[]⟩,if(f V.core (V.group pid)).2.2.2=0 then some (f V.core (V.group pid)).2.1 else none)):=by
 unfold Vs.dR;rw[nM];dsimp only;generalize f V.core (V.group pid)=r;by_cases a:r.2.2.2=0
 ·rw[bK a,bK a];refine .inr ⟨bu,?_⟩;rw[a];rfl
 rw[bJ a,bJ a];by_cases b:r.2.2.2≠12
 ·rw[bK b];exact .inr ⟨b,rfl⟩
 rw[bJ b];refine .inl ?_;generalize dead {V with core:=r.1} r.2.2.1=d;split;·exact .inl rfl
 next c=>
 split;·exact .inr (.inl rfl)
 exact .inr (.inr (SM _ _ _ (by show[]++d≠ [];rw[lJ];exact c)))
def get_at{S:Cs}(e:Kc.Inv S){id:Int}{x:Pg}(hx:S.bt.pg id=some x)(h1:x.place=1){a:Int}(b:0<=a/\a<16):∃n,S.get id a=({S with bP:=(hj S.bP id).1},n,0)/\∀S',Kc.Inv S'->S'.bt.pg id=some x->S'.fr=S.fr->(S'.get id a).2.1=n:=by
 refine⟨_,yN e hx h1 b,λS' d c hf=>?_⟩;rw[yN d c h1 b];show(((S'.text x).getD a.toNat 0).toNat:Int)=_;rw[vL h1,vL h1,hf]
def SN{S:Cs}(a:Kc.Inv S){id g:Int}{x:Pg}(hx:S.bt.pg id=some x)(h1:x.place=1)(hl:S.live g=true):S.bX id g=({S with bP:=(hj S.bP id).1}, -1,0):=w1 a.toInv0 hx h1 hl
structure Twin(V X:Vs)(k:Int)(s:Sp):Prop where
 sp:X.space k=some s
 gr:X.group k=V.group k
def Twin.cm{X:Vs}(t:Twin V X k s)(hk:pid≠k)(b:0<=pid/\0<=k)(p:Int):Twin V (X.cm pid p) k s:=by
 have e:∀s1:bV Sp,(X.fB pid s1).procs[k.toNat]?=X.procs[k.toNat]? :=λs1=>iE bu;have a:(X.cm pid p).procs[k.toNat]?=X.procs[k.toNat]? :=by
  unfold Vs.cm;split;·exact e _
  ·rfl
 refine⟨?_,?_⟩
 ·have:=t.sp;unfold Vs.space at this ⊢;rw[a];exact this
 ·rw[<- t.gr];unfold Vs.group;rw[dJ,dJ,a]
def Twin.enter{X:Vs}(t:Twin V X k s)(hk:pid≠k)(b:0<=pid/\0<=k)(p id:Int)(n:Nat)(wr:Bool):Twin V (X.enter pid p id n wr) k s:=by
 have a:(X.enter pid p id n wr).procs[k.toNat]?=X.procs[k.toNat]? :=by
  unfold Vs.enter;dsimp only;split;·exact iE bu
  ·rfl
 refine⟨?_,?_⟩
 ·have:=t.sp;unfold Vs.space at this ⊢;rw[a];exact this
 ·rw[<- t.gr];unfold Vs.group;rw[dJ,dJ,a]
def aJQ{S:Cs}(b:Kc.Inv0 S){id:Int}{x:Pg}(hx:S.bt.pg id=some x)(a:0<=x.kf):S.bt.of (x.kf,x.ki)=id:=by
 have:=(b.cH.file x.kf x.ki id).2 ⟨x,hx,rfl,rfl,a⟩;unfold TS.of;rw[this];rfl
def aF2(h:eb V)(hn:V.core.bt.next+10<16777216)(hk:pid≠k)(av:V.space pid=some s)(m:V.space k=some s)(E:V.group k=V.group pid)(b:Int):
  bad (V.load pid s b).2\/((V.load pid s b).1.space k=some s/\((V.load pid s b).1.load k s b).2=(V.load pid s b).2):=by
 have ai:0<=pid/\0<=k:=⟨(iu av).1,(iu m).1⟩
 have aG:=h.sp _ _ _ (iu av).2;have D:∀S,Twin V {V with core:=S} k s:=λS=>⟨m,rfl⟩
 have lw:∀(X:Vs) (q:Int) (x:Rg),s.cw (b/16)=some x->¬ b<0->¬ ((s.entry (b/16)).isNone=true/\x.kind=1)->X.load q s b=(match(X.there q (b/16) s x .zero).2.2 with
   |none=>((X.there q (b/16) s x .zero).1,(X.there q (b/16) s x .zero).2.1)
   |some id=>({(X.there q (b/16) s x .zero).1 with core:=((X.there q (b/16) s x .zero).1.core.get id (b%16)).1}.cm q (b/16), {(X.there q (b/16) s x .zero).2.1 with n:=((X.there q (b/16) s x .zero).1.core.get id (b%16)).2.1})):=λX q x hw hb w=>by
  unfold Vs.load;dsimp only;rw[hw];dsimp only;rw[bJ hb,bJ w];obtain⟨aC,aD,aj⟩:=X.there q (b/16) s x .zero;cases aj<;>rfl
 cases hw:s.cw (b/16)with
 |none=>
  have e:∀(X:Vs) q,X.load q s b=(X,.bad 14):=λX q=>by unfold Vs.load;dsimp only;rw[hw]
  rw[e,e];exact .inr ⟨m,rfl⟩
 |some x=>
  by_cases hb:b<0
  ·have e:∀(X:Vs) q,X.load q s b=(X,.bad 14):=λX q=>by unfold Vs.load;dsimp only;rw[hw];dsimp only;rw[bK hb]
   rw[e,e];exact .inr ⟨m,rfl⟩
  by_cases w:(s.entry (b/16)).isNone=true/\x.kind=1
  ·have e:∀(X:Vs) q,X.load q s b=(X,.zero):=λX q=>by unfold Vs.load;dsimp only;rw[hw];dsimp only;rw[bJ hb,bK w]
   rw[e,e];exact .inr ⟨m,rfl⟩
  have L:0<=b%16/\b%16<16:=by omega
  rw[lw V pid x hw hb w];cases he:s.entry (b/16)with
  |some e=>
   have u:∀(X:Vs) q,X.there q (b/16) s x .zero=X.dR (λS g=>let r:=S.bX e.id g;(r.1,(e.id:Int),r.2)) q .zero:=λX q=>by unfold Vs.there;rw[he];rfl
   rcases tl (λS g=>let r:=S.bX e.id g;(r.1,(e.id:Int),r.2)) pid V with a|⟨v,i⟩
   ·rw[u];refine .inl ?_;generalize V.dR (λS g=>let r:=S.bX e.id g;(r.1,(e.id:Int),r.2)) pid .zero=q at a;split<;>exact a
   ·rw[u,i];dsimp only at v ⊢;obtain⟨K,ay⟩:=h.inv.hV e.id (V.group pid);have B:=h.inv.bX e.id (V.group pid);rcases ay with⟨y,N,h1,e0,hl⟩|⟨e0,_⟩|⟨e0,_⟩
    ·generalize hr:V.core.bX e.id (V.group pid)=r at*
     have er:r.2.2=0:=by rw[e0]
     rw[bK er];dsimp only;refine .inr ?_;obtain⟨n,o,H⟩:=get_at B N h1 L;have t:=(D (r.1.get e.id (b%16)).1).cm (pid:=pid) hk ai (b/16);refine⟨t.sp,?_⟩;generalize af:({V with core:=(r.1.get e.id (b%16)).1} :Vs).cm pid (b/16)=X at t;have d:X.core= {r.1 with bP:=(hj r.1.bP e.id).1} :=by rw[<- af,yP,o]
     rw[lw X k x hw hb w,u];have ak:Kc.Inv X.core:=by rw[d];exact B.cm e.id
     have aa:X.core.bt.pg e.id=some y:=by rw[d];exact N
     have ao:X.core.live (X.group k)=true:=by
      rw[t.gr,E,d];show r.1.live (V.group pid)=true;rw[K.live];exact hl
     have R:=SN ak aa h1 ao;rcases tl (λS g=>let r:=S.bX e.id g;(r.1,(e.id:Int),r.2)) k X with a|⟨_,l⟩
     ·exfalso;unfold Vs.dR at a;rw[nM]at a;dsimp only at a;rw[R]at a;dsimp only at a;rw[bK rfl]at a;rcases a with c|c|c;·cases c
      ·cases c
      ·exact c rfl
     ·rw[l];dsimp only;rw[R];dsimp only;rw[bK rfl];dsimp only;rw[H _ (ak.cm e.id) aa (by rw[d]),er,o]
    ·exact absurd e0 v
    ·have er:(V.core.bX e.id (V.group pid)).2.2=2:=by rw[e0]
     rw[er,bJ bN];dsimp only;rw[show(V.core.bX e.id (V.group pid)).1=V.core by rw[e0]];refine .inr ⟨m,?_⟩;rw[lw _ k x hw hb w,u];rcases tl (λS g=>let r:=S.bX e.id g;(r.1,(e.id:Int),r.2)) k ({V with core:=V.core} :Vs)with a|⟨_,l⟩
     ·exfalso;unfold Vs.dR at a;rw[nM]at a;dsimp only at a;rw[E,e0]at a;dsimp only at a;rw[bJ bN,bK bN]at a;rcases a with c|c|c;·cases c
      ·cases c
      ·exact c rfl
     ·rw[l];dsimp only;rw[E,e0];dsimp only;rw[bJ bN]
  |none=>
   have u:∀(X:Vs) q,X.there q (b/16) s x .zero=(let r:=X.dR (λS g=>S.cA (dC x (b/16)) g) q .zero;match r.2.2 with|some id=>(r.1.enter q (b/16) id 2 x.wr,r.2)|none=>r):=λX q=>by
    unfold Vs.there;rw[he];dsimp only;obtain⟨aC,aD,aj⟩:=X.dR (λS g=>S.cA (dC x (b/16)) g) q .zero;cases aj<;>rfl
   rcases tl (λS g=>S.cA (dC x (b/16)) g) pid V with a|⟨v,i⟩
   ·rw[u];refine .inl ?_;dsimp only;generalize V.dR (λS g=>S.cA (dC x (b/16)) g) pid .zero=q at a;obtain⟨aK,q2,aB⟩:=q;cases aB<;>exact a
   ·rw[u];dsimp only;rw[i];dsimp only at v ⊢;have B:=h.inv.cA bu (dC x (b/16)) (V.group pid);rcases h.inv.kK bu (dC x (b/16)) (V.group pid)with⟨y,hm,N,h1,T,e0⟩|⟨_,e0,_⟩|⟨e0,_⟩
    ·have W:V.core.live (V.group pid)=true/\ec V.core.files (dC x (b/16))=true:=by
      have C:¬ (ec V.core.files (dC x (b/16))=false\/V.core.live (V.group pid)=false):=λc=>by
       unfold Cs.cA at e0;rw[bK c]at e0;cases e0
      rw[o9]at C;exact⟨by simpa using C.2,by simpa using C.1⟩
     generalize V.core.cA (dC x (b/16)) (V.group pid)=r at*
     rw[bK e0];dsimp only;refine .inr ?_;have P:Base V.core r.1:=by
      rcases hm with⟨K,_⟩|hm;·exact K.toBase
      ·exact hm.toBase
     have Z:rA r.1 r.2.1 λz=>(fX V.procs).count z:=by
      rcases hm with⟨K,M⟩|hm
      ·obtain⟨z,F⟩:=kX.1 M;exact(h.refs.gF K).toP (h.refs.pg F).2
      ·exact(h.refs.made hm).1
     obtain⟨_,au,aF,_,_⟩:=Z.up B (h.small _);have ad:=B.bO r.2.1 1;have Q:=vO B r.2.1 1;have al:(Vs.enter {V with core:=r.1} pid (b/16) r.2.1 2 x.wr).core=(r.1.bO r.2.1 1).1:=vN _ _ _ _ _ _;obtain⟨z,F,p,ab⟩:∃z,(r.1.bO r.2.1 1).1.bt.pg r.2.1=some z/\z.place=1/\(z.kf,z.ki)=(y.kf,y.ki):=by
      have:=au r.2.1;rw[N]at this;cases i:(r.1.bO r.2.1 1).1.bt.pg r.2.1 with
      |none=>rw[i]at this;cases this
      |some z=>
       rw[i]at this;have:=cR this;simp only[ot]at this;exact⟨z,rfl,by rw[<- this.1];exact h1,by rw[this.2.2.1,this.2.2.2]⟩
     rw[al];obtain⟨n,o,H⟩:=get_at ad F p L;have t:=((D r.1).enter (pid:=pid) hk ai (b/16) r.2.1 2 x.wr)
     have t2:Twin V {Vs.enter {V with core:=r.1} pid (b/16) r.2.1 2 x.wr with core:=((r.1.bO r.2.1 1).1.get r.2.1 (b%16)).1} k s:=⟨t.sp,t.gr⟩
     have t:=t2.cm (pid:=pid) hk ai (b/16);refine⟨t.sp,?_⟩;generalize af:({Vs.enter {V with core:=r.1} pid (b/16) r.2.1 2 x.wr with core:=((r.1.bO r.2.1 1).1.get r.2.1 (b%16)).1} :Vs).cm pid (b/16)=X at t;have d:X.core= {(r.1.bO r.2.1 1).1 with bP:=(hj (r.1.bO r.2.1 1).1.bP r.2.1).1} :=by rw[<- af,yP,o]
     have G:Kc.Inv X.core:=by rw[d];exact ad.cm _
     have f:X.core.bt.pg r.2.1=some z:=by rw[d];exact F
     have U:X.core.live (X.group k)=true:=by
      rw[t.gr,E,d];show(r.1.bO r.2.1 1).1.live (V.group pid)=true;rw[Q.live,P.live];exact W.1
     have am:ec X.core.files (dC x (b/16))=true:=by
      rw[d];show ec (r.1.bO r.2.1 1).1.files _=true;rw[Q.has,P.has];exact W.2
     have aq:X.core.bt.of (dC x (b/16))=r.2.1:=by
      have an:(z.kf,z.ki)=dC x (b/16):=ab.trans T.1;have az:0<=z.kf:=by
       have:z.kf=y.kf:=(Prod.mk.inj ab).1;rw[this];exact T.2
      rw[<- an];exact aJQ G.toInv0 f az
     have aA:=(G.cH.ids _ _ f).1;have Y:X.core.cA (dC x (b/16)) (X.group k)=({X.core with bP:=(hj X.core.bP r.2.1).1},r.2.1, -1,0):=by
      unfold Cs.cA;dsimp only;rw[bJ (by rw[am,U];decide),aq,dg bu];simp only[l4,gR];rw[SN G f p U];rfl
     rw[lw X k x hw hb w,u];dsimp only;rcases tl (λS g=>S.cA (dC x (b/16)) g) k X with a|⟨_,l⟩
     ·exfalso;unfold Vs.dR at a;rw[nM]at a;dsimp only at a;rw[Y]at a;dsimp only at a;rw[bK rfl]at a;rcases a with c|c|c;·cases c
      ·cases c
      ·exact c rfl
     ·rw[l];dsimp only;rw[Y];dsimp only;rw[bK rfl];dsimp only;rw[vN,e0,o];dsimp only;have ae:Kc.Inv {X.core with bP:=(hj X.core.bP r.2.1).1} :=G.cm _;have C:(0:Int)<z.refs\/True:=.inr trivial;obtain⟨O,I,J,ah⟩:∃O,((({X.core with bP:=(hj X.core.bP r.2.1).1} :Cs).bO r.2.1 1).1).bt.pg r.2.1=some O/\O.place=z.place/\O.at_=z.at_:=by
       rcases nY ae r.2.1 1 with⟨A,_⟩|⟨q,i,⟨_,j⟩|⟨_,_,j⟩|⟨aw,_⟩⟩
       ·rw[show({X.core with bP:=(hj X.core.bP r.2.1).1} :Cs).bt.pg r.2.1=some z from f]at A;cases A
       ·rw[j];exact⟨z,f,rfl,rfl⟩
       ·rw[j];rw[show({X.core with bP:=(hj X.core.bP r.2.1).1} :Cs).bt.pg r.2.1=some z from f]at i;cases i;exact⟨_,j7 _ _ _,rfl,rfl⟩
       ·exfalso;rw[show({X.core with bP:=(hj X.core.bP r.2.1).1} :Cs).bt.pg r.2.1=some z from f]at i;cases i;have aH:=(G.cH.pl _ _ f).2;have aI:z.refs<2000000000:=by
         obtain⟨aE,_⟩:=Z.up B (h.small _);have:=aE r.2.1;rw[F,gg,bJ (by dsimp only;rw[bK rfl];omega)]at this;have:=cR this;have aJ:=h.small r.2.1;dsimp only at this;rw[bK rfl]at this;omega
        rw[cP bu bu]at aw;omega
      have ag:((({X.core with bP:=(hj X.core.bP r.2.1).1} :Cs).bO r.2.1 1).1).fr=X.core.fr:=by
       rcases nY ae r.2.1 1 with⟨A,_⟩|⟨q,i,⟨_,j⟩|⟨_,_,j⟩|⟨_,_,_,_,_,ar,_⟩⟩
       ·rw[show({X.core with bP:=(hj X.core.bP r.2.1).1} :Cs).bt.pg r.2.1=some z from f]at A;cases A
       ·rw[j]
       ·rw[j]
       ·exfalso;rw[ar,bK rfl]at I;cases I
      have ax:=ae.bO r.2.1 1;rw[yN ax I (J.trans p) L];have:=yN ad F p L;rw[o]at this;have ap:n=(((r.1.bO r.2.1 1).1.text z).getD (b%16).toNat 0).toNat:=eJ (λq:Cs×Int×Int=>q.2.1) this;rw[ap,vL p,vL (J.trans p),ag,d,ah]
    ·exact absurd e0 v
    ·have er:(V.core.cA (dC x (b/16)) (V.group pid)).2.2.2=2:=by rw[e0]
     rw[er,bJ bN];dsimp only;rw[show(V.core.cA (dC x (b/16)) (V.group pid)).1=V.core by rw[e0]];refine .inr ⟨m,?_⟩;rw[lw _ k x hw hb w,u];dsimp only;rcases tl (λS g=>S.cA (dC x (b/16)) g) k ({V with core:=V.core} :Vs)with a|⟨_,l⟩
     ·exfalso;unfold Vs.dR at a;rw[nM]at a;dsimp only at a;rw[E,e0]at a;dsimp only at a;rw[bJ bN,bK bN]at a;rcases a with c|c|c;·cases c
      ·cases c
      ·exact c rfl
     ·rw[l];dsimp only;rw[E,e0];dsimp only;rw[bJ bN]
end Go.Kw
namespace Go.Kw
open Go Go.Kc Go.Kt
def SO:∀(os:bA dx) {V:Vs},eb V->V.core.bt.next+66*os.length+66<16777216->eb (eu V os).1
 |[],_,m,_=>m
 |o::os,V,m,hn=>by
  have fk:=m.fk;rw[hM]at hn;exact SO os (FH m bu o).yT (by have:=Kw.gz m bu o;omega)
end Go.Kw
namespace Go.Mp
open Go Go.Vc Go.Sp Go.Proofs Go.Kc Go.Kw Go.Kt
variable{E:Env}{L:ct}{w W:bI}{A:At}{v:Nat}{V:Vs}
def aHh{i:Nat}{p:PP}(h:V.procs[i]?=some p):∃x,V.pr[i]?=some x/\x.g=p.1/\x.live=p.2.isSome/\x=fw p:=by
 refine⟨fw p,by rw[vF,eC,h];rfl,?_,?_,rfl⟩
 ·obtain⟨g,o⟩:=p;cases o<;>rfl
 ·obtain⟨g,o⟩:=p;cases o<;>rfl
def aFk{cC cV pid at_:Int}{sz l:Sl}{zs:bS}{os:bA dx}(ay:yQ W sz zs)(av:nN W l os)(h:Sep E (dY W.heap::L) w):
  Calls P n1 #[Iv cC,Iv cV,Sv sz,Sv l,Iv pid,Iv at_] w (cW E (.bool true) (dY W.heap::L)):=by
 apply amq;unfold Rp qF qJ qK qL qO qR qU qW qg qh qy zL zW zx;refine use (aEW h) ?_;rintro _ aR ⟨rfl,h1⟩;refine⟨_,rfl,bF rfl (use (aGD cC cV sz l aR) ?_)⟩;rintro _ _ ⟨rfl,rfl⟩;refine⟨_,rfl,cv (λ_=>⟨rfl,h1⟩) (λaC=>?_)⟩;obtain⟨_,_,_,hl⟩:=aHc aC;have aT:=av.1;refine Sz (sz:=sz) (l:=zs) (ay.ints (q:=0) rfl) ay.2.1 h1 (λA v a1 ho aN=>⟨_,rfl,?_⟩);refine aG4 av bu ho (Vok.new cC cV zs) (by rw[Fp];decide) aN (λa2 _ n5 au=>?_);have M:=SO os (eb.new cC cV zs) (by rw[Fp];omega);generalize (eu (Vs.new cC cV zs) os).1=U at M n5 au;have fk:=M.fk;have G:U.pr.length=U.procs.length:=ei _;have fin:∀ {V':Vs} {F:ct} {w':bI},eL E A v V' (F++L) w'->Sep E (dY W.heap::L) w':=λ{V' F w'} d=>by
  have z:=d.drop;rw[ho]at z;have m:Sep E ([dY W.heap]++(F++L)) w':=z;exact(m.perm (pU _ _ _)).right
 refine au.procs M.toVok (λpl a3 B aO=>⟨pl,rfl,?_⟩);have act:=FH M bu ⟨10,pid,0,0,0⟩;have u:=Kw.gz M bu ⟨10,pid,0,0,0⟩;refine aO.jo (o:=⟨10,pid,0,0,0⟩) M.toVok bu (λC ae a4 ag z _ _=>?_);obtain⟨Z,T⟩:∃Z,U.act ⟨10,pid,0,0,0⟩=Z:=⟨_,rfl⟩
 rw[T]at z ag act u;refine⟨λb w'=>b=(U.space pid).isSome/\eL E A v Z.1 (bC ae (iR Z.2 C)::bw C 1 (bD Z.2.bH)::hU pl U.pr::L) w',?_,?_⟩
 ·refine hs (λam=>cU (λh1=>?_) (λh1=>⟨?_,z⟩)) (λam=>⟨?_,z⟩)
  ·obtain⟨p,hp⟩:∃p,U.procs[pid.toNat]?=some p:=⟨_,dP⟩
   obtain⟨x,hx,_,aE,_⟩:=aHh hp;rw[show pid=((pid.toNat:Nat):Int) by omega];refine z.pr 2 rfl B hx (λa _ _ V=>⟨_,V,?_,z⟩);obtain⟨g,o⟩:=p;rw[(jw hp).1,aE]
  ·unfold Vs.space;rw[bK am,gQ bu];rfl
  ·unfold Vs.space;rw[cD];rfl
 rintro _ b a5 ⟨rfl,m⟩;cases ao:U.space pid with
 |none=>
  have e:Z=(U,.bad 2):=by rw[<- T,aGm bN ao]
  subst e;exact⟨_,m.cell (k:=0) (j:=0) rfl rfl,bT rfl (bT rfl ⟨_,m.cell (k:=0) (j:=0) rfl rfl,bT rfl (bT rfl ⟨rfl,fin (F:=[_,_,_]) m⟩)⟩)⟩
 |some s=>
  obtain⟨am,hp⟩:=iu ao;have aB:=(cZ.1 hp).1;have ad:Z=if 64<=U.procs.length then(U,.bad 3)else({core:=dD (s.ids 0 65536) U.core,procs:=U.procs++[(U.group pid,some s)]},⟨0,U.procs.length,[]⟩):=by
   rw[<- T,Sx bN ao];unfold Vs.call;dsimp only;rw[bJ bN,bJ bN,bJ bN,bJ bN,bJ bN,bJ bN,bK rfl]
  by_cases af:64<=U.procs.length
  ·rw[bK af]at ad;subst ad;refine⟨_,m.cell (k:=0) (j:=0) rfl rfl,bT rfl (bT rfl ⟨_,m.cell (k:=0) (j:=0) rfl rfl,bF rfl ⟨_,m.cell (k:=0) (j:=0) rfl rfl,bT rfl (bT rfl ⟨?_,fin (F:=[_,_,_]) m⟩)⟩⟩)⟩;congr 1;rw[gw,B,G];omega
  ·rw[bJ af]at ad;subst ad;have D:=act.yT;dsimp only at m ag u D;generalize aw:({core:=dD (s.ids 0 65536) U.core,procs:=U.procs++[(U.group pid,some s)]} :Vs)=X at m u D;have aU:X.core.bt.next<=U.core.bt.next+66:=by rw[<- aw];exact u
   have S:X.procs=U.procs++[(U.group pid,some s)]:=by rw[<- aw]
   have ax:X.procs.length=U.procs.length+1:=by rw[S,dd];rfl
   have aS:X.procs[pid.toNat]?=some (U.group pid,some s):=by rw[S,eM aB];exact hp
   have aH:X.procs[U.procs.length]?=some (U.group pid,some s):=by rw[S,fM (ek _),iV];rfl
   have s1:X.space pid=some s/\X.group pid=U.group pid:=by
    have:=jw aS;rwa[show((pid.toNat:Nat):Int)=pid by omega]at this
   have s2:=jw aH;have Y:X.pr[U.procs.length]?=some (fw (U.group pid,some s)):=by rw[vF,eC,aH];rfl
   have aD:U.pr[pid.toNat]?=some (fw (U.group pid,some s)):=by rw[vF,eC,hp];rfl
   have aM:=D.fk;have aG:=aF2 D bu (k:=(U.procs.length:Int)) bu s1.1 s2.1 (by rw[s2.2,s1.2]) at_;refine⟨_,m.cell (k:=0) (j:=0) rfl rfl,bF rfl (m.procs D.toVok (λI a6 t aP=>⟨I,rfl,?_⟩))⟩;have an:X.pr.length=U.procs.length+1:=by rw[<- ax];exact ei _
   refine⟨λw'=>eL E A v X (hU I X.pr::bC ae (iR ⟨0,U.procs.length,[]⟩ C)::bw C 1 (bD [])::hU pl U.pr::L) w',?_,?_⟩
   ·refine aP.dr (λab i=>bF rfl ?_);refine hJ (λd=>absurd ?_ d) (λ_=>⟨_,i.cell (k:=1) (j:=1) rfl rfl,hJ (λd=>absurd (by rw[B,G]) d) (λ_=>⟨_,i.cell (k:=1) (j:=1) rfl rfl,?_⟩)⟩);·rw[t,an,B,G,dc]
    refine i.pr 0 rfl t Y (λa az _ _=>⟨_,az,?_⟩);have aj:∀ {F:Addr->Prop},(∀a,ab.cell? (a.add 0)=some (Iv (fw (U.group pid,some s)).g)->ab.cell? (a.add 1)=some (Iv (fw (U.group pid,some s)).size)->F a)->cK pl.p pl.n pid 3 F:=λ{F} f=>by
     rw[show pid=((pid.toNat:Nat):Int) by omega];exact i.pr 3 rfl B aD (λa al r _=>f a al r)
    refine aj (λa al _=>⟨_,al,hJ (λd=>absurd rfl d) (λ_=>⟨_,i.cell (k:=1) (j:=1) rfl rfl,i.pr 0 rfl t Y (λa _ r _=>⟨_,r,aj (λa _ y=>⟨_,y,hJ (λd=>absurd rfl d) (λ_=>⟨_,i.cell (k:=1) (j:=1) rfl rfl,i.pr 0 rfl t Y (λa _ _ aI=>⟨_,aI,bF rfl i⟩)⟩)⟩)⟩)⟩)⟩)
   rintro _ ab i;have aQ:X.act ⟨8,pid,at_,0,0⟩=X.load pid s at_:=Sy s1.1;have N:=FH D bu ⟨8,pid,at_,0,0⟩;have aF:=Kw.gz D bu ⟨8,pid,at_,0,0⟩;refine i.jo (o:=⟨8,pid,at_,0,0⟩) D.toVok bu (λJ p2 aV ah H _ _=>?_);rw[aQ]at H ah N aF;have ap:=N.yT;generalize a0:X.load pid s at_=R at H ah ap aF aG;refine⟨_,H.cell (k:=3) (j:=1) rfl rfl,?_⟩;have aL:=ap.fk;refine H.jo (o:=⟨8,(U.procs.length:Int),at_,0,0⟩) ap.toVok bu (λK aq aW aA n _ _=>?_);have ak:bad R.2\/(R.1.act ⟨8,(U.procs.length:Int),at_,0,0⟩).2=R.2:=aG.imp id (λ⟨t1,t2⟩=>by rw[Sy t1];exact t2);generalize aZ:R.1.act ⟨8,(U.procs.length:Int),at_,0,0⟩=Q at n aA ak;have ar:∀ {w':bI},eL E A v Q.1 (bC aq (iR Q.2 K)::bw K 1 (bD Q.2.bH)::bC p2 (iR R.2 J)::bw J 1 (bD R.2.bH)::hU I X.pr::bC ae (iR ⟨0,U.procs.length,[]⟩ C)::bw C 1 (bD [])::hU pl U.pr::L) w'->(∀(j:Nat) c,(iR R.2 J)[j]?=some c->w'.cell? (Addr.add ⟨p2,0,none⟩ j)=some c)/\∀(j:Nat) c,(iR Q.2 K)[j]?=some c->w'.cell? (Addr.add ⟨aq,0,none⟩ j)=some c:=λd=>⟨λj c V=>d.cell (k:=2) rfl V,λj c V=>d.cell (k:=0) rfl V⟩
   refine⟨λb w'=>(b=false->¬ bad R.2)/\eL E A v Q.1 (bC aq (iR Q.2 K)::bw K 1 (bD Q.2.bH)::bC p2 (iR R.2 J)::bw J 1 (bD R.2.bH)::hU I X.pr::bC ae (iR ⟨0,U.procs.length,[]⟩ C)::bw C 1 (bD [])::hU pl U.pr::L) w',?_,?_⟩
   ·obtain⟨r,y⟩:=ar n;have aa:∀ {F:Prop},(true=false->F):=λd=>by cases d
    refine⟨_,r 0 _ rfl,eQ (λ_=>⟨aa,n⟩) (λaJ=>⟨_,r 0 _ rfl,eQ (λ_=>⟨aa,n⟩) (λaK=>⟨_,y 0 _ rfl,eQ (λ_=>⟨aa,n⟩) (λ_=>⟨_,y 0 _ rfl,eQ (λ_=>⟨aa,n⟩) (λ_=>⟨J,r 2 _ rfl,fZ (λ_=>⟨aa,n⟩) (λaY=>⟨K,y 2 _ rfl,λ_=>?_,n⟩)⟩)⟩)⟩)⟩)⟩;rintro(d|d|d);·exact aJ d
    ·exact aK d
    ·have:R.2.bH.length≠0:=λe=>d (vU.1 e);omega
   rintro _ b aX ⟨hb,O⟩;obtain⟨r,y⟩:=ar O;refine bT rfl (cv (λ_=>⟨rfl,fin (F:=[_,_,_,_,_,_,_,_]) O⟩) (λe=>?_));have ai:Q.2=R.2:=ak.resolve_left (hb e);refine⟨_,r 0 _ rfl,_,y 0 _ rfl,bT (by rw[ai];simp) ⟨_,r 1 _ rfl,_,y 1 _ rfl,?_,fin (F:=[_,_,_,_,_,_,_,_]) O⟩⟩;rw[ai];simp
end Go.Mp
namespace Go.Proofs.YtafigbgagbolgaaGreatDoor
open Go Go.Vc Go.Sp Go.Mp Go.RowKit Go.ChangeShapes
def ayq(os:Os)(started:os.Started)(H:Type)(enc:cc×bE->H):
  ReturnsInHanded {} CO os n1 .any (λw args=>(Rows.vmForksSpec.pre enc P m5 [] false w args/\laidMetH P pT w)/\sizedMet enc P m5 (OpenSpec.ofChange Rows.vmForksSpec) false w args) (Rows.vmForksSpec.post enc P m5 false true false false):=by
 refine awx (C:=CO) (tb:=U0) (X:=λw=>laidMetH P pT w) (λ_ _ m h=>h.of_heap m) own started cS CP
  (ChangeSpec.witness_shaped (enc:=enc) (C:=CO) (os:=os) (X:=λw _=>laidMetH P pT w) false (World.laidAll P os pT) #[.int .i64 0,.int .i64 0,aN8,aN8,.int .i64 0,.int .i64 0] 8 (World.laidAll_os _ _ _) (World.shaped_of_ZipB cS cS) cS cS cS (aGP os _))
  laidOut cS cS rfl cS ?_ ?_
 ·intro e gs j k
  match e,gs,j,k with
  |[d0,d1,d2,d3,d4,d5],[],_,_=>rfl
 ·intro W base args b a _ hx;have hw:=aF0 hx;obtain⟨q,r,t,u,x,y,rfl⟩:=aKd b;have a0:=a 0 _ _ rfl rfl;have c:=a 1 _ _ rfl rfl;have d:=a 2 _ _ rfl rfl;have a3:=a 3 _ _ rfl rfl;have a4:=a 4 _ _ rfl rfl;have a5:=a 5 _ _ rfl rfl;obtain⟨f,rfl,hf⟩:=yM a0;obtain⟨s,rfl,p⟩:=yM c;obtain⟨sz,zs,rfl,i⟩:=aIL (Si cS d);obtain⟨l,xs,rfl,g⟩:=aIQ a3;obtain⟨pid,rfl,ef⟩:=yM a4;obtain⟨o,rfl,n⟩:=yM a5;refine use (aFk i g hw) ?_;rintro v w' ⟨rfl,h⟩;exact⟨_,rfl,rfl,aI0 h⟩
def SP:Tryz.pinned.checked.prog.funcNamed Rows.vmForksRow.func=some n1:=by kernel_rfl
def aD2:E9 P m5 Rows.vmForksSpec Rows.vmForksRow=true:=by kernel_rfl
def aD3:Fa P n1 Rows.vmForksRow=true:=by kernel_rfl
def aD4:Fb P n1 Rows.vmForksRow=true:=by kernel_rfl
def aD5:Fc P n1 Rows.vmForksRow=true:=by kernel_rfl
def aD6:Fe P n1 Rows.vmForksRow=true:=by kernel_rfl
def aD7:Ff P m5 Rows.vmForksSpec Rows.vmForksRow=true:=by kernel_rfl
def aD8:Fg P m5 Rows.vmForksSpec Rows.vmForksRow=true:=by kernel_rfl
def aD9:Fh P Rows.vmForksRow=true:=by kernel_rfl
def aEa:Fi P m5 Rows.vmForksSpec Rows.vmForksRow=true:=by kernel_rfl
def azv:Rows.VmForksSaid:=
 OpenClaim.holds_of_wide n1 m5 rfl rfl rfl rfl rfl rfl rfl ⟨rfl,rfl,rfl,rfl,rfl⟩ rfl rfl rfl rfl rfl SP CP
  (aFj aD2 aD3 aD4 aD5 aD6 aD7 aD8 aD9 aEa)
  (mH cS) (by unfold Func.isWrapper;rw[bJ (by decide+kernel)];exact⟨rfl,rfl⟩)
  (λos started H enc _=>ayq os started H enc)
def aEb:Rows.vmForksRow.wfByText (OpenSpec.ofChange Rows.vmForksSpec)=true:=by kernel_rfl
def aBD:Tryz.pinned.checked.prog.mainIs=some (true, "6dae9ca1e3fae822e43264ec614d78dc4c2fe72aea56ab24750a95019e43a27c".toList):=by kernel_rfl
def azw:false=Tryz.pinned.checked.prog.looks []:=by kernel_rfl
def aBC:false=Rows.vmForksRow.goesBy Tryz.pinned.checked.prog:=by kernel_rfl
def azx:(m5.params.toList.all λu=> !P.wantsStandIn u)=true:=by kernel_rfl
def vmForks_card:Rows.VmForksCardSaid:=
 Claim7.holds_tied_plain_at .later [] [.data] true (true, "6dae9ca1e3fae822e43264ec614d78dc4c2fe72aea56ab24750a95019e43a27c") false
  azv (λ_ h=>by cases h) aEb (λ_ h=>by cases h) vmForks_row_tie rfl ⟨rfl,rfl⟩ aBD rfl
  (λf fn hf a=>by
   obtain rfl:f=n1:=cR (SP.symm.trans hf) |>.symm;obtain rfl:fn=m5:=(cR (CP.symm.trans a)).symm;refine⟨azw,λj t b=>?_⟩;have hm:t∈m5.params.toList:=by simpa using mD b
   exact(show P.wantsStandIn t=false by simpa using fQ.1 azx t hm))
  aBC
end Go.Proofs.YtafigbgagbolgaaGreatDoor
