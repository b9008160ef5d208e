/- A part of the proof. -/
import Derived.Test.YtafigbgagbolgaaGreatDoorD08
set_option linter.all false
set_option maxRecDepth 100000
open Go.IntKind(i64 u64)
open Go.Proofs.Tryz
namespace Go.Kw
structure fR(s:Sp):Prop where
 cI:Tok s.cI
 hs:fm 0 s.dz=true
def fR.new:fR Sp.new:=⟨⟨List.Pairwise.nil,λ_ h=>by cases h⟩,rfl⟩
def wi:∀ {l r:bA Rg} {a:Int},fm a (l++r)=true↔fm a l=true/\fm ((l.getLast?.map Rg.b).getD a) r=true
 |[],r,a=>by simp[fm]
 |[x],r,a=>by simp[fm]
 |x::y::l,r,a=>by
  have:=wi (l:=y::l) (r:=r) (a:=x.b);have e:((y::l).getLast?.map Rg.b).getD x.b=((y::l).getLast?.map Rg.b).getD a:=by
   rw[List.getLast?_cons];rfl
  rw[e]at this;rw[List.getLast?_cons_cons];show((x.valid&&decide (a<=x.a))&&fm x.b (y::l++r))=true↔((x.valid&&decide (a<=x.a))&&fm x.b (y::l))=true/\_;generalize (x.valid&&decide (a<=x.a))=c;rw[dF,dF,this,and_assoc]
def EX{l:bA Rg}{a b:Int}(h:fm a l=true)(hb:∀x,l[0]?=some x->b<=x.a):fm b l=true:=by
 cases l with
 |nil=>rfl
 |cons x l=>
  simp only[fm,dF,gD]at h ⊢;exact⟨⟨h.1.1,hb x rfl⟩,h.2⟩
def Qo{q:Rg->Bool}:∀ {l:bA Rg} {j:Nat} {y:Rg},j<fZ q l->l[j]?=some y->q y=false
 |x::r,0,y,h,a=>by
  simp at a;subst a;unfold fZ at h;split at h;·omega
  ·next b=>simpa using b
 |x::r,j+1,y,h,a=>by
  unfold fZ at h;split at h;·omega
  ·exact Qo (l:=r) (j:=j) bu (by simpa using a)
def Qp{l:bA Rg}{x:Rg}(h:fm 0 l=true):fm 0 (eN l x).1=true:=by
 unfold eN;split;·exact h
 next d=>
 rw[pP,pP]at d;have f:x.valid=true:=by cases hx:x.valid with|true=>rfl|false=>exact absurd hx d.2.1
 have g:=(Rg.ft f).1;dsimp only;generalize hn:fZ (λy=>decide (x.a<y.b)) l=n;have key:(∀y,l[n]?=some y->x.b<=y.a)->fm 0 (l.take n++x::l.drop n)=true:=by
  intro b;rw[<- fP n l]at h;obtain⟨h1,h2⟩:=wi.1 h;refine wi.2 ⟨h1,?_⟩;simp only[fm,dF,gD];refine⟨⟨f,?_⟩,EX h2 (λy i=>b y ?_)⟩
  ·cases k:(l.take n).getLast? with
   |none=>exact g.1
   |some z=>
    show z.b<=x.a;have a:=Uf k;obtain⟨j,c⟩:=Ug a;rw[pI]at c;split at c
    ·next e=>
     have:=Qo (by rw[hn];exact e) c;simpa using this
    ·cases c
  ·rwa[rm,l2]at i
 split
 ·next y b=>
  split;·exact h
  ·next m=>exact key λz a=>by rw[b]at a;cases a;omega
 ·next b=>exact key λz a=>by rw[b]at a;cases a
def fR.map{s:Sp}(h:fR s)(x:Rg):fR (s.map x).1:=⟨h.cI,Qp h.hs⟩
end Go.Kw
namespace Go.Mp
open Go Go.Vc Go.Sp Go.Proofs Go.Kc Go.Kv Go.Kw
variable{E:Env}{L:cr}{w W:bI}{s:Kw.Sp}{p:Nat}
def ei(p:Nat)(s:Kw.Sp):Asn:=fo λq:Sl×Nat=>cL (q.1.n=s.dz.length) (cA [bD p [.slice q.1.p q.1.n q.1.c,Pb q.2],cW q.1 s.dz,c3 q.2 s.cI])
def ei.open(h:Sep E (ei p s::L) w):∃(r:Sl) (t:Nat),r.n=s.dz.length/\Sep E (bD p [Sv r,Pb t]::cW r s.dz::c3 t s.cI::L) w:=by
 obtain⟨⟨r,t⟩,h⟩:=Sep.ex.1 h;obtain⟨hn,h⟩:=Sep.cL.1 h;exact⟨r,t,hn,Sep.cA.1 h⟩
def ei.mk{r:Sl}{t:Nat}(hn:r.n=s.dz.length)(h:Sep E (bD p [Sv r,Pb t]::cW r s.dz::c3 t s.cI::L) w):Sep E (ei p s::L) w:=
 Sep.ex.2 ⟨(r,t),Sep.cL.2 ⟨hn,Sep.cA.2 h⟩⟩
def aKo(h:Sep E L w):Calls P Jv #[] w (cC λv w'=>∃p:Nat,v=Pb p/\Sep E (ei p Sp.new::L) w'):=by
 apply aB1;unfold Oy qR;refine use (Qa h) ?_;rintro _ a ⟨t,rfl,h1⟩;refine⟨_,rfl,Al.i h1 (λp w2 h2=>⟨p,rfl,ei.mk (r:=⟨none,0,0⟩) (t:=t) rfl ?_⟩)⟩;exact(bw.none_ (m:=6) h2).swap
def aKn(x:Rg)(j:fR s)(h:Sep E (ei p s::L) w):Calls P yN #[Pb p,.agg x.vs.toArray] w (cZ E (Iv (s.map x).2) (ei p (s.map x).1::L)):=by
 obtain⟨r,t,hn,h⟩:=ei.open h;have hlen:=Af j.hs;apply as8;unfold OB qK zF zR zY;refine Al.i h (λq l h1=>Dr.i h1 (λw2 h2=>⟨_,rfl,?_⟩));have h2:Sep E (bD q x.vs::bD p [Sv r,Pb t]::cW r s.dz::c3 t s.cI::L) w2:=h2;refine⟨r,h2.cellAt 1 rfl 0,gN h2 (i:=0) rfl (use (aLo x hn bu (h2.ro 4 [2,0,1,3] rfl)) ?_)⟩;rintro _ k ⟨s',rfl,g⟩;have c:(s.map x).2=(eN s.dz x).2:=rfl;rcases g with⟨a,hr,b⟩|⟨a,d,b⟩
 ·refine⟨s',_,rfl,eC (λe=>absurd e a) (λ_=>⟨by rw[c],ei.mk (r:=r) (t:=t) ?_ ?_⟩)⟩
  ·show r.n=(eN s.dz x).1.length;rw[hr];exact hn
  ·show Sep E (_::cW r (eN s.dz x).1::c3 t s.cI::L) k;rw[hr];exact b.ro 4 [2,0,3] rfl
 ·refine⟨s',_,rfl,eC (λ_=>⟨_,rfl,?_⟩) (λe=>absurd a e)⟩;refine St.i (b.ro 4 [2,0,3] rfl) (by show 0<2;decide) (λm f=>⟨by rw[c],ei.mk (r:=s') (t:=t) d f⟩)
def Qq(bL:Int)(c:fR s)(h:Sep E (ei p s::L) w):Calls P CZ #[Pb p,Iv bL] w (cZ E (tW (s.cB bL)) (ei p s::L)):=by
 obtain⟨r,t,hn,h⟩:=ei.open h;have hlen:=Af c.hs;apply aqO;unfold OS qK qU zR zg zm;refine Al.i h (λq e h1=>⟨_,rfl,r,h1.cellAt 1 rfl 0,use (aKh hn bu (h1.ro 4 [2,0,1,3] rfl)) ?_⟩);rintro _ w2 ⟨rfl,h2⟩;have hw:s.cB bL=j0 s.dz bL:=rfl;have h2:Sep E (cW r s.dz::bD q (Rg.vs ⟨0,0,0,0,0,false⟩)::bD p [Sv r,Pb t]::c3 t s.cI::L) w2:=h2;rw[hw];obtain⟨x,b,hx⟩:∃(x:Rg) (b:Bool),tW (j0 s.dz bL)=.tuple #[.agg x.vs.toArray,.bool b]:=by
  cases j0 s.dz bL with
  |some x=>exact⟨x,true,rfl⟩
  |none=>exact⟨⟨0,0,0,0,0,false⟩,false,rfl⟩
 rw[hx];refine⟨x.a,x.b,x.kind,x.file,x.idx,x.wr,b,rfl,ey _ (h2.ro 4 [1,0,2,3] rfl) rfl (λd a=>?_)⟩;have a:Sep E (bD q x.vs::cW r s.dz::bD p [Sv r,Pb t]::c3 t s.cI::L) d:=a;exact gN a (i:=0) rfl ⟨rfl,ei.mk hn (a.ro 4 [2,1,3] rfl)⟩
def wj:bA bH:=[Iv 0,Iv 0,.bool false,.bool false]
def Qr(o:bX En):bH:=match o with
 |some e=>.tuple #[.agg e.vs.toArray,.bool true]
 |none=>.tuple #[.agg wj.toArray,.bool false]
def r7{b i:Nat}{e:En}{F:Int->Int->Bool->Bool->Prop}(h:Sep E L w)(a:L[i]?=some (bD b e.vs))(k:F e.k e.id e.wr e.tc):
  ∃c:Int,w.cell? ((⟨b,0,none⟩:Addr).add 0)=some (Iv c)/\∃d:Int,w.cell? ((⟨b,0,none⟩:Addr).add 1)=some (Iv d)/\∃f:Bool,w.cell? ((⟨b,0,none⟩:Addr).add 2)=some (.bool f)/\∃g:Bool,w.cell? ((⟨b,0,none⟩:Addr).add 3)=some (.bool g)/\F c d f g:=
 ld h i rfl a rfl (ld h i rfl a rfl (ld h i rfl a rfl (ld h i rfl a rfl k)))
def wk(bL:Int)(f:fR s)(h:Sep E (ei p s::L) w):Calls P tk #[Pb p,Iv bL] w (cZ E (Qr (s.entry bL)) (ei p s::L)):=by
 obtain⟨r,t,hn,h⟩:=ei.open h;apply aqM;unfold Ow qU qZ zh zn zt zu;refine Al.i h (λq o h1=>⟨_,rfl,_,h1.cellAt 1 rfl 1,use (Qb f.cI (h1.ro 4 [3,0,1,2] rfl)) ?_⟩);rintro _ w2 ⟨k,h2⟩;have h2:Sep E (c3 t s.cI::bD q wj::bD p [Sv r,Pb t]::cW r s.dz::L) w2:=h2;have he:s.entry bL=if 0<=bL then dV s.cI bL.toNat else none:=rfl
 rcases k with⟨e,g,d,rfl⟩|⟨d,rfl⟩
 ·rw[he,bK g,d];have ho:=(f.cI.get d).2;refine⟨_,_,rfl,bF rfl (use (P7 ho h2) ?_)⟩;rintro _ l ⟨rfl,a⟩;refine⟨_,_,_,_,_,rfl,Al.i a (λz u j=>ey _ j rfl (λm b=>?_))⟩;have b:Sep E (bD z e.vs::c3 t s.cI::bD q wj::bD p [Sv r,Pb t]::cW r s.dz::L) m:=b;refine r7 b (i:=0) rfl (ey _ (b.ro 5 [2,0,1,3,4] rfl) rfl (λn c=>?_));have c:Sep E (bD q e.vs::bD z e.vs::c3 t s.cI::bD p [Sv r,Pb t]::cW r s.dz::L) n:=c;exact r7 c (i:=0) rfl ⟨rfl,ei.mk hn (c.ro 5 [3,4,2] rfl)⟩
 ·rw[he,d];refine⟨_,_,rfl,bT rfl (ey _ (h2.ro 4 [1,0,2,3] rfl) rfl (λl a=>?_))⟩;exact ld a 0 rfl rfl rfl (ld a 0 rfl rfl rfl (ld a 0 rfl rfl rfl (ld a 0 rfl rfl rfl ⟨rfl,ei.mk hn (a.ro 4 [2,3,1] rfl)⟩)))
def aKp{bL id:Int}{k:Nat}{wr:Bool}(hk:k=1\/k=2)(eD:0<=id/\id<9223372036854775808)(d:fR s)(h:Sep E (ei p s::L) w):
  Calls P Ki #[Pb p,Iv bL,.agg #[Iv (k:Int),Iv id,.bool wr,.bool false]] w (cC λv w'=>(∃r:Int,v=Iv r)/\Sep E (ei p (s.enter bL id k wr)::L) w'):=by
 obtain⟨n,rfl⟩:∃n:Nat,id=n:=⟨id.toNat,bu⟩
 obtain⟨e,he⟩:∃e:En,e=⟨k,n,wr,false⟩:=⟨_,rfl⟩
 have A:e.vs= [Iv (k:Int),Iv (n:Int),.bool wr,.bool false]:=by rw[he];rfl
 apply as9;unfold Pc qL qQ qU qZ qg zB zg zm zn;refine Al.i h (λq F h1=>?_);have h1:Sep E (bD q e.vs::ei p s::L) F:=by rw[A];exact h1
 refine use (Qq bL d h1.swap) ?_;rintro _ w2 ⟨rfl,h2⟩;obtain⟨x,hx⟩:∃(x:Rg),tW (s.cB bL)=.tuple #[.agg x.vs.toArray,.bool (s.cB bL).isSome]:=by
  cases s.cB bL with
  |some x=>exact⟨x,rfl⟩
  |none=>exact⟨⟨0,0,0,0,0,false⟩,rfl⟩
 rw[hx];refine⟨x.a,x.b,x.kind,x.file,x.idx,x.wr,_,rfl,Al.i h2 (λz J D=>ey _ D rfl (λG b=>?_))⟩;have b:Sep E (bD z x.vs::ei p s::bD q e.vs::L) G:=b;have j:s.enter bL n k wr=if(s.cB bL).isSome/\0<=(n:Int)/\(n:Int)<16777216 then {s with cI:=fa s.cI bL.toNat ⟨k,n,wr,false⟩} else s:=by unfold Sp.enter;rw[dt]
 rw[j];cases hw:s.cB bL with
 |none=>
  rw[bJ (by rintro⟨B,_⟩;cases B)];exact bT rfl ⟨⟨_,rfl⟩,b.ro 3 [1] rfl⟩
 |some y=>
  have C:0<=bL/\bL<65536:=by
   have hf:j0 s.dz bL=some y:=hw;unfold j0 at hf;rw[d.hs,bK rfl]at hf;have a:=Ah hf;have m:=(Rg.ft (Ag d.hs y (eG hf))).1;unfold Rg.has at a;simp only[gD]at a;omega
  have g:e.k=1\/e.k=2:=by rw[he];exact hk
  have f:e.id=n:=by rw[he]
  refine bF rfl (r7 b (i:=2) rfl (use (aKe g (by rw[f];omega) (b.ro 3 [0,2,1] rfl)) ?_));rintro _ H ⟨rfl,a⟩;have a:Sep E (bD z x.vs::bD q e.vs::ei p s::L) H:=a;rw[f];by_cases c:n<16777216
  ·rw[bK c,bK ⟨rfl,bu,bu⟩];refine⟨_,_,rfl,λw'=>Sep E (bD z x.vs::bD q e.vs::ei p s::L) w',bF rfl (ld a 1 rfl rfl rfl (bF ?_ a)),?_⟩;·rcases g with h|h<;>rw[h]<;>rfl
   rintro _ I m;obtain⟨r,t,hn,o⟩:=ei.open (m.ro 3 [2] rfl);obtain⟨l,rfl⟩:∃l:Nat,bL=l:=⟨bL.toNat,bu⟩
   refine⟨_,rfl,_,o.cell 1,use (EO (p:=l) (e:=e) d.cI bu (o.ro 3 [2,0,1] rfl)) ?_⟩;rintro _ K ⟨rfl,u⟩;rw[he]at u;exact⟨_,rfl,⟨_,rfl⟩,ei.mk hn (u.ro 3 [1,2,0] rfl)⟩
  ·rw[bJ c,bJ (by rintro⟨_,_,B⟩;omega)];exact⟨_,_,rfl,λ_=>False,bT rfl ⟨⟨_,rfl⟩,a.ro 3 [2] rfl⟩,λ_ I hf=>hf.elim⟩
end Go.Mp
namespace Go.Kw
def mh(T:c7)(a b:Int):walk T a b=(T.filter λq=>hI a b q.1).map λq=>(q.1:Int):=by
 unfold walk;rw[List.filter_map,uS];rfl
def EY{x:Rg}{a b:Int}(hx:x.valid=true)(i:x.a<=a)(hb:b<=x.b):∀y∈fU x a b,y.valid=true/\a<=y.a/\y.b<=b:=by
 intro y d;unfold fU at d;split at d
 ·next g=>
  rw[h9]at d;subst d;have hf:=Rg.ft hx;obtain⟨h1,h2⟩:=hf;refine⟨?_,hh _,hh _⟩;unfold Rg.valid at hx ⊢;simp only[dF,gD]at hx ⊢;obtain⟨h,c⟩:=hx;refine⟨by show 0<=a/\a<b/\b<=65536;omega,?_⟩;show(if x.kind=1 then decide (x.file=0/\(if x.kind=2 then x.idx+(a-x.a)else x.idx)=0)else if x.kind=2 then decide (0<=x.file/\x.file<=1048576/\0<=(if x.kind=2 then x.idx+(a-x.a)else x.idx)/\(if x.kind=2 then x.idx+(a-x.a)else x.idx)<=2097152-(b-a))else false)=true;by_cases f:x.kind=1
  ·rw[bK f]at c ⊢;rw[cK];exact c
  ·rw[bJ f]at c ⊢;by_cases e:x.kind=2
   ·rw[bK e]at c ⊢;rw[bK e];simp only[gD]at c ⊢;omega
   ·rw[bJ e]at c;cases c
 ·cases d
def EZ{x:Rg}{a b:Int}:(fU x a b).length<=1:=by unfold fU;split<;>simp
def E0{l:bA Rg}{a:Int}(h1:l.length<=1)(h:∀y∈l,y.valid=true/\a<=y.a):fm a l=true:=by
 match l,h1,h with
 |[],_,_=>rfl
 |[x],_,h=>simp[fm,(h x fS).1,(h x fS).2]
def aKw{x:Rg}{a b:Int}(hx:x.valid=true):fm x.a (fG a b x)=true/\∀y∈fG a b x,y.valid=true/\x.a<=y.a/\y.b<=x.b:=by
 have hf:=(Rg.ft hx).1;unfold fG;split
 ·have h:=EY hx (hh x.a) (hh x.b);exact⟨E0 EZ λy c=>⟨(h y c).1,(h y c).2.1⟩,h⟩
 ·next e=>
  have h1:=EY (a:=x.a) (b:=min x.b a) hx (hh _) bu;have h2:=EY (a:=max x.a b) (b:=x.b) hx bu (hh _);refine⟨wi.2 ⟨E0 EZ λy c=>⟨(h1 y c).1,(h1 y c).2.1⟩,E0 EZ λy c=>⟨(h2 y c).1,?_⟩⟩,λy c=>?_⟩
  ·have f:=(h2 y c).2.1;cases d:(fU x x.a (min x.b a)).getLast? with
   |none=>show x.a<=y.a;omega
   |some z=>
    have:=(h1 z (Uf d)).2.2;show z.b<=y.a;omega
  ·rcases gb.1 c with c|c;·have:=h1 y c;exact⟨this.1,this.2.1,bu⟩
   ·have:=h2 y c;exact⟨this.1,bu,this.2.2⟩
def Qt:∀ {l:bA Rg} {p a b:Int},fm p l=true->fm p (l.flatMap (fG a b))=true
 |[],_,_,_,_=>rfl
 |x::r,p,a,b,h=>by
  simp only[fm,dF,gD]at h;obtain⟨⟨h1,h2⟩,i⟩:=h;have d:=aKw (a:=a) (b:=b) h1;have hr:=Qt (a:=a) (b:=b) i;rw[oq];refine wi.2 ⟨EX d.1 λy e=>?_,?_⟩;·have:=(d.2 y (eG e)).2.1;omega
  ·refine EX hr λy e=>?_;have f:∀ {l:bA Rg} {p:Int} {y:Rg},fm p l=true->l[0]?=some y->p<=y.a:=by
    intro l p y g c;cases l with
    |nil=>simp at c
    |cons z l=>
     simp at c;subst c;simp only[fm,dF,gD]at g;exact g.1.2
   have k:=f hr e;cases j:(fG a b x).getLast? with
   |none=>show p<=y.a;have:=(Rg.ft h1).1;omega
   |some z=>show z.b<=y.a;have:=(d.2 z (Uf j)).2.2;omega
def fR.cut{s:Sp}(h:fR s)(a b:Int):fR (s.cut a b).1:=by
 refine⟨h.cI.filter _,?_⟩;show fm 0 (ha s.dz a b)=true;unfold ha;rw[bK h.hs];exact Qt h.hs
def fR.entry{s:Sp}(h:fR s){p:Int}{e:En}(he:s.entry p=some e):0<=p/\p<65536/\e.ok/\dV s.cI p.toNat=some e:=by
 unfold Sp.entry at he;split at he;·next hp=>have:=h.cI.get he;exact⟨hp,bu,this.2,he⟩
 ·cases he
def fR.cq{s:Sp}(h:fR s)(p:Int):fR (s.cq p):=by
 unfold Sp.cq;split
 ·next e he=>
  obtain⟨h1,h2,a,b⟩:=h.entry he;exact⟨h.cI.set bu a,h.hs⟩
 ·exact h
def tX{s:Sp}(h:fR s){p:Int}{x:Rg}(hw:s.cB p=some x):0<=p/\p<65536/\x.valid=true/\x.a<=p/\p<x.b:=by
 unfold Sp.cB j0 at hw;rw[h.hs,bK rfl]at hw;have a:=Ah hw;have b:=Ag h.hs x (eG hw);have c:=(Rg.ft b).1;unfold Rg.has at a;simp only[gD]at a;exact⟨bu,bu,b,a⟩
def fR.enter{s:Sp}(h:fR s){p id:Int}{k:Nat}{wr:Bool}(hk:k=1\/k=2):fR (s.enter p id k wr):=by
 unfold Sp.enter;split
 ·next a=>
  obtain⟨hw,b,h1⟩:=a;obtain⟨x,hx⟩:=jf.1 hw;have hp:=tX h hx;exact⟨h.cI.set bu ⟨hk,by show id.toNat<_;omega⟩,h.hs⟩
 ·exact h
end Go.Kw
namespace Go.Mp
open Go Go.Vc Go.Sp Go.Proofs Go.Kc Go.Kv Go.Kw
variable{E:Env}{L:cr}{w W:bI}{s:Kw.Sp}{p:Nat}
def Ai(c:fR s)(a b:Int):(s.ids a b).length<=65536:=by
 unfold Sp.ids;rw[dY];exact lv (mw _ _) (gh c.cI)
def Qu(a b:Int)(f:fR s)(h:Sep E (ei p s::L) w):Calls P CD #[Pb p,Iv a,Iv b] w
  (cC λv w'=>∃q:Sl,v=Sv q/\q.n=(s.ids a b).length/\Sep E (bw q 1 (bC (s.ids a b))::ei p s::L) w'):=by
 obtain⟨F,m⟩:∃F,s.cI.filter (λq=>hI a b q.1)=F:=⟨_,rfl⟩
 have d:s.ids a b=F.map λq=>(q.2.id:Int):=by rw[<- m];rfl
 have B:walk s.cI a b=F.map λq=>(q.1:Int):=by rw[mh,m]
 have hlen:=Ai f a b;rw[d,dY]at hlen;rw[d];apply ata;unfold Oc qC qD qJ qL qU qW qZ qf zu zy;obtain⟨r,t,hn,h⟩:=ei.open h;refine⟨_,rfl,_,h.cell 1,use (Qf (a:=a) (b:=b) f.cI (h.ro 3 [2,0,1] rfl)) ?_⟩;rintro _ K ⟨y,rfl,n,h1⟩;rw[B]at n h1;have h1:Sep E (bw y 1 (bC (F.map λq=>(q.1:Int)))::c3 t s.cI::bD p [Sv r,Pb t]::cW r s.dz::L) K:=h1;have h2:=(ei.mk (s:=s) (p:=p) (r:=r) (t:=t) hn (h1.ro 4 [2,3,1,0] rfl)).swap;refine⟨y,rfl,λl i w'=>∃k:Nat,i=k/\k<=F.length/\l.n=((F.take k).map λq=>(q.2.id:Int)).length/\Sep E (bw l 1 (bC ((F.take k).map λq=>(q.2.id:Int)))::bw y 1 (bC (F.map λq=>(q.1:Int)))::ei p s::L) w',λ_ i _=>(y.n-i).toNat,⟨0,rfl,dX _,rfl,bw.none_ h2⟩,?_⟩;rw[dY]at n;rintro _ l _ R ⟨k,rfl,hk,hl,e⟩;refine cU (λQ=>?_) (λO=>?_)
 ·obtain⟨x,hx⟩:∃x,F[k]?=some x:=⟨_,du⟩
  have D:x∈s.cI:=by
   have:=eG hx;rw[<- m]at this;exact(gp.1 this).1
  have C:s.entry (x.1:Int)=some x.2:=by
   unfold Sp.entry;rw[eV,dt];exact tU f.cI.c1 D
  refine mN 1 e rfl (by rw[dY];exact n) bu (by rw[dY];omega) (λc A=>?_);have J:(F.map λq=>(q.1:Int)).getD ((k:Int)).toNat 0=(x.1:Int):=by
   rw[dt,dC,ez,hx];rfl
  rw[J]at A;refine⟨_,A,use (wk (x.1:Int) f (e.ro 3 [2,0,1] rfl)) ?_⟩;rintro _ S ⟨rfl,H⟩;rw[C];refine⟨_,_,_,_,_,rfl,Al.i H (λz T I=>ey _ I rfl (λU o=>ld o 0 rfl rfl (x:=(x.2.id:Int)) rfl (Al.i o (λN M j=>?_))))⟩;have j:Sep E (bD N [Iv (x.2.id:Int)]::bD z x.2.vs::ei p s::bw l 1 (bC ((F.take k).map λq=>(q.2.id:Int)))::bw y 1 (bC (F.map λq=>(q.1:Int)))::L) M:=j;refine r4 hl (by rw[dY,gT];omega) (j.ro 5 [0,3,4,2] rfl) (λs' V g u=>?_);have G:(F.take (k+1)).map (λq=>(q.2.id:Int))=(F.take k).map (λq=>(q.2.id:Int))++[(x.2.id:Int)]:=by rw[take_succ hx,lu];rfl
  rw[<- G]at g u;exact⟨⟨k+1,c4,bu,g,u⟩,by rw[c4];dsimp only;omega⟩
 ·have:k=F.length:=by omega
  subst this;rw[fB]at hl e;exact⟨l,rfl,hl,e.ro 3 [0,2] rfl⟩
def Qv(b:fR s)(h:Sep E (ei p s::L) w):Calls P ys #[Pb p] w
  (cC λv w'=>∃q:Sl,v=Sv q/\q.n=(s.ids 0 65536).length/\Sep E (bw q 1 (bC (s.ids 0 65536))::ei p s::L) w'):=by
 apply as7;unfold Oa qJ;refine use (Qu 0 65536 b h) ?_;rintro _ c ⟨q,rfl,a,h1⟩;exact⟨q,rfl,q,rfl,a,h1⟩
def aIu(a:fR s)(h:Sep E (ei p s::L) w):Calls P Jm #[Pb p] w (cZ E (Iv (s.cI.length:Nat)) (ei p s::L)):=by
 obtain⟨r,t,hn,h⟩:=ei.open h;apply arU;unfold Ob qQ qZ;refine⟨_,rfl,_,h.cell 1,use (aLv a.cI (h.ro 3 [2,0,1] rfl)) ?_⟩;rintro _ b ⟨rfl,h1⟩;exact⟨_,rfl,rfl,ei.mk hn (h1.ro 3 [1,2,0] rfl)⟩
def Qw(bL:Int)(f:fR s)(h:Sep E (ei p s::L) w):Calls P CS #[Pb p,Iv bL] w (cC λv w'=>(∃b:Bool,v=.bool b)/\Sep E (ei p (s.cq bL)::L) w'):=by
 obtain⟨r,t,hn,h⟩:=ei.open h;have he:s.entry bL=if 0<=bL then dV s.cI bL.toNat else none:=rfl
 apply aqN;unfold OH qG qQ qZ zU zh;refine⟨_,rfl,_,h.cell 1,use (Qb f.cI (h.ro 3 [2,0,1] rfl)) ?_⟩;rintro _ m ⟨l,h1⟩;have h1:Sep E (c3 t s.cI::bD p [Sv r,Pb t]::cW r s.dz::L) m:=h1;rcases l with⟨e,j,d,rfl⟩|⟨d,rfl⟩
 ·have a:s.entry bL=some e:=by rw[he,bK j,d]
  obtain⟨_,n,ho,_⟩:=f.entry a;have c:s.cq bL= {s with cI:=fa s.cI bL.toNat e.cq} :=by unfold Sp.cq;rw[a];rfl
  rw[c];obtain⟨g,rfl⟩:∃g:Nat,bL=g:=⟨bL.toNat,bu⟩
  rw[dt];refine⟨_,_,rfl,bT rfl (Dr.i h1 (λw2 h2=>⟨_,rfl,_,h2.cellAt 1 rfl 1,use (aIp ho h2) ?_⟩))⟩;rintro _ o ⟨rfl,i⟩;refine⟨_,rfl,_,i.cellAt 1 rfl 1,rfl,use (EO (p:=g) (e:=e.cq) f.cI bu i) ?_⟩;rintro _ q ⟨rfl,k⟩;exact⟨_,rfl,⟨_,rfl⟩,ei.mk hn (k.ro 3 [1,2,0] rfl)⟩
 ·have a:s.entry bL=none:=by rw[he,d]
  have c:s.cq bL=s:=by unfold Sp.cq;rw[a]
  rw[c];exact⟨_,_,rfl,bF rfl ⟨⟨_,rfl⟩,ei.mk hn (h1.ro 3 [1,2,0] rfl)⟩⟩
def Qx{a b:Int}(U:0<=a/\a<=65536)(hb:0<=b/\b<=131072)(l:fR s)(h:Sep E (ei p s::L) w):Calls P CO #[Pb p,Iv a,Iv b] w
  (cC λv w'=>∃q:Sl,v=Sv q/\q.n=(s.cut a b).2.length/\Sep E (bw q 1 (bC (s.cut a b).2)::ei p (s.cut a b).1::L) w'):=by
 obtain⟨F,j⟩:∃F,s.cI.filter (λq=>hI a b q.1)=F:=⟨_,rfl⟩
 have O:walk s.cI a b=F.map λq=>(q.1:Int):=by rw[mh,j]
 have K:F.Pairwise λx y=>x.1<y.1:=by rw[<- j];exact l.cI.c1.filter _
 have aa:F.length<=65536:=by rw[<- j];exact lv (mw _ _) (gh l.cI)
 have H:s.cut a b=(⟨ha s.dz a b,s.cI.filter λq=> !hI a b q.1⟩,s.ids a b):=rfl;rw[H];dsimp only;apply as6;unfold OD qD qF qJ qK qO qW qZ;refine use (Qu a b l h) ?_;rintro _ ae ⟨q,rfl,W,h1⟩;obtain⟨r,t,hn,h2⟩:=ei.open h1.swap;refine⟨q,rfl,_,rfl,_,h2.cell 1,use (Qf (a:=a) (b:=b) l.cI (h2.ro 4 [2,0,1,3] rfl)) ?_⟩;rintro _ X ⟨y,rfl,I,B⟩;rw[O]at I B;rw[dY]at I;obtain⟨d,e⟩:∃d:Nat->c7,d= λk=>s.cI.filter λx=> !((F.take k).map Prod.fst).contains x.1:=⟨_,rfl⟩
 have R:d 0=s.cI:=by rw[e];exact xw.2 λx _=>by simp
 have B:Sep E (bD p [Sv r,Pb t]::cW r s.dz::c3 t (d 0)::bw y 1 (bC (F.map λq=>(q.1:Int)))::bw q 1 (bC (s.ids a b))::L) X:=by rw[R];exact B.ro 5 [2,3,1,0,4] rfl
 refine⟨y,rfl,λi w'=>∃k:Nat,i=k/\k<=F.length/\Sep E (bD p [Sv r,Pb t]::cW r s.dz::c3 t (d k)::bw y 1 (bC (F.map λq=>(q.1:Int)))::bw q 1 (bC (s.ids a b))::L) w',λi _=>(y.n-i).toNat,⟨0,rfl,dX _,B⟩,?_⟩;rintro _ _ af ⟨k,rfl,hk,g⟩;refine cU (λo=>?_) (λab=>?_)
 ·obtain⟨x,hx⟩:∃x,F[k]?=some x:=⟨_,du⟩
  refine mN 3 g rfl (by rw[dY];exact I) bu (by rw[dY];omega) (λc C=>?_);have V:(F.map λq=>(q.1:Int)).getD ((k:Int)).toNat 0=(x.1:Int):=by
   rw[dt,dC,ez,hx];rfl
  rw[V]at C;have Q:x∈d k:=by
   rw[e];have f:=eG hx;rw[<- j]at f;refine gp.2 ⟨(gp.1 f).1,?_⟩;have A:¬ x.1∈(F.take k).map Prod.fst:=by
    intro n;obtain⟨z,J,ad⟩:=fD.1 n;have o:=(c2.1 hx).1;have hr:=K;rw[<- fP k F,kZ o]at hr;have m:=(jE.1 hr).2.2 z J F[k] fS;rw[ea o]at hx;rw[cV hx]at m;omega
   simpa using A
  have G:Tok (d k):=by rw[e];exact l.cI.filter _
  refine⟨_,C,_,rfl,_,g.cell 1,use (aGf (p:=x.1) G (fD.2 ⟨x,Q,rfl⟩) (g.ro 5 [2,0,1,3,4] rfl)) ?_⟩;rintro _ Y ⟨rfl,f⟩;have T:(d k).filter (λz=>z.1 !=x.1)=d (k+1):=by
   rw[e];dsimp only;rw[List.filter_filter];refine xz λz _=>?_;rw[take_succ hx,lu];show((z.1 !=x.1)&& !((F.take k).map Prod.fst).contains z.1)= !((F.take k).map Prod.fst++[x.1]).contains z.1;rw[Uh];by_cases n:z.1=x.1<;>simp[n,Bool.and_comm]
  rw[T]at f;exact⟨_,rfl,⟨k+1,c4,bu,f.ro 5 [1,2,0,3,4] rfl⟩,by rw[c4];dsimp only;omega⟩
 ·have:k=F.length:=by omega
  subst this;have S:d F.length=s.cI.filter λq=> !hI a b q.1:=by
   rw[e];dsimp only;refine xz λz J=>?_;congr 1;rw[fB];cases D:hI a b z.1 with
   |true=>exact lq.2 (fD.2 ⟨z,by rw[<- j];exact gp.2 ⟨J,D⟩,rfl⟩)
   |false=>
    have A:¬ z.1∈F.map Prod.fst:=by
     intro n;obtain⟨u,hu,N⟩:=fD.1 n;rw[<- j]at hu;have:=(gp.1 hu).2;rw[N,D]at this;cases this
    cases C:(F.map Prod.fst).contains z.1 with
    |false=>rfl
    |true=>exact absurd (lq.1 C) A
  rw[S]at g;refine⟨_,rfl,r,g.cell 0,use (aLp U hb hn (by have:=Af l.hs;omega) (g.ro 5 [1,0,2,3,4] rfl)) ?_⟩;rintro _ Y ⟨r',rfl,M,f⟩;refine⟨r',rfl,_,rfl,St.i (f.ro 6 [2,0,3,5] rfl) (by show 0<2;decide) (λZ m=>⟨q,rfl,W,?_⟩)⟩;have m:Sep E (bD p [.slice r'.p r'.n r'.c,Pb t]::cW r' (ha s.dz a b)::c3 t (s.cI.filter λq=> !hI a b q.1)::bw q 1 (bC (s.ids a b))::L) Z:=m;exact(ei.mk (s:=⟨ha s.dz a b,s.cI.filter λq=> !hI a b q.1⟩) M m).swap
def r8{r:Sl}{m:Nat}{vs:bA bH}(h:Sep E (bw r m vs::L) w)(c:Nat):gA r.p 0 c m=r.p:=by
 unfold gA;split;·rfl
 ·unfold bw at h;split at h;·next hp=>rw[hp];rfl
  ·next a d=>
   obtain⟨spare,h⟩:=Sep.ex.1 h;obtain⟨⟨h1,h2,_⟩,_⟩:=Sep.cL.1 h;obtain⟨b,o,q⟩:=a;simp only at h1 h2;subst h1 h2;rw[d];show some (Addr.add ⟨b,0,none⟩ (0*m))=_;rw[cj,nA]
def aIq{r:Sl}{l:bA Rg}(hn:r.n=l.length)(hb:l.length<1000000)(h:Sep E (cW r l::L) w):
  Calls P J1 #[Sv r] w (cC λv w'=>∃r':Sl,v=.slice r'.p r'.n r'.c/\r'.n=l.length/\Sep E (cW r' l::cW r l::L) w'):=by
 apply XI;unfold Me zY;refine cy (λc=>⟨⟨none,0,0⟩,rfl,?_⟩) (λg=>Al.i h (λq i h1=>?_))
 ·have a:=h;unfold cW bw at a;have hp:r.p=none:=Uc.1 c;rw[hp]at a;obtain⟨⟨h1,_,b⟩,_⟩:=Sep.cL.1 a;have hl:l= []:=uC bu;subst hl;exact⟨rfl,bw.none_ h⟩
 ·have h2:Sep E (bw ⟨some ⟨q,0,none⟩,0,0⟩ 6 []::cW r l::L) i:=bw.make (vs:=[]) (spare:=[]) h1 rfl rfl (ec 0);have f:=Src.sub (l:=0) (n':=r.n) (c':=r.c) h2 (q:=1) rfl qT bu (Qn l);rw[r8 (h2.swap) r.c]at f;refine bw.app h2 qT rfl f (by rw[hn];show(0+l.length)*_<=_;omega) (λr' w2 d b=>⟨r',rfl,by rw[d,hn];exact fz _,?_⟩);have e: []++((bO Rg.vs l).drop (0*6)).take (r.n*6)=bO Rg.vs l:=by
   rw[nA,rv,l1,Ev Rg.tV,iq bu]
  rw[e]at b;exact b
def aGe(d:fR s)(h:Sep E (ei p s::L) w):Calls P JG #[Pb p] w (cC λv w'=>∃c:Nat,v=Pb c/\Sep E (ei c s::ei p s::L) w'):=by
 obtain⟨r,t,hn,h⟩:=ei.open h;apply aqL;unfold OM qG qJ qK qR qZ;refine Dr.i h (λi h1=>⟨_,rfl,r,h1.cell 0,_,rfl,_,h1.cell 1,use (aIq hn (by have:=Af d.hs;omega) (h1.ro 3 [1,0,2] rfl)) ?_⟩);rintro _ w2 ⟨r',rfl,b,h2⟩;refine⟨r',rfl,_,h2.cellAt 2 rfl 1,rfl,use (aIv d.cI (h2.ro 4 [3,0,1,2] rfl)) ?_⟩;rintro _ j ⟨c,rfl,e⟩;refine⟨_,rfl,Al.i e (λq g a=>⟨q,rfl,?_⟩)⟩;have a:Sep E (bD q [.slice r'.p r'.n r'.c,Pb c]::c3 c s.cI::c3 t s.cI::cW r' s.dz::cW r s.dz::bD p [Sv r,Pb t]::L) g:=a;have f:=ei.mk (s:=s) (p:=p) hn (a.ro 6 [5,4,2,0,3,1] rfl);exact ei.mk (s:=s) (p:=q) b (f.ro 4 [1,2,3,0] rfl)
end Go.Mp
namespace Go.Mp
open Go Go.Vc
def Qy:dU:={quiet:=λd=>[20,24,27,30,33,36,39,41,43,46,49,50,51,54,56,58,61,65,66,68,72,74,76,77,80,83,85,87,89,92,93,96,100,101,103,107,109,111,112,115,118,120,122,124,126,128,131,132,134].contains d,head:=λr=>(bif r==6 then 8 else 0),loop:=λr=>(bif r==17 then[(15,.int .u64),(16,.int .u64)]else bif r==24 then[(16,.int .u64),(18,.int .u64)]else[]),join:=λr=>(bif r==3 then some []else bif r==5 then some []else bif r==18 then some []else bif r==21 then some [(15,.int .u64)]else bif r==25 then some []else bif r==28 then some [(18,.int .u64)]else none)}
def E1(h f y:Int)(K:bj0)(E:bA PanicEntry->bi9)(w:bI):Prop:=
 ∃C:bi9,(bif(y==0)then(∃H:bH,w.cell? (⟨0,0,none⟩:Addr)=some H/\(match H with | .iface t v=>E [pe (.iface t v)] w|_=>False))else(C w))/\
  (∀S:Nat->bH,∀w2:bI,C w2->∃D:bi9,(bif(decide (y<=h))then(∃I:bH,w2.cell? (⟨1,0,none⟩:Addr)=some I/\(match I with
  |.iface t v=>E [pe (.iface t v)] w2|_=>False))else(D w2))/\(∀T:Nat->bH,∀B:bI,D B->bif(h==0)then(Dr (λR=>y≠0/\y≠0/\K (.tuple
  #[(.int .u64 (u64.wrap (f.tdiv y))),(.int .u64 (f.tmod y))]) R) B)else(Calls P Wu #[(.int .u64 y)] B λF G=>∃a:Int,F=
  .returned (Iv a)/\0<=(u64.wrap a)/\0<=(32:Int)/\0<=(u64.wrap a)/\0<=(u64.wrap (64-(u64.wrap a)))/\0<=
  (u64.wrap a)/\0<=(32:Int)/\((u64.wrap (y*2^(min (u64.wrap a).toNat 64))).fdiv (2^(min (32:Int).toNat 64)))≠0/\∃p:Int->bI->
  Prop,(∃(n:Int->Int->bi9) (u:Int->Int->bI->Nat),n (u64.wrap ((ji .u64 (u64.wrap (h*2^(min (u64.wrap a).toNat 64)))
  (f.fdiv (2^(min (u64.wrap (64-(u64.wrap a))).toNat 64)))).tdiv ((u64.wrap (y*2^(min (u64.wrap a).toNat 64))).fdiv (2^(min (32:
  Int).toNat 64))))) (u64.wrap ((ji .u64 (u64.wrap (h*2^(min (u64.wrap a).toNat 64))) (f.fdiv (2^(min (u64.wrap (64-(u64.wrap
  a))).toNat 64))))-(u64.wrap ((u64.wrap ((ji .u64 (u64.wrap (h*2^(min (u64.wrap a).toNat 64))) (f.fdiv (2^(min (u64.wrap
  (64-(u64.wrap a))).toNat 64)))).tdiv ((u64.wrap (y*2^(min (u64.wrap a).toNat 64))).fdiv (2^(min (32:Int).toNat 64)))))*((u64.wrap
  (y*2^(min (u64.wrap a).toNat 64))).fdiv (2^(min (32:Int).toNat 64))))))) G/\∀L:Nat->bH,∀e:Int,∀b:Int,∀i:bI,n e
  b i->∃q:bi9,(bif(decide (e≥4294967296))then(q i)else(bif(decide ((u64.wrap (e*(dy .u64 (u64.wrap (y*2^(min
  (u64.wrap a).toNat 64))) 4294967295)))>(u64.wrap ((u64.wrap (4294967296*b))+((u64.wrap (f*2^(min (u64.wrap a).toNat
  64))).fdiv (2^(min (32:Int).toNat 64)))))))then(q i)else(p e i)))/\(∀M:Nat->bH,∀l:bI,q l->bif(decide ((u64.wrap (b+
  ((u64.wrap (y*2^(min (u64.wrap a).toNat 64))).fdiv (2^(min (32:Int).toNat 64)))))≥4294967296))then(p (u64.wrap (e-1)) l)else
  ((n (u64.wrap (e-1)) (u64.wrap (b+((u64.wrap (y*2^(min (u64.wrap a).toNat 64))).fdiv (2^(min (32:Int).toNat 64))))) l/\
  u (u64.wrap (e-1)) (u64.wrap (b+((u64.wrap (y*2^(min (u64.wrap a).toNat 64))).fdiv (2^(min (32:Int).toNat 64))))) l<
  u e b i))))/\(∀J:Nat->bH,∀g z,p g z->((u64.wrap (y*2^(min (u64.wrap a).toNat 64))).fdiv (2^(min
  (32:Int).toNat 64)))≠0/\∃r:Int->bi9,(∃(o:Int->Int->bi9) (x:Int->Int->bI->Nat),o (u64.wrap ((u64.wrap
  ((u64.wrap ((u64.wrap ((ji .u64 (u64.wrap (h*2^(min (u64.wrap a).toNat 64))) (f.fdiv (2^(min (u64.wrap (64-(u64.wrap
  a))).toNat 64))))*4294967296))+((u64.wrap (f*2^(min (u64.wrap a).toNat 64))).fdiv (2^(min (32:Int).toNat 64)))))-(u64.wrap (g*
  (u64.wrap (y*2^(min (u64.wrap a).toNat 64)))))))-(u64.wrap ((u64.wrap ((u64.wrap ((u64.wrap ((u64.wrap ((ji .u64
  (u64.wrap (h*2^(min (u64.wrap a).toNat 64))) (f.fdiv (2^(min (u64.wrap (64-(u64.wrap a))).toNat 64))))*4294967296))+
  ((u64.wrap (f*2^(min (u64.wrap a).toNat 64))).fdiv (2^(min (32:Int).toNat 64)))))-(u64.wrap (g*(u64.wrap (y*2^(min
  (u64.wrap a).toNat 64))))))).tdiv ((u64.wrap (y*2^(min (u64.wrap a).toNat 64))).fdiv (2^(min (32:Int).toNat 64)))))*((u64.wrap (y*
  2^(min (u64.wrap a).toNat 64))).fdiv (2^(min (32:Int).toNat 64))))))) (u64.wrap ((u64.wrap ((u64.wrap ((u64.wrap ((ji .u64
  (u64.wrap (h*2^(min (u64.wrap a).toNat 64))) (f.fdiv (2^(min (u64.wrap (64-(u64.wrap a))).toNat 64))))*4294967296))+
  ((u64.wrap (f*2^(min (u64.wrap a).toNat 64))).fdiv (2^(min (32:Int).toNat 64)))))-(u64.wrap (g*(u64.wrap (y*2^(min
  (u64.wrap a).toNat 64))))))).tdiv ((u64.wrap (y*2^(min (u64.wrap a).toNat 64))).fdiv (2^(min (32:Int).toNat 64))))) z/\∀O:Nat->
  bH,∀c:Int,∀d:Int,∀j:bI,o c d j->∃s:bi9,(bif(decide (d≥4294967296))then(s j)else(bif(decide
  ((u64.wrap (d*(dy .u64 (u64.wrap (y*2^(min (u64.wrap a).toNat 64))) 4294967295)))>(u64.wrap ((u64.wrap (4294967296*
  c))+(dy .u64 (u64.wrap (f*2^(min (u64.wrap a).toNat 64))) 4294967295)))))then(s j)else(r d j)))/\(∀Q:Nat->bH,∀m:
  bI,s m->bif(decide ((u64.wrap (c+((u64.wrap (y*2^(min (u64.wrap a).toNat 64))).fdiv (2^(min (32:Int).toNat 64)))))≥
  4294967296))then(r (u64.wrap (d-1)) m)else((o (u64.wrap (c+((u64.wrap (y*2^(min (u64.wrap a).toNat 64))).fdiv (2 ^
  (min (32:Int).toNat 64))))) (u64.wrap (d-1)) m/\x (u64.wrap (c+((u64.wrap (y*2^(min (u64.wrap a).toNat 64))).fdiv (2 ^
  (min (32:Int).toNat 64))))) (u64.wrap (d-1)) m<x c d j))))/\(∀N:Nat->bH,∀k A,r k A->0<=
  (u64.wrap a)/\K (.tuple #[(.int .u64 (u64.wrap ((u64.wrap (g*4294967296))+k))),(.int .u64 ((u64.wrap ((u64.wrap
  ((u64.wrap ((u64.wrap ((u64.wrap ((u64.wrap ((ji .u64 (u64.wrap (h*2^(min (u64.wrap a).toNat 64))) (f.fdiv (2^(min
  (u64.wrap (64-(u64.wrap a))).toNat 64))))*4294967296))+((u64.wrap (f*2^(min (u64.wrap a).toNat 64))).fdiv (2^(min (32:
  Int).toNat 64)))))-(u64.wrap (g*(u64.wrap (y*2^(min (u64.wrap a).toNat 64)))))))*4294967296))+(dy .u64 (u64.wrap (f*2 ^
  (min (u64.wrap a).toNat 64))) 4294967295)))-(u64.wrap (k*(u64.wrap (y*2^(min (u64.wrap a).toNat 64))))))).fdiv (2^(min
  (u64.wrap a).toNat 64))))]) A)))))
def atX(b c y:Int)(K:bj0)(a:bA PanicEntry->bi9)(w:bI):kI P fV gZ cD Qy f245 #[(.int .u64 b),(.int .u64 c),(.int .u64 y)] K a w=E1 b c y K a w:=by kernel_rfl
def atq:lA P Qy f245 3=true:=by kernel_rfl
def asT(b c y:Int){K:bj0}{a:bA PanicEntry->bi9}{w:bI}(h:E1 b c y K a w):Calls P vM #[(.int .u64 b),(.int .u64 c),(.int .u64 y)] w (rJ K a):=Ir mixed func245 atq (by rw[atX];exact h)
end Go.Mp
namespace Go.Mp
open Go Go.Vc Go.Sp Go.Proofs Go.Kc
def aJ6{x y:Nat}(hx:x<4294967296)(i:y<4294967296)(w:bI):Calls P y1 #[.int .u64 (x:Nat),.int .u64 (y:Nat)] w (cC λv w'=>v=.tuple #[.int .u64 0,.int .u64 ((x*y:Nat):Int)]/\w'=w):=by
 apply Nv;unfold Ei;have c:x*y<18446744073709551616:=by
  have:x*y<=4294967295*4294967295:=HA bu bu;omega
 have f:(x:Int).fdiv (2^(min (32:Int).toNat 64))=((0:Nat):Int):=by
  rw[show(x:Int).fdiv (2^(min (32:Int).toNat 64))=((x/2^32:Nat):Int)from sh x 32,Bh bu]
 have g:(y:Int).fdiv (2^(min (32:Int).toNat 64))=((0:Nat):Int):=by
  rw[show(y:Int).fdiv (2^(min (32:Int).toNat 64))=((y/2^32:Nat):Int)from sh y 32,Bh bu]
 have m:∀ {z:Nat},z<18446744073709551616->dy .u64 (z:Int) 4294967295=((z%4294967296:Nat):Int):=by
  intro z j;have h:=tA (a:=z) (b:=4294967295) j bu;have e:z &&& 4294967295=z%4294967296:=uB z 32;rw[e]at h;exact h
 rw[f,g,m bu,m bu,mZ hx,mZ i];have d:∀a:Int,((0:Nat):Int)*a=((0:Nat):Int):=λa=>by simp
 have k:∀a:Int,a*((0:Nat):Int)=((0:Nat):Int):=λa=>by simp
 rw[d,d,k,dA (n:=0) bu,<- uO,dA c];rw[show((x*y:Nat):Int).fdiv (2^(min (32:Int).toNat 64))=((x*y/4294967296:Nat):Int)from sh _ 32];rw[show((0:Nat):Int)+((x*y/4294967296:Nat):Int)=((x*y/4294967296:Nat):Int) by omega,dA (n:=x*y/4294967296) bu];rw[show((x*y/4294967296:Nat):Int).fdiv (2^(min (32:Int).toNat 64))=((x*y/4294967296/4294967296:Nat):Int)from sh _ 32];rw[m bu,show x*y/4294967296/4294967296=0 by omega,mZ bu];rw[show((x*y/4294967296:Nat):Int)+((0:Nat):Int)=((x*y/4294967296:Nat):Int) by omega,dA (n:=x*y/4294967296) bu];rw[show((x*y/4294967296:Nat):Int).fdiv (2^(min (32:Int).toNat 64))=((x*y/4294967296/4294967296:Nat):Int)from sh _ 32,show x*y/4294967296/4294967296=0 by omega];refine⟨bN,bN,bN,bN,bN,?_,rfl⟩;simp[nX]
def Qz{E:Env}{L:cr}{x s:Nat}(hx:x<18446744073709551616)(g:s≠0){w:bI}(h:Sep E L w):Calls P vM #[.int .u64 0,.int .u64 (x:Nat),.int .u64 (s:Nat)] w (cZ E (.tuple #[.int .u64 ((x/s:Nat):Int),.int .u64 ((x%s:Nat):Int)]) L):=by
 have key:Calls P vM #[.int .u64 0,.int .u64 (x:Nat),.int .u64 (s:Nat)] w (rJ (λv w'=>v=.tuple #[.int .u64 ((x/s:Nat):Int),.int .u64 ((x%s:Nat):Int)]/\Sep E L w') (λ_ _=>False)):=by
  apply asT;unfold E1;refine⟨λw'=>w'=w,eC (λe=>absurd e bu) (λ_=>rfl),?_⟩;rintro _ d rfl;refine⟨λw'=>w'=d,ij (λe=>absurd e bu) (λ_=>rfl),?_⟩;rintro _ w2 rfl;refine bT rfl (Dr.i h (λi c=>⟨bu,bu,?_,c⟩));have a:((x:Int)).tdiv (s:Int)=((x/s:Nat):Int):=by rw[Int.tdiv_eq_ediv_of_nonneg bu];exact(Int.natCast_ediv x s).symm
  have b:((x:Int)).tmod (s:Int)=((x%s:Nat):Int):=by rw[Int.tmod_eq_emod_of_nonneg bu];exact(Int.natCast_emod x s).symm
  have:=Hu x s;rw[a,b,dA]
 refine key.mono λe w' he=>?_;rcases he with he|⟨f,_,hf⟩
 ·exact he
 ·exact hf.elim
end Go.Mp
namespace Go.Kc
open Go.Kt
def QA:∀ {l:bA eL} {n i:Nat} {x:eL},gV n l=true->l[i]?=some x->((n+i=0/\x.parent= -1)\/(0<=x.parent/\x.parent<((n+i:Nat):Int)))/\g6 x.use=true/\g6 x.own=true
 |[],_,_,_,_,h=>by simp at h
 |y::l,n,0,x,h,hx=>by
  simp only[k1,fT]at hx;subst hx;unfold gV at h;simp only[dF,jS,gD]at h;exact⟨by simpa using h.1.1.1,h.1.1.2,h.1.2⟩
 |y::l,n,i+1,x,h,hx=>by
  unfold gV at h;rw[dF]at h;have:=QA h.2 (i:=i) (by simpa using hx);rw[show n+(i+1)=n+1+i by omega];exact this
def QB:∀ {l:bA eL} {n k:Nat},gV n l=true->gV n (l.take k)=true
 |[],n,k,h=>by simp[gV]
 |y::l,n,0,h=>by simp[gV]
 |y::l,n,k+1,h=>by
  unfold gV at h;rw[dF]at h;show gV n (y::l.take k)=true;unfold gV;rw[dF];exact⟨h.1,QB h.2⟩
def QC:∀ {l:bA eL} {n:Nat} {x:eL},gV n (l++[x])=(gV n l&&gV (n+l.length) [x])
 |[],n,x=>by simp[gV]
 |y::l,n,x=>by
  obtain⟨c,a⟩:∃c,∀r:bA eL,gV n (y::r)=(c&&gV (n+1) r):=⟨_,λr=>rfl⟩
  rw[pK,a,a,QC (l:=l),hN,show n+(l.length+1)=n+1+l.length by omega,Bool.and_assoc]
def wm{n:Nat}{x:eL}:gV n [x]=(((decide (n=0)&&decide (x.parent= -1))||(decide (0<=x.parent)&&decide (x.parent<(n:Int))))&&g6 x.use&&g6 x.own):=by
 unfold gV;unfold gV;rw[Bool.and_true]
variable{l:bA eL}{t:Int}
def pq(h:ie l=true){i:Nat}{x:eL}(hx:l[i]?=some x):((i=0/\x.parent= -1)\/(0<=x.parent/\x.parent<(i:Int)))/\(0<=x.use/\x.use<=top)/\0<=x.own/\x.own<=top:=by
 unfold ie at h;rw[dF]at h;have:=QA h.1 hx;rw[fz,x8,x8]at this;exact this
def aHx(h:ie l=true):l.length<=64:=by
 unfold ie at h;rw[dF,gD]at h;exact h.2
def wo{i:Nat}{x:eL}(hx:l[i]?=some x):nO l (i:Int)=x:=by unfold nO;rw[dt,dC,hx];rfl
def QD(h:ie l=true):∀(f f':Nat) (x:Int),x<l.length->(x+1).toNat<f->(x+1).toNat<f'->l5 l t f x=l5 l t f' x
 |0,_,_,_,h1,_=>bu
 |_,0,_,_,_,h1=>bu
 |f+1,f'+1,x,hx,h1,h2=>by
  unfold l5;split;·rfl
  ·split;·rfl
   ·next b c=>
    obtain⟨n,rfl⟩:∃n:Nat,x=n:=⟨x.toNat,bu⟩
    obtain⟨y,a⟩:∃y,l[n]?=some y:=⟨_,du⟩
    rw[wo a];have d:=(pq h a).1;rw[QD h f f' y.parent bu bu bu]
def Aj{f:Nat}{x:Int}(a:x≠t):l5 l t (f+1) x=x::(if x<0 then[]else l5 l t f (nO l x).parent):=by
 rw[l5,bJ a];split<;>rfl
def QE(h:ie l=true):∀(f:Nat) (g:Int),g<l.length->∀x∈l5 l t f g,x<l.length
 |0,_,_,x,hx=>by simp[l5]at hx
 |f+1,g,c,x,hx=>by
  by_cases a:g=t;·rw[l5,bK a]at hx;cases hx
  ·rw[Aj a]at hx;rcases eH.1 hx with rfl|hx;·exact c
   ·split at hx;·cases hx
    ·next d=>
     obtain⟨n,rfl⟩:∃n:Nat,g=n:=⟨g.toNat,bu⟩
     obtain⟨y,b⟩:∃y,l[n]?=some y:=⟨_,du⟩
     rw[wo b]at hx;have e:=(pq h b).1;exact QE h f y.parent bu x hx
def aA3(h:ie l=true)(c:0<=t){i:Nat}{x:eL}(hx:l[i]?=some x)(hb:m5 l i t=true)(a:(i:Int)≠t):0<=x.parent/\x.parent<(i:Int):=by
 have b:=(c2.1 hx).1;rcases(pq h hx).1 with⟨rfl,hp⟩|hp
 ·exfalso;unfold m5 ig at hb;rw[Aj a,cK,wo hx,hp]at hb;obtain⟨m,hm⟩:∃m,l.length=m+1:=⟨l.length-1,bu⟩
  rw[hm,Aj bu]at hb;simp at hb
 ·exact hp
def QF(l:bA eL)(t:Int):∀(a b:bA eL) (out:bS),l6 l t (a++b) out=l6 l t b (l6 l t a out)
 |[],b,out=>rfl
 |x::a,b,out=>by
  show l6 l t (a++b) _=l6 l t b (l6 l t a _);rw[QF l t a b]
def QG(l:bA eL)(t:Int):∀(a:bA eL) (out:bS),(l6 l t a out).length=out.length+a.length
 |[],out=>rfl
 |x::a,out=>by
  show(l6 l t a _).length=_;rw[QG l t a,df];simp;omega
def gw(l:bA eL)(t:Int)(k:Nat):bS:=l6 l t (l.take k) []
def E2{k:Nat}(hk:k<=l.length):(gw l t k).length=k:=by
 unfold gw;rw[QG,gT];simp;omega
def E3{k:Nat}{x:eL}(hx:l[k]?=some x):gw l t (k+1)=gw l t k++[m6 l t (gw l t k) k x]:=by
 have a:=(c2.1 hx).1;have hl:=E2 (l:=l) (t:=t) (k:=k) bu;have:l.take (k+1)=l.take k++[x]:=by rw[l0,hx];rfl
 unfold gw at hl ⊢;rw[this,QF];show l6 l t (l.take k) []++[m6 l t _ (l6 l t (l.take k) []).length x]=_;rw[hl]
def wq{x:eL}(hu:0<=x.use/\x.use<=top)(ho:0<=x.own/\x.own<=top):0<=x.e8/\x.e8<=x.use:=by unfold eL.e8;omega
def aIF{x:eL}(hx:0<=x.e8){out:bS}(a:∀y∈out,0<=y)(i:Nat):0<=m6 l t out i x/\m6 l t out i x<=x.e8:=by
 unfold m6;split;·exact⟨hh _,hx⟩
 ·split
  ·next h=>
   have b:0<=out.getD x.parent.toNat 0:=by
    rw[dC];cases c:out[x.parent.toNat]? with
    |none=>exact hh _
    |some y=>exact a y (eG c)
   have d:0<sumOf l x.parent:=by omega
   refine⟨Bj (Bk hx b) bu,?_⟩;have h1:x.e8*out.getD x.parent.toNat 0<=x.e8*sumOf l x.parent:=bg6 bu hx;have h2:=Int.ediv_le_ediv d h1;rw[Int.mul_ediv_cancel _ bu]at h2;exact h2
  ·exact⟨hx,hh _⟩
def E4(h:ie l=true):∀(k:Nat),k<=l.length->∀(i:Nat) (y:Int),(gw l t k)[i]?=some y->0<=y/\∃x,l[i]?=some x/\y<=x.e8
 |0,_,i,y,a=>by simp[gw,l6]at a
 |k+1,hk,i,y,a=>by
  obtain⟨x,hx⟩:∃x,l[k]?=some x:=⟨_,du⟩
  rw[E3 hx]at a;have hl:=E2 (l:=l) (t:=t) (k:=k) bu;rcases hE i k with d|d
  ·rw[eQ bu]at a;exact E4 h k bu i y a
  ·rw[fL bu,hl]at a;have b:i-k=0:=by
    rcases k3 (i-k)with e|e;·exact e
    ·rw[gI (by simp;omega)]at a;cases a
   rw[b]at a;simp only[k1,fT]at a;have b:i=k:=by omega
   subst b;have c:=pq h hx;have:=aIF (l:=l) (t:=t) (x:=x) (wq c.2.1 c.2.2).1 (out:=gw l t i) (λy a=>by
    obtain⟨j,f,rfl⟩:=jn.1 a;exact(E4 h i bu j _ (ea f)).1) i
   rw[a]at this;exact⟨this.1,x,hx,this.2⟩
def np(l:bA eL)(k:Nat)(p:Int):Int:=(((l.drop 1).take k).filter λx=>x.parent==p).foldl (λs x=>s+x.e8) 0
def QH{k:Nat}{x:eL}(hx:(l.drop 1)[k]?=some x)(p:Int):np l (k+1) p=if x.parent=p then np l k p+x.e8 else np l k p:=by
 unfold np;have:(l.drop 1).take (k+1)=(l.drop 1).take k++[x]:=by rw[l0,hx];rfl
 rw[this,uH,Be,jR];by_cases e:x.parent=p;·rw[bK e,bK (by simpa using e)];rfl
 ·rw[bJ e,bJ (by simpa using e)];rfl
def QI(p:Int):np l (l.length-1) p=sumOf l p:=by
 unfold np sumOf;rw[iq (by simp)]
def E5(h:ie l=true)(p:Int):∀(k:Nat),k<l.length->0<=np l k p/\np l k p<=k*top
 |0,_=>by show 0<=(0:Int)/\(0:Int)<=_;omega
 |k+1,hk=>by
  obtain⟨x,hx⟩:∃x,l[k+1]?=some x:=⟨_,du⟩
  have b:(l.drop 1)[k]?=some x:=by rw[rm,sI];exact hx
  have c:=E5 h p k bu;have a:=pq h hx;have ho:=wq a.2.1 a.2.2;rw[QH b];have e:((k+1:Nat):Int)*top=(k:Int)*top+top:=by rw[Hv,Int.add_mul];simp
  rw[e];have:0<=top:=by decide
  split<;>omega
end Go.Kc
namespace Go.Sp
open Go Go.Vc
variable{E:Env}{L:cr}{w:bI}{P:cS}
abbrev QJ(P:cS)(E:Env)(f:bj6)(ca:cf bH)(A A' S:Asn)(xs:bA bH):Prop:=Eo P E f (λy=> #[y]++ca) A A' S xs
def iJ.iS{τ:bZ->K1}{ρ:bZ->Kd}{cD:bj6->Bool}{An:dU}{yl:Nat->Bool}{N p:Nat}{f:bj6}{ca:cf bH}{A A' S:Asn}{xs:bA bH}{e body c:Code}{T:Tr}{done ret:Nat->bi9}(hm:P.follows .mixedOrders=true)(o:N<=8000)(hp:p<N)(n:gY P N An e=true/\gY P N An body=true)(hf:k6 P f=true)(q:QJ P E f ca A A' S xs)(a j:Nat->Asn)(g:∀(l:Nat) (r:Loop) L k x W R,r.state=.ready->r.pending=none->xs[k]?=some x->Sep E (da l (.loop r)::a k::S::L) W->(∀d,Sep E (da l (.loop r)::a (k+1)::S::L) d->R (.returned (.bool true)) d)->
   (∀d,Sep E (da l (.loop {r with state:=.done,pending:=some c})::j k::S::L) d->R (.returned (.bool false)) d)->mM P τ ρ cD An yl N l e body (lK [(p,x)] T) W R)(h:Sep E (a 0::S::A::L) w)(i:∀b W,Sep E (da b (.deferred (some []))::a xs.length::S::A'::L) W->done b W)(m:∀b k W,k<xs.length->Sep E (da b (.deferred (some []))::j k::S::A'::L) W->ret b W):iJ P N (.func (.func f) #[] ca) #[p] e body c T w done ret:=
 iJ.Ep (fi:= #[]) (λy=>by simp) hm o hp n hf q a j g h i m
end Go.Sp
namespace Go.Kc
open Go
def eL.vs(x:eL):bA bH:=[Iv x.parent,Iv x.use,Iv x.own]
def eL.kv(x:eL):x.vs.length=3:=rfl
end Go.Kc
namespace Go.Mp
open Go Go.Vc Go.Sp Go.Proofs Go.Kc
variable{E:Env}{L:cr}{w W:bI}
abbrev eE(s:Sl)(l:bA eL):Asn:=bw s 3 (bO eL.vs l)
def wu{s:Sl}{l:bA eL}{i:Int}{f:Addr->Prop}(q:Nat)(h:Sep E L w)(e:L[q]?=some (eE s l))(hn:s.n=l.length){k:Nat}(d:i=k){x:eL}(hx:l[k]?=some x)(g:∀a,w.cell? (a.add 0)=some (Iv x.parent)->w.cell? (a.add 1)=some (Iv x.use)->w.cell? (a.add 2)=some (Iv x.own)->f a):cF s.p s.n i 3 f:=
 jL eL.kv q h e hn d hx (λb _ c=>g _ (by rw[cj];exact c 0 _ rfl) (by rw[cj];exact c 1 _ rfl) (by rw[cj];exact c 2 _ rfl))
def Ak(g:Int)(w:bI):Calls P vN #[Iv g] w (cC λv w'=>v=.bool (g6 g)/\w'=w):=by
 apply Za;unfold Nt g6 top;exact ij (λh=>⟨by rw[dK h];rfl,rfl⟩) (λh=>⟨by rw[dq bu];rfl,rfl⟩)
def QK{x:eL}(h:Sep E L w):Calls P DK #[.agg #[Iv x.parent,Iv x.use,Iv x.own]] w (cZ E (Iv x.e8) L):=by
 apply YH;unfold M5 qL;refine Al.i h (λp a h1=>⟨_,by rw[cj];exact h1.cell 2,_,by rw[cj];exact h1.cell 1,?_,h1.tail⟩);unfold eL.e8 min1;congr 1;split<;>omega
def QL{s:Sl}{l:bA eL}{q:Nat}(G:L[q]?=some (eE s l))(hn:s.n=l.length)(hb:l.length<1000000)(h:Sep E L w):Calls P DJ #[Sv s] w (cZ E (.bool (ie l)) L):=by
 apply YG;unfold M4 qF qL qO qU qW qh qi ql;refine⟨λx w'=>∃k:Nat,x=k/\k<=l.length/\gV 0 (l.take k)=true/\Sep E L w',λx _=>(l.length-x).toNat,⟨0,rfl,dX _,by simp[gV],h⟩,?_⟩;rintro _ x N ⟨k,rfl,hk,o,h1⟩;refine cU (λM=>?_) (λJ=>?_)
 ·obtain⟨y,A⟩:∃y,l[k]?=some y:=⟨_,du⟩
  refine wu q h1 G hn rfl A (λa C D F=>⟨_,C,_,D,_,F,Al.i h1 (λp w2 h2=>ey _ h2 rfl (λr b=>?_))⟩);have m:gV 0 (l.take (k+1))=gV k [y]:=by
   rw[take_succ A,QC,o,my,fz,gT,pM hk]
  have bad:gV k [y]=false->ie l=false:=by
   intro f;unfold ie;cases z:gV 0 l with
   |false=>rfl
   |true=>
    have:=QB (k:=k+1) z;rw[m,f]at this;cases this
  have cell:∀(j:Nat) {w':bI},Sep E (bD p [Iv y.parent,Iv y.use,Iv y.own]::L) w'->w'.cell? ((⟨p,0,none⟩:Addr).add j)=([Iv y.parent,Iv y.use,Iv y.own]:bA bH)[j]? :=by
   intro j w' H;rw[cj,H.cell,fz]
  have g:gV k [y]=true->(∃k':Nat,i64.wrap ((k:Int)+1)=k'/\k'<=l.length/\gV 0 (l.take k')=true/\Sep E L r)/\(l.length-i64.wrap ((k:Int)+1)).toNat<(l.length-(k:Int)).toNat:=by
   intro f;exact⟨⟨k+1,c4,bu,by rw[m,f],b.tail⟩,by rw[c4];omega⟩
  have two:∀(B:bi9),(∀w',w'=r->B w')->((decide (k=0)&&decide (y.parent= -1))||(decide (0<=y.parent)&&decide (y.parent<(k:Int))))=true->
    (gV k [y]=(g6 y.use&&g6 y.own)):=by
   intro _ _ f;rw[wm,f,my]
  refine⟨λroot w'=>root=(decide (k=0)&&decide (y.parent= -1))/\w'=r,eC (λe=>⟨_,cell 0 b,?_,rfl⟩) (λe=>⟨?_,rfl⟩),?_⟩
  ·rw[dK (show k=0 by omega),my];by_cases n:y.parent= -1;·rw[n];rfl
   ·rw[dq n];simpa using n
  ·rw[dq (show ¬ k=0 by omega),xD]
  ·rintro _ root i ⟨rfl,rfl⟩;have tail:((decide (k=0)&&decide (y.parent= -1))||(decide (0<=y.parent)&&decide (y.parent<(k:Int))))=true->∀ {K:bi9},(gV k [y]=true->K i)->(gV k [y]=false->Value.bool false=.bool (ie l)/\Sep E L i->True)->True:=λ_ _ _ _=>trivial;have _:=tail;have _:=two;cases c:(decide (k=0)&&decide (y.parent= -1))with
   |false=>
    refine bT rfl ⟨_,cell 0 b,cU (λf=>⟨?_,b.tail⟩) (λf=>⟨_,cell 0 b,hq (λu=>⟨?_,b.tail⟩) (λu=>⟨_,cell 1 b,use (Ak _ i) ?_⟩)⟩)⟩
    ·rw[bad];rw[wm,c,dq (show ¬ 0<=y.parent by omega)];rfl
    ·rw[bad];rw[wm,c,dq (show ¬ y.parent<(k:Int) by omega),sH];rfl
    ·rintro _ t ⟨rfl,rfl⟩;have d:gV k [y]=(g6 y.use&&g6 y.own):=by
      rw[wm,c,dK (show 0<=y.parent by omega),dK (show y.parent<(k:Int) by omega)];rfl
     refine⟨_,rfl,?_⟩;cases hu:g6 y.use with
     |false=>exact bT rfl ⟨by rw[bad];rw[d,hu];rfl,b.tail⟩
     |true=>
      refine bF rfl ⟨_,cell 2 b,use (Ak _ t) ?_⟩;rintro _ I ⟨rfl,rfl⟩;refine⟨_,rfl,?_⟩;cases ho:g6 y.own with
      |false=>exact bT rfl ⟨by rw[bad];rw[d,hu,ho];rfl,b.tail⟩
      |true=>exact bF rfl (g (by rw[d,hu,ho];rfl))
   |true=>
    refine bF rfl ⟨_,cell 1 b,use (Ak _ i) ?_⟩;rintro _ t ⟨rfl,rfl⟩;have d:gV k [y]=(g6 y.use&&g6 y.own):=by
     rw[wm,c];rfl
    refine⟨_,rfl,?_⟩;cases hu:g6 y.use with
    |false=>exact bT rfl ⟨by rw[bad];rw[d,hu];rfl,b.tail⟩
    |true=>
     refine bF rfl ⟨_,cell 2 b,use (Ak _ t) ?_⟩;rintro _ I ⟨rfl,rfl⟩;refine⟨_,rfl,?_⟩;cases ho:g6 y.own with
     |false=>exact bT rfl ⟨by rw[bad];rw[d,hu,ho];rfl,b.tail⟩
     |true=>exact bF rfl (g (by rw[d,hu,ho];rfl))
 ·have:k=l.length:=by omega
  subst this;rw[fB]at o;refine⟨?_,h1⟩;unfold ie;rw[o,my,hn];congr 1;exact sF.2 bu
def QM:k6 P adc=true:=by kernel_rfl
def QN{s:Sl}{g t:Int}(h:Sep E L w):Calls P DL #[Sv s,Iv g,Iv t] w (cC λv w'=>∃a b c,v=.func (.func adc) #[] #[Pb b,Pb c,Pb a]/\
  Sep E (bD b [Iv g]::bD c [Iv t]::bD a [Sv s]::L) w'):=by
 apply YP;unfold M8 qC;exact Al.i h (λa e h1=>Al.i h1 (λb w2 h2=>Al.i h2 (λc f d=>⟨a,b,c,rfl,d.ro 3 [1,0,2] rfl⟩)))
def lN(a b c:Nat)(s:Sl)(t g:Int):Asn:=star (bD b [Iv g]) (star (bD c [Iv t]) (bD a [Sv s]))
def QO{c b d:Nat}{s:Sl}{l:bA eL}{g t:Int}(hn:s.n=l.length)(D:ie l=true)(N:g<l.length)(T:0<=t):
  QJ P E adc #[Pb b,Pb d,Pb c] (lN c b d s t g) (fo λx:Int=>lN c b d s t x) (eE s l) ((ig l t g).map (Value.int .i64)):=by
 intro F J X M L W h;have pack:∀ {A:Asn} {x:Int} {i:bI},Sep E (A::eE s l::bD b [Iv x]::bD d [Iv t]::bD c [Sv s]::L) i->Sep E (A::eE s l::(fo λx:Int=>lN c b d s t x)::L) i:=by
  intro A x i O;have h1:Sep E (bD d [Iv t]::bD c [Sv s]::bD b [Iv x]::A::eE s l::L) i:=O.ro 5 [3,4,2,0,1] rfl;have h2:=Sep.star.2 ((Sep.star.2 h1).swap);exact(Sep.ex.2 ⟨x,h2⟩:Sep E ((fo λx:Int=>lN c b d s t x)::A::eE s l::L) i).ro 3 [1,2,0] rfl
 refine Calls.mono (R:=cC λv i=>v=.tuple #[]/\(Sep E (J ((ig l t g).map (Value.int .i64)).length::eE s l::(fo λx:Int=>lN c b d s t x)::L) i\/
  ∃k,k<((ig l t g).map (Value.int .i64)).length/\Sep E (X k::eE s l::(fo λx:Int=>lN c b d s t x)::L) i)) ?_ (λe i he=>?_)
 rotate_left
 ·obtain⟨v,rfl,rfl,he⟩:=he;exact⟨⟨_,rfl⟩,he⟩
 have h1:Sep E (J 0::eE s l::bD b [Iv g]::bD d [Iv t]::bD c [Sv s]::L) W:=by
  have h2:Sep E (lN c b d s t g::J 0::eE s l::L) W:=h.ro 3 [2,0,1] rfl;have f:=Sep.star.1 ((Sep.star.1 h2).swap);exact f.ro 5 [3,4,2,0,1] rfl
 show Calls P adc #[.func (.yield F) #[] #[],Pb b,Pb d,Pb c] W _;apply Ze;unfold Ej qD qL qW qc qd;rw[dY];refine⟨λw'=>∃(k:Nat) (x:Int),x<l.length/\k<=(ig l t g).length/\(ig l t g).drop k=l5 l t (l.length+1) x/\Sep E (J k::eE s l::bD b [Iv x]::bD d [Iv t]::bD c [Sv s]::L) w',
  λw'=>match w'.cell? ⟨b,0,none⟩with|some (.int _ x)=>(x+1).toNat|_=>0,⟨0,g,N,dX _,rfl,h1⟩,?_⟩
 rintro _ w2 ⟨k,x,hx,Q,n,h2⟩;refine⟨x,h2.cellAt 2 rfl 0,t,h2.cellAt 3 rfl 0,g0 (λC=>?_) (λhe=>?_)⟩
 ·refine⟨x,h2.cellAt 2 rfl 0,F,rfl,?_⟩;rw[Aj C]at n;have hk:(ig l t g)[k]?=some x:=by
   have:((ig l t g).drop k)[0]?=some x:=by rw[n];rfl
   rwa[rm,l2]at this
  have B:((ig l t g).map (Value.int .i64))[k]?=some (Iv x):=by rw[ez,hk];rfl
  have q:=(c2.1 hk).1;have j:(ig l t g).drop (k+1)=if x<0 then[]else l5 l t l.length (nO l x).parent:=by rw[<- ru,n];rfl
  obtain⟨fn,tmps,w,body,r,o⟩:=M _ k _ _ B h2;refine⟨fn,tmps,w,body,r,o.mono λe U he=>?_⟩;rcases he with⟨rfl,f⟩|⟨rfl,f⟩
  ·refine⟨true,rfl,bF rfl ⟨x,f.cellAt 2 rfl 0,cU (λz=>⟨rfl,.inl ?_⟩) (λz=>?_)⟩⟩
   ·rw[bK z]at j;have:(ig l t g).length=k+1:=by
     have:=eO List.length j;rw[ot]at this;simp at this;omega
    rw[this];exact pack f
   ·rw[cK]at j;obtain⟨m,rfl⟩:∃m:Nat,x=m:=⟨x.toNat,bu⟩
    obtain⟨y,u⟩:∃y,l[m]?=some y:=⟨_,du⟩
    rw[wo u]at j;have S:=(pq D u).1;refine⟨s,f.cellAt 4 rfl 0,_,f.cellAt 2 rfl 0,wu 1 f rfl hn rfl u (λa H _ _=>⟨_,H,?_⟩)⟩;refine St.i (f.ro 5 [2,0,1,3,4] rfl) (by show 0<1;decide) (λG p=>?_);have p:Sep E (bD b [Iv y.parent]::J (k+1)::eE s l::bD d [Iv t]::bD c [Sv s]::L) G:=p;have I:G.cell? ⟨b,0,none⟩=some (Iv y.parent):=p.cell 0;have K:w2.cell? ⟨b,0,none⟩=some (Iv (m:Int)):=h2.cellAt 2 rfl 0;dsimp only;rw[I,K];refine⟨rfl,⟨k+1,y.parent,bu,q,?_,p.ro 5 [1,2,0,3,4] rfl⟩,?_⟩
    ·rw[j];exact QD D _ _ _ bu bu bu
    ·show(y.parent+1).toNat<((m:Int)+1).toNat;omega
  ·exact⟨false,rfl,bT rfl ⟨rfl,.inr ⟨k,q,pack f⟩⟩⟩
 ·refine⟨rfl,.inl ?_⟩;rw[l5,bK he]at n;have:(ig l t g).length=k:=by
   have:=eO List.length n;rw[ot]at this;simp at this;omega
  rw[this];exact pack h2
def QP{r:Loop}(h1:r.state=.ready)(h2:r.pending=none):({ {r with state:=.busy} with state:=if(none:bX Code).isNone then .ready else .done,pending:=none} :Loop)=r:=by
 cases r;simp only at h1 h2;subst h1 h2;rfl
def QQ{s:Sl}{l:bA eL}{g t:Int}{q:Nat}(M:L[q]?=some (eE s l))(hn:s.n=l.length)(O:ie l=true)(H:g<l.length)(N:0<=t)(h:Sep E L w):
  Calls P y0 #[Sv s,Iv g,Iv t] w (cZ E (.bool (m5 l g t)) (eE s l::L.eraseIdx q)):=by
 apply YK;unfold Eh qN;refine Al.i (h.fr q M) (λp S h1=>use (QN h1) ?_);rintro _ w2 ⟨m,n,o,rfl,h2⟩;refine⟨_,rfl,?_⟩;have F:Sep E (cL (((ig l t g).take 0).all (λx=>decide (0<=x))=true) (bD p [.bool false])::eE s l::lN m n o s t g::L.eraseIdx q) w2:=by
  have G:Sep E (bD o [Iv t]::bD m [Sv s]::bD n [Iv g]::bD p [.bool false]::eE s l::L.eraseIdx q) w2:=h2.ro 5 [1,2,0,3,4] rfl;have c:=Sep.star.2 ((Sep.star.2 G).swap);exact Sep.cL.2 ⟨rfl,(show Sep E (lN m n o s t g::bD p [.bool false]::eE s l::L.eraseIdx q) w2 from c).ro 3 [1,2,0] rfl⟩
 refine iJ.iS (τ:=fV) (ρ:=gZ) (cD:=cD) (An:=tz) (yl:=El) mixed bN bN YM QM (QO hn O H N)
  (λk=>cL (((ig l t g).take k).all (λx=>decide (0<=x))=true) (bD p [.bool false])) (λ_=>cL (m5 l g t=false) (bD p [.bool false])) ?_ F ?_ ?_
 ·intro Q r L' k x W R u B hx f A j;obtain⟨y,C,rfl⟩:∃y,(ig l t g)[k]?=some y/\x=Iv y:=by
   rw[ez]at hx;cases hk:(ig l t g)[k]? with
   |none=>rw[hk]at hx;cases hx
   |some y=>rw[hk]at hx;exact⟨y,rfl,(cV hx).symm⟩
  refine(YL s g t ⟨p,0,none⟩ _ y Q W R).mpr ?_;unfold Nu;refine lI.i f u (λD c=>?_);obtain⟨a,d⟩:=Sep.cL.1 c.swap;refine cU (λJ=>?_) (λK=>?_)
  ·refine St.i d (by show 0<1;decide) (λT e=>?_);refine fg.i e.swap (λz i=>j z ?_);refine Sep.swap (Sep.cL.2 ⟨?_,i.swap⟩);unfold m5;cases I:(ig l t g).all λx=>decide (0<=x)with
   |false=>rfl
   |true=>
    have:=fM.1 I y (eG C);simp at this;omega
  ·refine fg.i d.swap (λz i=>A z ?_);rw[QP u B]at i;refine Sep.swap (Sep.cL.2 ⟨?_,i.swap⟩);rw[take_succ C,List.all_append,a];simp;omega
 ·intro b W f;obtain⟨a,c⟩:=Sep.cL.1 f.swap;rw[dY,fB]at a;refine St.i c (by show 0<1;decide) (λD d=>?_);have d:Sep E (bD p [.bool true]::da b (.deferred (some []))::eE s l::(fo λx:Int=>lN m n o s t x)::L.eraseIdx q) D:=d;have e:=d.swap.putObj (o':=.deferred none);refine⟨d.swap.dw,_,e.cellAt 1 rfl 0,?_,e.ro 4 [2] rfl⟩;unfold m5;rw[a]
 ·intro b k W _ f;obtain⟨hb,c⟩:=Sep.cL.1 f.swap;have e:=c.swap.putObj (o':=.deferred none);refine⟨c.swap.dw,_,e.cellAt 1 rfl 0,?_,e.ro 4 [2] rfl⟩;rw[hb]
def aIs{s e:Sl}{l:bA eL}{t:Int}{q:Nat}(b:L[q]?=some (eE s l))(hn:s.n=l.length)(hb:l.length<1000000)(h:Sep E L w):
  Calls P Kn #[Sv s,Sv e,Iv t] w (cZ E (.bool (ie l&&decide (e.n=l.length)&&decide (0<=t)&&decide (t<l.length))) L):=by
 apply YO;unfold M7 qF;refine use (QL b hn hb h) ?_;rintro _ d ⟨rfl,h1⟩;refine⟨_,rfl,?_⟩;cases ie l with
 |false=>exact bF rfl ⟨rfl,h1⟩
 |true=>
  refine bT rfl (eC (λhe=>?_) (λc=>?_))
  ·have he:e.n=l.length:=by omega
   refine ij (λa=>⟨?_,h1⟩) (λa=>⟨?_,h1⟩);·rw[dK he,dK a,hn];rfl
   ·rw[dq (show ¬ 0<=t by omega),sH,xD]
  ·rw[dq (show ¬ e.n=l.length by omega)];exact⟨rfl,h1⟩
def aLg{s e:Sl}{l:bA eL}{ef:bS}{g t:Int}(hn:s.n=l.length)(he:e.n=ef.length)(hb:l.length<1000000)(h:Sep E (eE s l::bw e 1 (bC ef)::L) w):
  Calls P Dq #[Sv s,Sv e,Iv t,Iv g] w (cZ E (.bool (nP l ef t g)) (eE s l::bw e 1 (bC ef)::L)):=by
 apply Yd;unfold Ed qF qN qc qm;refine Al.i h (λp aF h1=>Al.i h1 (λu w2 h2=>Al.i h2 (λf az S=>?_)));have S:Sep E (bD f [.bool false]::bD u [Sv e]::bD p [Sv s]::eE s l::bw e 1 (bC ef)::L) az:=S;refine⟨s,S.cellAt 2 rfl 0,e,S.cellAt 1 rfl 0,use (aIs (q:=3) rfl hn hb S) ?_⟩;rintro _ aG ⟨rfl,J⟩;refine⟨_,rfl,?_⟩;have fin:∀ {ab:bI} {M:cr},Sep E (bD f [.bool false]::M) ab->(∀i,Sep E (bD f [.bool false]::M) i->Value.bool false=.bool (nP l ef t g)/\Sep E (eE s l::bw e 1 (bC ef)::L) i)->
   St ⟨f,0,none⟩ (.bool false) (λi=>∃r:Bool,i.cell? ⟨f,0,none⟩=some (.bool r)/\(λv w'=>v=Value.bool (nP l ef t g)/\Sep E (eE s l::bw e 1 (bC ef)::L) w') (.bool r) i) ab:=by
  intro ab M B hk;exact St.i B (by show 0<1;decide) (λi n=>⟨false,n.cell 0,hk i n⟩)
 have o:∀ {i:bI},(ie l=false\/ef.length≠l.length\/t<0\/(l.length:Int)<=t\/g<0\/(l.length:Int)<=g\/m5 l g t=false)->Sep E (bD f [.bool false]::bD u [Sv e]::bD p [Sv s]::eE s l::bw e 1 (bC ef)::L) i->
   Value.bool false=.bool (nP l ef t g)/\Sep E (eE s l::bw e 1 (bC ef)::L) i:=by
  intro i ax n;unfold nP;rw[bK ax];exact⟨rfl,n.ro 5 [3,4] rfl⟩
 cases hr:(ie l&&decide (e.n=l.length)&&decide (0<=t)&&decide (t<l.length))with
 |false=>
  refine bT rfl (fin J (λi n=>o ?_ n));by_cases A:ie l=true
  ·by_cases aj:e.n=l.length
   ·by_cases a3:0<=t
    ·rw[A,dK aj,dK a3]at hr;have:¬ t<l.length:=by simpa using hr
     exact .inr (.inr (.inr (.inl bu)))
    ·exact .inr (.inr (.inl bu))
   ·exact .inr (.inl bu)
  ·exact .inl (by simpa using A)
 |true=>
  simp only[dF,gD]at hr;obtain⟨⟨⟨A,aj⟩,a3⟩,a4⟩:=hr;refine bF rfl (cU (λal=>fin J (λi n=>o (.inr (.inr (.inr (.inr (.inl al))))) n)) (λal=>?_));refine⟨s,J.cellAt 2 rfl 0,hq (λaA=>fin J (λi n=>o (.inr (.inr (.inr (.inr (.inr (.inl bu)))))) n)) (λaC=>?_)⟩;refine⟨s,J.cellAt 2 rfl 0,use (QQ (q:=3) rfl hn A bu a3 J) ?_⟩;rintro _ ab ⟨rfl,B⟩;have B:Sep E (eE s l::bD f [.bool false]::bD u [Sv e]::bD p [Sv s]::bw e 1 (bC ef)::L) ab:=B;refine⟨_,rfl,?_⟩;cases V:m5 l g t with
  |false=>exact bT rfl (fin (B.ro 5 [1,2,3,0,4] rfl) (λi n=>o (.inr (.inr (.inr (.inr (.inr (.inr V)))))) n))
  |true=>
   refine bF rfl ⟨s,B.cellAt 3 rfl 0,use (QN B) ?_⟩;rintro _ i ⟨K,N,O,rfl,n⟩;refine⟨_,rfl,?_⟩;have Y:nP l ef t g=(ig l t g).any λx=>decide ((nO l x).use<=ef.getD x.toNat 0):=by
    unfold nP;rw[bJ];rintro(c|c|c|c|c|c|c);·rw[A]at c;cases c
    ·omega
    ·omega
    ·omega
    ·omega
    ·omega
    ·rw[V]at c;cases c
   let ad:Nat->Asn:=λk=>cL (((ig l t g).take k).any (λx=>decide ((nO l x).use<=ef.getD x.toNat 0))=false) (star (bD f [.bool false]) (star (bD u [Sv e]) (star (bD p [Sv s]) (bw e 1 (bC ef)))));have Z:∀ {k:Nat} {M:cr} {w':bI},Sep E (ad k::M) w'->((ig l t g).take k).any (λx=>decide ((nO l x).use<=ef.getD x.toNat 0))=false/\Sep E (bD f [.bool false]::bD u [Sv e]::bD p [Sv s]::bw e 1 (bC ef)::M) w':=by
    intro k M w' X;obtain⟨c,X⟩:=Sep.cL.1 X;refine⟨c,?_⟩;have Q:=Sep.star.1 X;have I:=Sep.star.1 Q.swap;have aE:=Sep.star.1 (I.swap);exact(Sep.star.1 ((I.ro 3 [1,2,0] rfl))).ro 4 [2,3,0,1] rfl
   have ai:∀ {k:Nat} {M:cr} {w':bI},((ig l t g).take k).any (λx=>decide ((nO l x).use<=ef.getD x.toNat 0))=false->Sep E (bD f [.bool false]::bD u [Sv e]::bD p [Sv s]::bw e 1 (bC ef)::M) w'->Sep E (ad k::M) w':=by
    intro k M w' c X;refine Sep.cL.2 ⟨c,?_⟩;have Q:=Sep.star.2 (X.ro 4 [2,3,0,1] rfl);have I:=Sep.star.2 (Q.ro 3 [2,0,1] rfl);exact Sep.star.2 I.swap
   have aw:Sep E (ad 0::eE s l::lN K N O s t g::L) i:=by
    have Q:Sep E (bD O [Iv t]::bD K [Sv s]::bD N [Iv g]::eE s l::bD f [.bool false]::bD u [Sv e]::bD p [Sv s]::bw e 1 (bC ef)::L) i:=n.ro 8 [1,2,0,3,4,5,6,7] rfl;have I:Sep E (lN K N O s t g::eE s l::bD f [.bool false]::bD u [Sv e]::bD p [Sv s]::bw e 1 (bC ef)::L) i:=Sep.star.2 ((Sep.star.2 Q).swap);exact ai (by simp) (I.ro 6 [2,3,4,5,1,0] rfl)
   refine iJ.iS (τ:=fV) (ρ:=gZ) (cD:=cD) (An:=tx) (yl:=Eg) mixed bN bN Yf QM (QO hn A bu a3)
    ad (λ_=>cL (nP l ef t g=true) (star (bD f [.bool true]) (bw e 1 (bC ef)))) ?_ aw ?_ ?_
   ·intro ag r L' k x W R ah ap hx U ao ae;obtain⟨y,af,rfl⟩:∃y,(ig l t g)[k]?=some y/\x=Iv y:=by
     rw[ez]at hx;cases hk:(ig l t g)[k]? with
     |none=>rw[hk]at hx;cases hx
     |some y=>rw[hk]at hx;exact⟨y,rfl,(cV hx).symm⟩
    have aD:0<=y:=by
     have:=fM.1 (show(ig l t g).all (λx=>decide (0<=x))=true from V) y (eG af);simpa using this
    have ay:y<l.length:=QE A _ _ bu y (eG af);obtain⟨m,rfl⟩:∃m:Nat,y=m:=⟨y.toNat,bu⟩
    obtain⟨z,aq⟩:∃z,l[m]?=some z:=⟨_,du⟩
    refine(Ye s e t g ⟨p,0,none⟩ ⟨u,0,none⟩ ⟨f,0,none⟩ _ _ _ _ _ _ _ _ (m:Int) ag W R).mpr ?_;unfold MX qD qL qW qc;refine lI.i U ah (λaa T=>Dr.i T (λar C=>?_));obtain⟨G,d⟩:=Z C.swap;have d:Sep E (bD f [.bool false]::bD u [Sv e]::bD p [Sv s]::bw e 1 (bC ef)::da ag (.loop {r with state:=.busy})::eE s l::L') ar:=d;refine⟨s,d.cellAt 2 rfl 0,wu 5 d rfl hn rfl aq (λa _ av _=>⟨_,av,e,d.cellAt 1 rfl 0,mN 3 d rfl he bu bu (λaj an=>⟨_,an,?_⟩)⟩)⟩;have F:decide ((nO l (m:Int)).use<=ef.getD ((m:Int)).toNat 0)=decide (z.use<=ef.getD ((m:Int)).toNat 0):=by rw[wo aq]
    refine ij (λhle=>?_) (λaB=>?_)
    ·refine St.i d (by show 0<1;decide) (λau j=>?_);have j:Sep E (bD f [.bool true]::bD u [Sv e]::bD p [Sv s]::bw e 1 (bC ef)::da ag (.loop {r with state:=.busy})::eE s l::L') au:=j;refine fg.i (j.ro 6 [4,0,3,5] rfl) (λH D=>ae H ?_);refine Sep.swap (Sep.cL.2 ⟨?_,?_⟩)
     ·rw[Y];exact uM.2 ⟨(m:Int),eG af,by rw[F];exact dK hle⟩
     ·have am:Sep E (bD f [.bool true]::bw e 1 (bC ef)::da ag (.loop {r with state:=.done,pending:=some .ret})::eE s l::L') H:=D.ro 3 [1,2,0] rfl;exact Sep.star.2 am
    ·refine fg.i (d.ro 6 [4,0,1,2,3,5] rfl) (λH D=>ao H ?_);rw[QP ah ap]at D;refine Sep.swap (ai ?_ (D.ro 5 [1,2,3,4,0] rfl));rw[take_succ af,Hw,G];simp only[List.any_cons,List.any_nil,pN,HC];rw[F];exact dq bu
   ·intro b W U;obtain⟨G,T⟩:=Z U.swap;rw[dY,fB]at G;refine St.i T (by show 0<1;decide) (λaa C=>?_);have C:Sep E (bD f [.bool false]::bD u [Sv e]::bD p [Sv s]::bw e 1 (bC ef)::da b (.deferred (some []))::eE s l::(fo λx:Int=>lN K N O s t x)::L) aa:=C;have d:Sep E (da b (.deferred (some []))::bD f [.bool false]::bD u [Sv e]::bD p [Sv s]::bw e 1 (bC ef)::eE s l::(fo λx:Int=>lN K N O s t x)::L) aa:=C.ro 5 [4,0,1,2,3] rfl;have j:=d.putObj (o':=.deferred none);exact⟨d.dw,_,j.cellAt 1 rfl 0,by rw[Y,G],j.ro 7 [5,4] rfl⟩
   ·intro b k W _ U;obtain⟨ak,T⟩:=Sep.cL.1 U.swap;have C:=Sep.star.1 T;have d:Sep E (da b (.deferred (some []))::bD f [.bool true]::bw e 1 (bC ef)::eE s l::(fo λx:Int=>lN K N O s t x)::L) W:=C.ro 3 [2,0,1] rfl;have j:=d.putObj (o':=.deferred none);exact⟨d.dw,_,j.cellAt 1 rfl 0,by rw[ak],j.ro 5 [3,2] rfl⟩
def aLt{a p s:Int}(e:0<=a/\a<2147483648)(hp:0<=p/\p<2147483648)(f:0<s/\s<9223372036854775808)(h:Sep E L w):Calls P Km #[Iv a,Iv p,Iv s] w (cZ E (Iv (a*p/s)) L):=by
 apply YN;unfold M6 zN;obtain⟨x,rfl⟩:∃x:Nat,a=x:=⟨a.toNat,bu⟩
 obtain⟨y,rfl⟩:∃y:Nat,p=y:=⟨p.toNat,bu⟩
 obtain⟨z,rfl⟩:∃z:Nat,s=z:=⟨s.toNat,bu⟩
 rw[dA (n:=x) bu,dA (n:=y) bu,dA (n:=z) bu];have b:x*y<18446744073709551616:=by
  have:x*y<=4294967295*4294967295:=HA bu bu;omega
 refine use (aJ6 bu bu w) ?_;rintro _ g ⟨rfl,rfl⟩;refine⟨_,_,rfl,use (Qz b bu h) ?_⟩;rintro _ w2 ⟨rfl,h2⟩;refine⟨_,_,rfl,?_,h2⟩;have c:x*y/z<=x*y:=Hu _ _;have d:x*y<=2147483647*2147483647:=HA bu bu;rw[<- uO,<- Int.natCast_ediv];generalize x*y/z=q at*
 rw[cX bu bu]
def aLY(n:Nat):((List.range (((n:Nat):Int).toNat*1)).map λi=>(([Value.int .i64 0]:bA bH).toArray)[i%([Value.int .i64 0]:bA bH).length]!)=bC (List.replicate n 0):=by
 rw[dt,fY];apply gJ;intro i;rw[ez,z1,oh];by_cases a:i<n
 ·rw[ny a,bK a];simp[Nat.mod_one]
 ·rw[gI (by simpa using a),bJ a];rfl
def r9{n:Nat}(hb:n<1000000)(h:Sep E L w){G:Sl->bi9}(k:∀s a,s.n=n->Sep E (bw s 1 (bC (List.replicate n 0))::L) a->G s a):
  ∃x:Sl,∃a,Sem.run P (Instr.makeSlice jK (Iv ((n:Nat):Int)) (Iv ((n:Nat):Int))) w=.ok (Sv x) a/\G x a:=by
 refine makeSlice.i h (by kernel_rfl:hG P jK=some (8,1,[Iv 0])) bu (hh _) bu bu (λb a h1=>k _ a (by simp) ?_);rw[aLY]at h1;exact bw.make (spare:=[]) (by simpa using h1) (by simp) (by simp) (ec _)
def j5{s:Sl}{l:bS}{i x:Int}{F:bi9}(h:Sep E (bw s 1 (bC l)::L) w)(hn:s.n=l.length)(d:0<=i)(h1:i<l.length)(k:∀c,Sep E (bw s 1 (bC (l.set i.toNat x))::L) c->F c):cF s.p s.n i 1 λa=>St a (Iv x) F w:=by
 refine bw.el 0 h rfl d bu (λb hb _=>?_);rw[fY];refine bw.st h hb (by simp;omega) (λc h1=>k c ?_);have:bC (l.set i.toNat x)=(bC l).set i.toNat (Iv x):=by simp[bC,hT]
 rw[this];exact h1
def oF:top=1099511627776:=rfl
def aCZ{s:Sl}{l:bA eL}{t:Int}(hn:s.n=l.length)(hb:l.length<1000000)(a7:s.n<=s.c)(aw:∀x∈l,x.use<2147483648)(h:Sep E (eE s l::L) w):
  Calls P J7 #[Sv s,Iv t] w (cC λv w'=>∃e:Sl,v=Sv e/\e.n=(m7 l t).length/\Sep E (bw e 1 (bC (m7 l t))::eE s l::L) w'):=by
 apply Ya;unfold MC qD qF qL qO qQ qU qW qg qh qi ql zG zH;have ag:(ie l=false\/t<0\/(l.length:Int)<=t)->∀w',Sep E (eE s l::L) w'->∃e:Sl,Value.slice none 0 0=Sv e/\e.n=(m7 l t).length/\Sep E (bw e 1 (bC (m7 l t))::eE s l::L) w':=by
  intro Y w' h';have e:m7 l t= []:=by unfold m7;rw[bK Y]
  rw[e];exact⟨⟨none,0,0⟩,rfl,rfl,bw.none_ h'⟩
 refine⟨λw'=>ie l=true/\0<=t/\t<l.length/\Sep E (eE s l::L) w',use (QL (q:=0) rfl hn hb h) ?_,?_⟩
 ·rintro _ br ⟨rfl,h1⟩;refine⟨_,rfl,?_⟩;cases u:ie l with
  |false=>exact bT rfl (ag (.inl u) _ h1)
  |true=>exact bF rfl (cU (λaD=>ag (.inr (.inl aD)) _ h1) (λaD=>hq (λa9=>ag (.inr (.inr bu)) _ h1) (λa9=>⟨rfl,aD,bu,h1⟩)))
 rintro _ w2 ⟨u,ax,bq,h2⟩;have a8:=aHx u;refine r9 (n:=s.n) bu h2 (λA bs ak aB=>?_);rw[hn]at ak aB;refine⟨⟨bN,bu⟩,?_⟩;have aL:(1:Int).toNat=1:=rfl;rw[aL];let d:Nat->bS:=λk=>(List.range l.length).map λj:Nat=>np l k (j:Int);have C:∀k,(d k).length=l.length:=λk=>by simp[d]
 have aW:List.replicate l.length (0:Int)=d 0:=by
  apply gJ;intro i;simp only[d,oh,ez];by_cases R:i<l.length;·rw[bK R,ny R];rfl
  ·rw[bJ R,gI (by simpa using R)];rfl
 have aj:∀k (p:Int),0<=p->p<l.length->(d k).getD p.toNat 0=np l k p:=by
  intro k p hp bg;simp only[d,dC,ez];rw[ny bu];simp only[fC,mY];rw[show((p.toNat:Nat):Int)=p by omega]
 rw[aW]at aB;refine⟨λx w'=>∃k:Nat,x=k/\k+1<=l.length/\Sep E (bw A 1 (bC (d k))::eE s l::L) w',λx _=>(l.length-x).toNat,⟨0,rfl,bu,aB⟩,?_⟩;rintro _ x aG ⟨k,rfl,hk,ad⟩;refine cU (λaf=>?_) (λaT=>?_)
 ·have af:k+1<l.length:=by omega
  obtain⟨y,D⟩:∃y,l[k+1]?=some y:=⟨_,du⟩
  have aX:(l.drop 1)[k]?=some y:=by rw[rm,sI];exact D
  have I:=pq u D;have H:0<=y.parent/\y.parent<l.length:=by rcases I.1 with⟨e,_⟩|e<;>omega
  have au:=wq I.2.1 I.2.2;have aS:∀ {F:Addr->Prop},(∀a,aG.cell? (a.add 0)=some (Iv y.parent)->aG.cell? (a.add 1)=some (Iv y.use)->aG.cell? (a.add 2)=some (Iv y.own)->F a)->cF (gA s.p 1 s.c 3) (s.n-1) (k:Int) 3 F:=by
   intro F bb;obtain⟨b,spare,hp,aI,a0,bp,_⟩:=bw.iB (ad.fr 1 rfl) bu;have aZ:gA s.p 1 s.c 3=some ⟨b,3,none⟩:=by unfold gA;rw[cK,hp];rfl
   rw[aZ];have a2:=wu (E:=E) (f:=F) (k:=k+1) 1 ad rfl hn (i:=((k+1:Nat):Int)) rfl D (λa Z aa ab=>bb a Z aa ab);obtain⟨a,aM,hr,hf⟩:=a2;rw[hp]at aM;have:=cV aM;subst this;refine⟨_,rfl,⟨bu,bu⟩,?_⟩;have e:(⟨b,3,none⟩:Addr).add (((k:Nat):Int).toNat*3)=(⟨b,0,none⟩:Addr).add ((((k+1:Nat):Int)).toNat*3):=by
    rw[cj,cj];congr 1;omega
   rw[e];exact hf
  refine aS (λa Z aa ab=>⟨_,Z,_,aa,_,ab,Al.i ad (λp bc am=>ey _ am rfl (λbd Q=>Dr.i Q (λaY B=>?_)))⟩);have B:Sep E (bD p [Iv y.parent,Iv y.use,Iv y.own]::bw A 1 (bC (d k))::eE s l::L) aY:=B;have cell:∀(j:Nat) {w':bI},Sep E (bD p [Iv y.parent,Iv y.use,Iv y.own]::bw A 1 (bC (d k))::eE s l::L) w'->w'.cell? ((⟨p,0,none⟩:Addr).add j)=([Iv y.parent,Iv y.use,Iv y.own]:bA bH)[j]? :=by
   intro j w' aE;rw[cj,aE.cell,fz]
  have al:A.n=(d k).length:=by rw[C,ak]
  refine⟨_,cell 0 B,nn 1 B rfl al H.1 (by rw[C];exact H.2) (λbn ar=>⟨_,ar 1 B rfl,_,cell 0 B,_,cell 1 B,_,cell 2 B,use (QK B) ?_⟩)⟩;rintro _ be ⟨rfl,X⟩;refine⟨_,rfl,_,ar 1 X rfl,rfl,_,cell 0 X,rfl,?_⟩;rw[aj k y.parent H.1 H.2];have bf:=E5 u y.parent k bu;have aN:(k:Int)*top<=64*top:=GZ bu bN;rw[cX (by rw[oF]at *;omega) (by rw[oF]at *;omega)];refine j5 (X.swap) al H.1 (by rw[C];exact H.2) (λaH r=>?_);have e:(d k).set y.parent.toNat (np l k y.parent+y.e8)=d (k+1):=by
   apply gJ;intro i;by_cases R:i<l.length
   ·have aA:(d (k+1))[i]?=some (np l (k+1) (i:Int)):=by simp only[d,ez,ny R];rfl
    rw[aA,QH aX];by_cases av:y.parent.toNat=i
    ·subst av;rw[jm (by rw[C];omega),eV,show((y.parent.toNat:Nat):Int)=y.parent by omega]
    ·rw[iM av,cK];simp only[d,ez,ny R];rfl
   ·rw[gI (by rw[eh,C];omega),gI (by rw[C];omega)]
  rw[e]at r;exact⟨⟨k+1,c4,bu,r.ro 2 [0] rfl⟩,by dsimp only;rw[c4];omega⟩
 ·have:k=l.length-1:=by omega
  subst this;have ae:∀p:Int,0<=p->p<l.length->(d (l.length-1)).getD p.toNat 0=sumOf l p:=λp a1 h1=>by rw[aj _ p a1 h1,QI]
  generalize a6:d (l.length-1)=S at ad ae;have aq:S.length=l.length:=by rw[<- a6,C]
  have aC:∀p:Int,0<=sumOf l p/\sumOf l p<=64*top:=by
   intro p;rw[<- QI p];have:=E5 u p (l.length-1) bu;have aN:((l.length-1:Nat):Int)*top<=64*top:=GZ bu bN;omega
  refine r9 (n:=s.n) bu ad (λo bc ho am=>?_);rw[hn]at ho am;have g:∀k,k<=l.length->(gw l t k).length=k:=λk hk=>E2 hk;refine⟨λx w'=>∃k:Nat,x=k/\k<=l.length/\Sep E (bw o 1 (bC (gw l t k++List.replicate (l.length-k) 0))::bw A 1 (bC S)::eE s l::L) w',λx _=>(l.length-x).toNat,
   ⟨0,rfl,dX _,am⟩,?_⟩
  rintro _ x bd ⟨k,rfl,hk,Q⟩;refine cU (λaf=>?_) (λaT=>?_)
  ·have af:k<l.length:=by omega
   obtain⟨y,D⟩:∃y,l[k]?=some y:=⟨_,du⟩
   have I:=pq u D;have au:=wq I.2.1 I.2.2;have ba:=aw y (eG D);have aV:∀k',k'<=l.length->o.n=(gw l t k'++List.replicate (l.length-k') 0).length:=λk' aU=>by rw[ho,df,g k' aU,mW];omega
   refine wu 2 Q rfl hn rfl D (λa Z aa ab=>⟨_,Z,_,aa,_,ab,Al.i Q (λp aY B=>ey _ B rfl (λbe X=>?_))⟩);have cell:∀(j:Nat) {w':bI} {M:cr},Sep E (bD p [Iv y.parent,Iv y.use,Iv y.own]::M) w'->w'.cell? ((⟨p,0,none⟩:Addr).add j)=([Iv y.parent,Iv y.use,Iv y.own]:bA bH)[j]? :=by
    intro j w' M aE;rw[cj,aE.cell,fz]
   have zero:m6 l t (gw l t k) k y=0->∀ {w':bI},Sep E (bw o 1 (bC (gw l t k++List.replicate (l.length-k) 0))::bw A 1 (bC S)::eE s l::L) w'->
     (∃k':Nat,i64.wrap ((k:Int)+1)=k'/\k'<=l.length/\Sep E (bw o 1 (bC (gw l t k'++List.replicate (l.length-k') 0))::bw A 1 (bC S)::eE s l::L) w')/\(l.length-i64.wrap ((k:Int)+1)).toNat<(l.length-(k:Int)).toNat:=by
    intro aF w' h';refine⟨⟨k+1,c4,bu,?_⟩,by rw[c4];omega⟩;rw[E3 D,aF,dp];have: [(0:Int)]++List.replicate (l.length-(k+1)) 0=List.replicate (l.length-k) 0:=by
     rw[show l.length-k=(l.length-(k+1))+1 by omega,oS];rfl
    rw[this];exact h'
   refine⟨λw'=>(k:Int)≠t/\m5 l k t=true/\Sep E (bD p [Iv y.parent,Iv y.use,Iv y.own]::bw o 1 (bC (gw l t k++List.replicate (l.length-k) 0))::bw A 1 (bC S)::eE s l::L) w',
    eC (λe=>zero (by unfold m6;rw[bK (.inl e)]) X.tail) (λW=>use (QQ (q:=3) rfl hn u bu ax X) ?_),?_⟩
   ·rintro _ aH ⟨rfl,r⟩;have r:Sep E (eE s l::bD p [Iv y.parent,Iv y.use,Iv y.own]::bw o 1 (bC (gw l t k++List.replicate (l.length-k) 0))::bw A 1 (bC S)::L) aH:=r;refine⟨_,rfl,?_⟩;cases U:m5 l (k:Int) t with
    |false=>exact bT rfl (zero (by unfold m6;rw[bK (.inr U)]) (r.ro 4 [2,3,0] rfl))
    |true=>exact bF rfl ⟨W,rfl,r.ro 4 [1,2,3,0] rfl⟩
   ·rintro _ aH ⟨W,U,r⟩;have N:=aA3 u ax D U W;refine⟨_,cell 0 r,_,cell 1 r,_,cell 2 r,use (QK r) ?_⟩;rintro _ bi ⟨rfl,aJ⟩;refine⟨_,rfl,j5 aJ.swap (aV k bu) bu (by rw[df,g k bu,mW];omega) (λaz G=>?_)⟩;have aA:(gw l t k++List.replicate (l.length-k) 0).set ((k:Nat):Int).toNat y.e8=gw l t k++y.e8::List.replicate (l.length-(k+1)) 0:=by
     rw[dt,iD _ _ (by rw[g k bu];exact ec _),g k bu,iE,show l.length-k=(l.length-(k+1))+1 by omega,oS,Bd]
    rw[aA]at G;have m:(gw l t k++y.e8::List.replicate (l.length-(k+1)) 0).length=l.length:=by rw[df,g k bu,hN,mW];omega
    have K:o.n=(gw l t k++y.e8::List.replicate (l.length-(k+1)) 0).length:=by rw[m,ho]
    have G:Sep E (bw o 1 (bC (gw l t k++y.e8::List.replicate (l.length-(k+1)) 0))::bD p [Iv y.parent,Iv y.use,Iv y.own]::bw A 1 (bC S)::eE s l::L) az:=G;have O:=G.swap;have bh:=aC y.parent;refine⟨_,cell 0 O,mN 2 O rfl (by rw[ak,aq]) N.1 (by rw[aq];omega) (λa3 aO=>⟨_,aO,?_⟩)⟩;rw[ae y.parent N.1 bu];have ah:(gw l t k++y.e8::List.replicate (l.length-(k+1)) 0).getD y.parent.toNat 0=(gw l t k).getD y.parent.toNat 0:=by
     rw[dC,eQ (by rw[g k bu];omega),<- dC]
    have an:0<=(gw l t k).getD y.parent.toNat 0/\(gw l t k).getD y.parent.toNat 0<2147483648:=by
     rw[dC,ea (by rw[g k bu];omega)];have:=E4 u k bu y.parent.toNat _ (ea (by rw[g k bu];omega));obtain⟨aI,x,hx,a0⟩:=this;have:=aw x (eG hx);have ay:=pq u hx;have:=wq ay.2.1 ay.2.2;simp only[mY];exact⟨aI,bu⟩
    have done:∀ {w':bI} (z:Int),m6 l t (gw l t k) k y=z->Sep E (bw o 1 (bC (gw l t k++z::List.replicate (l.length-(k+1)) 0))::bD p [Iv y.parent,Iv y.use,Iv y.own]::bw A 1 (bC S)::eE s l::L) w'->
      (∃k':Nat,i64.wrap ((k:Int)+1)=k'/\k'<=l.length/\Sep E (bw o 1 (bC (gw l t k'++List.replicate (l.length-k') 0))::bw A 1 (bC S)::eE s l::L) w')/\(l.length-i64.wrap ((k:Int)+1)).toNat<(l.length-(k:Int)).toNat:=by
     intro w' z aF h';refine⟨⟨k+1,c4,bu,?_⟩,by rw[c4];omega⟩;rw[E3 D,aF,dp];exact h'.ro 4 [0,2,3] rfl
    have V:m6 l t (gw l t k) k y=if y.parent≠t/\(gw l t k).getD y.parent.toNat 0<sumOf l y.parent then y.e8*(gw l t k).getD y.parent.toNat 0/sumOf l y.parent else y.e8:=by
     unfold m6;rw[bJ (by rintro(c|c);exact W c;rw[U]at c;cases c)]
    refine⟨λq w'=>q=decide (y.parent≠t/\(gw l t k).getD y.parent.toNat 0<sumOf l y.parent)/\w'=az,⟨_,cell 0 O,g0 (λai=>⟨_,cell 0 O,mN 1 O rfl K N.1 (by rw[m];omega) (λa4 aP=>⟨_,aP,?_,rfl⟩)⟩) (λai=>⟨?_,rfl⟩)⟩,?_⟩
    ·rw[ah];by_cases J:(gw l t k).getD y.parent.toNat 0<sumOf l y.parent;·rw[dK J,dK ⟨ai,J⟩]
     ·rw[dq J,dq (λc=>J c.2)]
    ·rw[dq (λc=>c.1 ai)]
    ·rintro _ q bj ⟨rfl,rfl⟩;by_cases Y:y.parent≠t/\(gw l t k).getD y.parent.toNat 0<sumOf l y.parent
     ·rw[dK Y];rw[bK Y]at V;refine bT rfl (Dr.i G (λbk T=>mN 0 T rfl K bu (by rw[m];omega) (λa5 aQ=>⟨_,aQ,_,cell 0 T.swap,mN 0 T rfl K N.1 (by rw[m];omega) (λbo aR=>⟨_,aR,?_⟩)⟩)));have ao:(gw l t k++y.e8::List.replicate (l.length-(k+1)) 0).getD ((k:Nat):Int).toNat 0=y.e8:=by
       rw[dt,dC,fL (by rw[g k bu];exact ec _),g k bu,iE];rfl
      rw[ao,ah];refine use (aLt ⟨au.1,bu⟩ an ⟨bu,by rw[oF]at *;omega⟩ T) ?_;rintro _ bl ⟨rfl,aK⟩;refine⟨_,rfl,j5 aK K bu (by rw[m];omega) (λbm ap=>done _ V ?_)⟩;rw[dt,iD _ _ (by rw[g k bu];exact ec _),g k bu,iE,Bd]at ap;exact ap
     ·rw[dq Y];rw[bJ Y]at V;exact bF rfl (done _ V G)
  ·have:k=l.length:=by omega
   subst this;rw[iE,Hc,g3]at Q;have e:gw l t l.length=m7 l t:=by
    unfold gw m7;rw[fB,bJ];rintro(c|c|c);·rw[u]at c;cases c
    ·omega
    ·omega
   rw[e]at Q;exact⟨o,rfl,by rw[<- e,g _ (ec _),ho],Q.ro 3 [0,2] rfl⟩
end Go.Mp
namespace Go.Mp
open Go Go.Vc Go.Sp Go.Stab
section
variable{E:Env}{L:cr}{w:bI}{s:Sl}{l:bS}
def fe.use{Q:cS}{g:bH}{args:cf bH}{w:bI}{R R':Ending->bi9}(h:fe Q g args w R)(k:∀e w',R e w'->R' e w'):fe Q g args w R':=by
 obtain⟨f,ca,h1,h2,a⟩:=h;exact⟨f,ca,h1,h2,a.mono k⟩
def hc{F:Int->Prop}{i x:Int}(k:Nat)(h:Sep E (bw s 1 (bC l)::L) w)(hn:s.n=l.length)(d:i=k)(hx:l[k]?=some x)(f:F x):cF s.p s.n i 1 λa=>∃v:Int,w.cell? a=some (Iv v)/\F v:=by
 have c:=(c2.1 hx).1;refine mN 0 h rfl hn bu bu (λa b=>⟨_,b,?_⟩);have e:i.toNat=k:=by omega
 rw[e,List.getD,hx];exact f
def kS{f:bi9}{i x:Int}(k:Nat)(h:Sep E (bw s 1 (bC l)::L) w)(hn:s.n=l.length)(d:i=k)(hk:k<l.length)(g:∀c,Sep E (bw s 1 (bC (l.set k x))::L) c->f c):
  cF s.p s.n i 1 λa=>St a (Iv x) f w:=by
 refine bw.el 0 h rfl bu bu (λb hb _=>?_);have e:i.toNat*1=k:=by omega
 rw[e];refine bw.st h hb (by simpa using hk) (λc h1=>g c ?_);have:bC (l.set k x)=(bC l).set k (Iv x):=by simp[bC,hT]
 rw[this];exact h1
def gO(E:Env)(L:cr)(s:Sl)(cmp:bH)(lt:Int->Int->Bool)(n:Nat):Prop:=
 ∀(l:bS) (x y:Int) (w:bI),l.length=n->Sep E (bw s 1 (bC l)::L) w->fe P cmp #[Iv x,Iv y] w λe w'=>∃r:Int,e=.returned (Iv r)/\decide (r<0)=lt x y/\Sep E (bw s 1 (bC l)::L) w'
variable{cmp:bH}{lt:Int->Int->Bool}{n:Nat}
def gO.i(a:gO E L s cmp lt n)(hl:l.length=n)(h:Sep E (bw s 1 (bC l)::L) w){x y:Int}{A B:bi9}(b:lt x y=true->∀w',Sep E (bw s 1 (bC l)::L) w'->A w')(c:lt x y=false->∀w',Sep E (bw s 1 (bC l)::L) w'->B w'):
  fe P cmp #[Iv x,Iv y] w λe w'=>∃r:Int,e=.returned (Iv r)/\bif decide (r<0)then A w' else B w':=by
 refine fe.use (a l x y w hl h) ?_;rintro e w' ⟨r,rfl,hr,h'⟩;refine⟨r,rfl,?_⟩;rw[hr];cases hb:lt x y with
 |true=>exact b hb w' h'
 |false=>exact c hb w' h'
def gO.j(a:gO E L s cmp lt n)(hl:l.length=n)(h:Sep E (bw s 1 (bC l)::L) w){x y:Int}{A B:bi9}(b:lt x y=true->∀w',Sep E (bw s 1 (bC l)::L) w'->A w')(c:lt x y=false->∀w',Sep E (bw s 1 (bC l)::L) w'->B w'):
  fe P cmp #[Iv x,Iv y] w λe w'=>∃r:Int,e=.returned (Iv r)/\bif(!(decide (r<0)))then B w' else A w':=by
 refine fe.use (a l x y w hl h) ?_;rintro e w' ⟨r,rfl,hr,h'⟩;refine⟨r,rfl,?_⟩;rw[hr];cases hb:lt x y with
 |true=>exact b hb w' h'
 |false=>exact c hb w' h'
structure lO(R b:Int->Int->Prop)(lt:Int->Int->Bool):Prop where
 ord:Ord R
 ne:∀x y,b x y->x≠y
 ask:∀x y,b x y->(lt y x=true↔R y x)
variable{R b:Int->Int->Prop}
def lO.no(K:lO R b lt){x y:Int}(hb:b x y)(h:lt y x=false):R x y:=
 K.ord.not (l3 (K.ne x y hb)) (λhr=>by rw[(K.ask x y hb).2 hr]at h;cases h)
def half{i j:Int}(h1:0<=i+j:=by omega)(h2:i+j<=4611686018427387904:=by omega):i64.wrap ((u64.wrap (i64.wrap (i+j))).fdiv (2^(min (1:Int).toNat 64)))=(i+j)/2:=by
 have a:i64.wrap (i+j)=i+j:=cX bu bu;have b:u64.wrap (i+j)=i+j:=by
  unfold IntKind.wrap;simp only[IntKind.signed,IntKind.bits,xD];rw[bJ (by simp)];omega
 have c:(i+j).fdiv (2^(min (1:Int).toNat 64))=(i+j)/2:=by
  show(i+j).fdiv 2=_;rw[Ub _ bN]
 rw[a,b,c,cX bu bu]
def lP{A B:bS}{k:Nat}:(A++B)[A.length+k]?=B[k]? :=by
 rw[fL bu];congr 1;omega
def kT{A P B:bS}{i k:Nat}{x:Int}(a:i<=P.length)(hk:k<=P.length):(A++ins P i x++B)[A.length+k]?=if k<i then P[k]? else if k=i then some x else P[k-1]? :=by
 have:=m8 P i x;rw[dp,lP,eQ bu,sX P i x a]
def wv{A M B:bS}(K:lO R b lt)(V:M.Pairwise b)(hn:s.n=(A++M++B).length)(H:(A++M++B).length<4611686018427387904)(J:gO E L s cmp lt (A++M++B).length)(h:Sep E (bw s 1 (bC (A++M++B))::L) w){a e:Int}(W:a=A.length)(he:e=A.length+M.length):
  Calls P D2 #[Sv s,Iv a,Iv e,cmp] w (cC λv w'=>v=.tuple #[]/\∃G,G.Perm M/\G.Pairwise R/\Sep E (bw s 1 (bC (A++G++B))::L) w'):=by
 subst W he;have hlen:(A++M++B).length=A.length+M.length+B.length:=by simp;omega
 apply Zx;unfold NO qD qO qW qg;rw[hlen]at hn H J;refine⟨λi w=>∃(k:Nat) (S:bS),i=A.length+k/\1<=k/\(k<=M.length\/M= [])/\S.Perm (M.take k)/\S.Pairwise R/\Sep E (bw s 1 (bC (A++S++(M.drop k++B)))::L) w,λi _=>(A.length+M.length-i).toNat,?_,?_⟩
 ·rw[cX bu bu];refine⟨1,M.take 1,bu,ec _,?_,.refl _,?_,?_⟩
  ·cases M with
   |nil=>exact .inr rfl
   |cons x M=>left;simp
  ·cases M with
   |nil=>simp
   |cons x M=>simp
  ·have:A++M.take 1++(M.drop 1++B)=A++M++B:=by
    rw[<- dp,dp A,fP]
   rw[this];exact h
 rintro _ i ag ⟨k,S,rfl,ab,d,p,z,h1⟩;refine cU (λad=>?_) (λZ=>⟨rfl,S,?_,z,?_⟩)
 ·have D:k<M.length:=by omega
  have q:S.length=k:=by rw[p.length_eq];simp;omega
  have hx:M[k]?=some M[k]:=ea D;generalize Q:M[k]=x at hx;have t:M.drop k=x::M.drop (k+1):=by rw[<- Q];exact kZ D
  have C:∀y∈S,b y x:=by
   intro y f;obtain⟨j,X,N⟩:=sY (p.mem_iff.1 f);exact pY V N hx X
  refine⟨λj w=>∃m:Nat,j=A.length+m/\m<=k/\(k<=m\/∃y,S[m]?=some y/\R x y)/\Sep E (bw s 1 (bC (A++ins S m x++(M.drop (k+1)++B)))::L) w,λj _=>(j-A.length).toNat,?_,?_⟩
  ·refine⟨k,rfl,ec _,.inl (ec _),?_⟩;have e:A++ins S k x++(M.drop (k+1)++B)=A++S++(M.drop k++B):=by
    rw[<- q,x2,q,t];simp
   rw[e];exact h1
  rintro _ j w2 ⟨m,rfl,af,O,h2⟩;have g:(A++ins S m x++(M.drop (k+1)++B)).length=A.length+M.length+B.length:=by
   have:=m8 S m x;simp only[df,this,ot];omega
  have out:∀ {r:bI},(m=0\/∃y,S[m-1]?=some y/\R y x)->Sep E (bw s 1 (bC (A++ins S m x++(M.drop (k+1)++B)))::L) r->
    ((∃(k':Nat) (S:bS),(i64.wrap (A.length+k+1))=A.length+k'/\1<=k'/\(k'<=M.length\/M= [])/\S.Perm (M.take k')/\S.Pairwise R/\Sep E (bw s 1 (bC (A++S++(M.drop k'++B)))::L) r)/\
     (A.length+M.length-i64.wrap (A.length+k+1)).toNat<(A.length+M.length-(A.length+k:Int)).toNat):=by
   intro r u l;rw[cX bu bu];refine⟨⟨k+1,ins S m x,bu,bu,.inl bu,?_,?_,l⟩,bu⟩
   ·refine(sW S m x).trans ?_;rw[l0,hx];exact(List.Perm.cons x p).trans (mu (l₁:=[x]))
   ·exact sZ K.ord z u (by rw[q];exact O)
  refine⟨λw=>∃c y,m=c+1/\S[c]?=some y/\R x y/\Sep E (bw s 1 (bC (A++ins S m x++(M.drop (k+1)++B)))::L) w,?_,?_⟩
  ·refine Dr.i h2 (λr l=>gv (λaa=>?_) (λhle=>?_))
   ·obtain⟨c,rfl⟩:∃c,m=c+1:=⟨m-1,bu⟩
    have f:S[c]?=some (S[c]'bu):=du;generalize S[c]'(bu)=y at f;have F:y∈S:=eG f;rw[cX bu bu];refine hc (A.length+(c+1)) l (by rw[hn,g]) bu (by rw[kT bu bu,cK,bK rfl]) ?_;refine hc (A.length+c) l (by rw[hn,g]) bu (by rw[kT bu bu,eV];exact f) ?_;refine J.i g l (λY T o=>⟨c,y,rfl,f,(K.ask y x (C y F)).1 Y,o⟩) (λhf T o=>out (.inr ⟨y,f,K.no (C y F) hf⟩) o)
   ·exact out (.inl bu) l
  ·rintro _ r ⟨c,y,rfl,f,hr,l⟩;have ae:c<S.length:=(c2.1 f).1;refine Dr.i l (λT o=>?_);rw[cX (n:=A.length+((c+1:Nat):Int)-1) bu bu];refine hc (A.length+c) o (by rw[hn,g]) bu (by rw[kT bu bu,eV];exact f) ?_;refine hc (A.length+(c+1)) o (by rw[hn,g]) bu (by rw[kT bu bu,cK,bK rfl]) ?_;refine kS (A.length+(c+1)) o (by rw[hn,g]) bu bu (λah U=>?_);refine kS (A.length+c) U (by rw[eh,hn,g]) bu (by rw[eh];omega) (λai I=>?_);rw[<- uR,x3 f]at I;exact⟨⟨c,bu,bu,.inr ⟨y,f,hr⟩,I⟩,by dsimp only;omega⟩
 ·rcases d with d|d
  ·have:k=M.length:=by omega
   rw[this,fB]at p;exact p
  ·subst d;simpa using p
 ·have:M.drop k= []:=by
   rcases d with d|d;·exact lo bu
   ·subst d;simp
  rw[this,l1]at h1;exact h1
def sa{A U M V B:bS}(f:U.length=V.length)(hn:s.n=(A++U++M++V++B).length)(o:(A++U++M++V++B).length<4611686018427387904)(h:Sep E (bw s 1 (bC (A++U++M++V++B))::L) w){a e n':Int}(m:a=A.length)(he:e=A.length+U.length+M.length)(g:n'=U.length):
  Calls P y6 #[Sv s,Iv a,Iv e,Iv n',cmp] w (cZ E (.tuple #[]) (bw s 1 (bC (A++V++M++U++B))::L)):=by
 subst m he g;have hlen:(A++U++M++V++B).length=A.length+U.length+M.length+V.length+B.length:=by simp only[df]
 apply ZH;unfold NY qD qO qW;refine⟨λi w=>∃(k:Nat) (l':bS),i=k/\k<=U.length/\nR (A++U++M++V++B) l' A.length (A.length+U.length+M.length) k/\Sep E (bw s 1 (bC l')::L) w,λi _=>(U.length-i).toNat,⟨0,_,rfl,dX _,nR.zero _ _ _,h⟩,?_⟩;rintro _ i r ⟨k,l',rfl,hk,c,h1⟩;have b:l'.length=s.n:=by rw[c.1,hn]
 refine cU (λq=>Dr.i h1 (λw2 h2=>?_)) (λp=>⟨rfl,?_⟩)
 ·rw[cX (n:=(A.length:Int)+U.length+M.length+k) bu bu,cX (n:=(A.length:Int)+k) bu bu,cX (n:=(k:Int)+1) bu bu];have hx:l'[A.length+U.length+M.length+k]?=some (l'[A.length+U.length+M.length+k]'bu):=du;have d:l'[A.length+k]?=some (l'[A.length+k]'bu):=du;generalize l'[A.length+U.length+M.length+k]'(bu)=x at hx;generalize l'[A.length+k]'(bu)=y at d;refine hc _ h2 b.symm bu hx (hc _ h2 b.symm bu d ?_);refine kS (A.length+k) h2 b.symm bu bu (λt j=>kS (A.length+U.length+M.length+k) j (by rw[eh];exact b.symm) bu (by rw[eh];omega) (λu l=>?_));exact⟨⟨k+1,_,bu,bu,c.step (n:=U.length) bu bu hx d,l⟩,by dsimp only;omega⟩
 ·have:k=U.length:=by omega
  subst this;rw[c.eq f]at h1;exact h1
def E6{A X Y B:bS}(p:1<=X.length)(q:1<=Y.length)(hn:s.n=(A++X++Y++B).length)(t:(A++X++Y++B).length<4611686018427387904)(h:Sep E (bw s 1 (bC (A++X++Y++B))::L) w){a m e:Int}(r:a=A.length)(hm:m=A.length+X.length)(he:e=A.length+X.length+Y.length):
  Calls P KQ #[Sv s,Iv a,Iv m,Iv e,cmp] w (cZ E (.tuple #[]) (bw s 1 (bC (A++Y++X++B))::L)):=by
 subst r hm he;have hlen:(A++X++Y++B).length=A.length+X.length+Y.length+B.length:=by simp only[df]
 apply ZE;unfold NV qE qI;rw[cX (n:=(A.length:Int)+X.length-A.length) bu bu,cX (n:=(A.length:Int)+X.length+Y.length-(A.length+X.length)) bu bu];refine⟨λi j w=>∃A' c b d:bS,i=c.length/\j=b.length/\1<=c.length/\1<=b.length/\A'.length+c.length=A.length+X.length/\A'++b++c++d=A++Y++X++B/\Sep E (bw s 1 (bC (A'++c++b++d))::L) w,
  λi j _=>(i+j).toNat,⟨A,X,Y,B,bu,bu,p,q,rfl,rfl,h⟩,?_⟩
 rintro _ i j G ⟨A',c,b,d,rfl,rfl,u,x,C,f,h1⟩;have z:A'.length+b.length+c.length+d.length=A.length+X.length+Y.length+B.length:=by
  have:=eO List.length f;simp only[df]at this;omega
 have D:s.n=A'.length+b.length+c.length+d.length:=by omega
 rw[cX (n:=(A.length:Int)+X.length-c.length) bu bu];refine g0 (λF=>gv (λy=>?_) (λhle=>?_)) (λheq=>?_)
 ·
  have l:A'++c++b++d=A'++c.take b.length++c.drop b.length++b++d:=by rw[dp A' (c.take _),fP]
  have g:(c.take b.length).length=b.length:=by simp;omega
  have k:(c.drop b.length).length=c.length-b.length:=by simp
  rw[l]at h1;refine use (sa (cmp:=cmp) g (by simp only[df,g,k];omega) (by simp only[df,g,k];omega) h1 bu bu bu) ?_;rintro _ w2 ⟨rfl,h2⟩;rw[cX bu bu];refine⟨rfl,⟨A'++b,c.drop b.length,c.take b.length,d,bu,bu,bu,bu,by simp only[df];omega,?_,h2⟩,by dsimp only;omega⟩;rw[<- f,dp (A'++b),fP]
 ·have l:A'++c++b++d=A'++c++b.take (b.length-c.length)++b.drop (b.length-c.length)++d:=by rw[dp (A'++c) (b.take _),fP]
  have g:(b.take (b.length-c.length)).length=b.length-c.length:=by simp
  have k:(b.drop (b.length-c.length)).length=c.length:=by simp;omega
  rw[l]at h1;rw[cX (n:=(A.length:Int)+X.length+b.length) bu bu,cX (n:=(A.length:Int)+X.length+b.length-c.length) bu bu];refine use (sa (cmp:=cmp) k.symm (by simp only[df,g,k];omega) (by simp only[df,g,k];omega) h1 bu bu bu) ?_;rintro _ w2 ⟨rfl,h2⟩;rw[cX bu bu];refine⟨rfl,⟨A',b.drop (b.length-c.length),b.take (b.length-c.length),c++d,bu,bu,bu,bu,bu,?_,?_⟩,by dsimp only;omega⟩;·rw[<- f,dp A' (b.take _),fP];simp
  ·have:A'++b.drop (b.length-c.length)++b.take (b.length-c.length)++c++d=A'++b.drop (b.length-c.length)++b.take (b.length-c.length)++(c++d):=by simp
   rw[<- this];exact h2
 ·have o:c.length=b.length:=by omega
  have l:A'++c++b++d=A'++c++[]++b++d:=by simp
  rw[l]at h1;refine use (sa (cmp:=cmp) o (by simp only[df,rr];omega) (by simp only[df,rr];omega) h1 bu (by simp only[rr];omega) bu) ?_;rintro _ w2 ⟨rfl,h2⟩;refine⟨rfl,rfl,?_⟩;rw[<- f];have:A'++b++[]++c++d=A'++b++c++d:=by simp
  rw[this]at h2;exact h2
end
end Go.Mp
