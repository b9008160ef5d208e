/- Part of a proof about the core: of its walks and plain laws. -/
import Derived.Test.YtafigbgagbolgaaGreatDoorC08
set_option linter.all false
set_option maxRecDepth 100000
open Go.IntKind(i64 u64)
namespace Go.Kw
structure gh(s:Sp):Prop where
 ct:Tok s.ct
 lH:ft 0 s.dI=true
def gh.new:gh Sp.new:=⟨⟨List.Pairwise.nil,λ_ h=>by cases h⟩,rfl⟩
def wa:∀ {l r:List Rg} {a:Int},ft a (l++r)=true↔ft a l=true/\ft ((l.getLast?.map Rg.b).getD a) r=true
 |[],r,a=>by simp[ft]
 |[x],r,a=>by simp[ft]
 |x::y::l,r,a=>by
  have:=wa (l:=y::l) (r:=r) (a:=x.b);have e:((y::l).getLast?.map Rg.b).getD x.b=((y::l).getLast?.map Rg.b).getD a:=by
   rw[List.getLast?_cons];rfl
  rw[e]at this;rw[List.getLast?_cons_cons];show((x.valid&&decide (a<=x.a))&&ft x.b (y::l++r))=true↔((x.valid&&decide (a<=x.a))&&ft x.b (y::l))=true/\_;generalize (x.valid&&decide (a<=x.a))=c;rw[dG,dG,this,and_assoc]
def EF{l:List Rg}{a b:Int}(h:ft a l=true)(c:∀x,l[0]?=some x->b<=x.a):ft b l=true:=by
 cases l with
 |nil=>rfl
 |cons x l=>
  simp only[ft,dG,gj]at h ⊢;exact⟨⟨h.1.1,c x rfl⟩,h.2⟩
def P7{q:Rg->Bool}:∀ {l:List Rg} {j:Nat} {y:Rg},j<eY q l->l[j]?=some y->q y=false
 |x::r,0,y,h,a=>by
  simp at a;subst a;unfold eY at h;split at h;·omega
  ·next b=>simpa using b
 |x::r,j+1,y,h,a=>by
  unfold eY at h;split at h;·omega
  ·exact P7 (l:=r) (j:=j) bA (by simpa using a)
def P8{l:List Rg}{x:Rg}(h:ft 0 l=true):ft 0 (ek l x).1=true:=by
 unfold ek;split;·exact h
 next d=>
 rw[not_or,not_or]at d;have f:x.valid=true:=by cases hx:x.valid with|true=>rfl|false=>exact absurd hx d.2.1
 have g:=(Rg.fc f).1;dsimp only;generalize o:eY (λy=>decide (x.a<y.b)) l=n;have key:(∀y,l[n]?=some y->x.b<=y.a)->ft 0 (l.take n++x::l.drop n)=true:=by
  intro b;rw[<- fA n l]at h;obtain⟨h1,k⟩:=wa.1 h;refine wa.2 ⟨h1,?_⟩;simp only[ft,dG,gj];refine⟨⟨f,?_⟩,EF k (λy i=>b y ?_)⟩
  ·cases m:(l.take n).getLast? with
   |none=>exact g.1
   |some z=>
    show z.b<=x.a;have a:=TX m;obtain⟨j,c⟩:=List.getElem?_of_mem a;rw[pz]at c;split at c
    ·next e=>
     have:=P7 (by rw[o];exact e) c;simpa using this
    ·cases c
  ·rwa[py,lu]at i
 split
 ·next y b=>
  split;·exact h
  ·next p=>exact key λz a=>by rw[b]at a;cases a;omega
 ·next b=>exact key λz a=>by rw[b]at a;cases a
def gh.map{s:Sp}(h:gh s)(x:Rg):gh (s.map x).1:=⟨h.ct,P8 h.lH⟩
end Go.Kw
namespace Go.Mp
open Go Go.Vc Go.Sp Go.Proofs Go.Kc Go.Kv Go.Kw
variable{E:Env}{L:ch}{w W:World}{s:Kw.Sp}{p:Nat}
def dY(p:Nat)(s:Kw.Sp):Asn:=e8 λq:Sl×Nat=>cC (q.1.n=s.dI.length) (cA [bE p [.slice q.1.p q.1.n q.1.c,Pb q.2],cP q.1 s.dI,cU q.2 s.ct])
def dY.open(h:Sep E (dY p s::L) w):∃(r:Sl) (t:Nat),r.n=s.dI.length/\Sep E (bE p [Sv r,Pb t]::cP r s.dI::cU t s.ct::L) w:=by
 obtain⟨⟨r,t⟩,h⟩:=Sep.ex.1 h;obtain⟨a,h⟩:=Sep.cC.1 h;exact⟨r,t,a,Sep.cA.1 h⟩
def dY.mk{r:Sl}{t:Nat}(a:r.n=s.dI.length)(h:Sep E (bE p [Sv r,Pb t]::cP r s.dI::cU t s.ct::L) w):Sep E (dY p s::L) w:=
 Sep.ex.2 ⟨(r,t),Sep.cC.2 ⟨a,Sep.cA.2 h⟩⟩
def aKH(h:Sep E L w):Calls P I9 #[] w (bW λv w'=>∃p:Nat,v=Pb p/\Sep E (dY p Sp.new::L) w'):=by
 apply aCD;unfold Oc qR;refine use (PT h) ?_;rintro _ b ⟨t,rfl,h1⟩;refine⟨_,rfl,Al.i h1 (λp w2 a=>⟨p,rfl,dY.mk (r:=⟨none,0,0⟩) (t:=t) rfl ?_⟩)⟩;exact(bC.none_ (m:=6) a).swap
def aKG(x:Rg)(m:gh s)(h:Sep E (dY p s::L) w):Calls P yF #[Pb p,.agg x.vs.toArray] w (bW λv w'=>v=Iv (s.map x).2/\Sep E (dY p (s.map x).1::L) w'):=by
 obtain⟨r,t,f,h⟩:=dY.open h;have hlen:=z7 m.lH;apply atJ;unfold Of qK zF zR zY;refine Al.i h (λq o h1=>Dr.i h1 (λw2 a=>⟨_,rfl,?_⟩));have a:Sep E (bE q x.vs::bE p [Sv r,Pb t]::cP r s.dI::cU t s.ct::L) w2:=a;refine⟨r,a.cellAt 1 rfl 0,gw a (i:=0) rfl (use (aLK x f bA (a.ro 4 [2,0,1,3] rfl)) ?_)⟩;rintro _ n ⟨s',rfl,l⟩;have d:(s.map x).2=(ek s.dI x).2:=rfl;rcases l with⟨b,j,c⟩|⟨b,g,c⟩
 ·refine⟨s',_,rfl,eD (λe=>absurd e b) (λ_=>⟨by rw[d],dY.mk (r:=r) (t:=t) ?_ ?_⟩)⟩
  ·show r.n=(ek s.dI x).1.length;rw[j];exact f
  ·show Sep E (_::cP r (ek s.dI x).1::cU t s.ct::L) n;rw[j];exact c.ro 4 [2,0,3] rfl
 ·refine⟨s',_,rfl,eD (λ_=>⟨_,rfl,?_⟩) (λe=>absurd b e)⟩;refine St.i (c.ro 4 [2,0,3] rfl) (by show 0<2;decide) (λu k=>⟨by rw[d],dY.mk (r:=s') (t:=t) g k⟩)
def P9(bH:Int)(e:gh s)(h:Sep E (dY p s::L) w):Calls P CL #[Pb p,Iv bH] w (bW λv w'=>v=uf (s.dg bH)/\Sep E (dY p s::L) w'):=by
 obtain⟨r,t,d,h⟩:=dY.open h;have hlen:=z7 e.lH;apply arj;unfold Oz qK qU zR zg zm;refine Al.i h (λq g h1=>⟨_,rfl,r,h1.cellAt 1 rfl 0,use (aKz d bA (h1.ro 4 [2,0,1,3] rfl)) ?_⟩);rintro _ w2 ⟨rfl,c⟩;have hw:s.dg bH=kA s.dI bH:=rfl;have c:Sep E (cP r s.dI::bE q (Rg.vs ⟨0,0,0,0,0,false⟩)::bE p [Sv r,Pb t]::cU t s.ct::L) w2:=c;rw[hw];obtain⟨x,b,hx⟩:∃(x:Rg) (b:Bool),uf (kA s.dI bH)=.tuple #[.agg x.vs.toArray,.bool b]:=by
  cases kA s.dI bH with
  |some x=>exact⟨x,true,rfl⟩
  |none=>exact⟨⟨0,0,0,0,0,false⟩,false,rfl⟩
 rw[hx];refine⟨x.a,x.b,x.kind,x.file,x.idx,x.wr,b,rfl,eh _ (c.ro 4 [1,0,2,3] rfl) rfl (λf a=>?_)⟩;have a:Sep E (bE q x.vs::cP r s.dI::bE p [Sv r,Pb t]::cU t s.ct::L) f:=a;exact gw a (i:=0) rfl ⟨rfl,dY.mk d (a.ro 4 [2,1,3] rfl)⟩
def wb:List Value:=[Iv 0,Iv 0,.bool false,.bool false]
def Qa(o:Option En):Value:=match o with
 |some e=>.tuple #[.agg e.vs.toArray,.bool true]
 |none=>.tuple #[.agg wb.toArray,.bool false]
def rZ{b i:Nat}{e:En}{F:Int->Int->Bool->Bool->Prop}(h:Sep E L w)(a:L[i]?=some (bE b e.vs))(k:F e.k e.id e.wr e.tc):
  ∃c:Int,w.cell? ((⟨b,0,none⟩:Addr).add 0)=some (Iv c)/\∃d:Int,w.cell? ((⟨b,0,none⟩:Addr).add 1)=some (Iv d)/\∃f:Bool,w.cell? ((⟨b,0,none⟩:Addr).add 2)=some (.bool f)/\∃g:Bool,w.cell? ((⟨b,0,none⟩:Addr).add 3)=some (.bool g)/\F c d f g:=
 ld h i rfl a rfl (ld h i rfl a rfl (ld h i rfl a rfl (ld h i rfl a rfl k)))
def wc(bH:Int)(j:gh s)(h:Sep E (dY p s::L) w):Calls P tB #[Pb p,Iv bH] w (bW λv w'=>v=Qa (s.entry bH)/\Sep E (dY p s::L) w'):=by
 obtain⟨r,t,g,h⟩:=dY.open h;apply arh;unfold Oa qU qZ zh zn zt zu;refine Al.i h (λq x h1=>⟨_,rfl,_,h1.cellAt 1 rfl 1,use (PU j.ct (h1.ro 4 [3,0,1,2] rfl)) ?_⟩);rintro _ w2 ⟨m,b⟩;have b:Sep E (cU t s.ct::bE q wb::bE p [Sv r,Pb t]::cP r s.dI::L) w2:=b;have he:s.entry bH=if 0<=bH then ep s.ct bH.toNat else none:=rfl
 rcases m with⟨e,k,f,rfl⟩|⟨f,rfl⟩
 ·rw[he,bM k,f];have ho:=(j.ct.get f).2;refine⟨_,_,rfl,bF rfl (use (PN ho b) ?_)⟩;rintro _ n ⟨rfl,a⟩;refine⟨_,_,_,_,_,rfl,Al.i a (λz y l=>eh _ l rfl (λo c=>?_))⟩;have c:Sep E (bE z e.vs::cU t s.ct::bE q wb::bE p [Sv r,Pb t]::cP r s.dI::L) o:=c;refine rZ c (i:=0) rfl (eh _ (c.ro 5 [2,0,1,3,4] rfl) rfl (λu d=>?_));have d:Sep E (bE q e.vs::bE z e.vs::cU t s.ct::bE p [Sv r,Pb t]::cP r s.dI::L) u:=d;exact rZ d (i:=0) rfl ⟨rfl,dY.mk g (d.ro 5 [3,4,2] rfl)⟩
 ·rw[he,f];refine⟨_,_,rfl,bT rfl (eh _ (b.ro 4 [1,0,2,3] rfl) rfl (λn a=>?_))⟩;exact ld a 0 rfl rfl rfl (ld a 0 rfl rfl rfl (ld a 0 rfl rfl rfl (ld a 0 rfl rfl rfl ⟨rfl,dY.mk g (a.ro 4 [2,3,1] rfl)⟩)))
def aKI{bH id:Int}{k:Nat}{wr:Bool}(G:k=1\/k=2)(N:0<=id/\id<9223372036854775808)(d:gh s)(h:Sep E (dY p s::L) w):
  Calls P JT #[Pb p,Iv bH,.agg #[Iv (k:Int),Iv id,.bool wr,.bool false]] w (bW λv w'=>(∃r:Int,v=Iv r)/\Sep E (dY p (s.enter bH id k wr)::L) w'):=by
 obtain⟨n,rfl⟩:∃n:Nat,id=n:=⟨id.toNat,bA⟩
 obtain⟨e,he⟩:∃e:En,e=⟨k,n,wr,false⟩:=⟨_,rfl⟩
 have A:e.vs= [Iv (k:Int),Iv (n:Int),.bool wr,.bool false]:=by rw[he];rfl
 apply atK;unfold OT qL qQ qU qZ qg zB zg zm zn;refine Al.i h (λq I h1=>?_);have h1:Sep E (bE q e.vs::dY p s::L) I:=by rw[A];exact h1
 refine use (P9 bH d h1.swap) ?_;rintro _ w2 ⟨rfl,D⟩;obtain⟨x,hx⟩:∃(x:Rg),uf (s.dg bH)=.tuple #[.agg x.vs.toArray,.bool (s.dg bH).isSome]:=by
  cases s.dg bH with
  |some x=>exact⟨x,rfl⟩
  |none=>exact⟨⟨0,0,0,0,0,false⟩,rfl⟩
 rw[hx];refine⟨x.a,x.b,x.kind,x.file,x.idx,x.wr,_,rfl,Al.i D (λz O F=>eh _ F rfl (λJ b=>?_))⟩;have b:Sep E (bE z x.vs::dY p s::bE q e.vs::L) J:=b;have j:s.enter bH n k wr=if(s.dg bH).isSome/\0<=(n:Int)/\(n:Int)<16777216 then {s with ct:=fR s.ct bH.toNat ⟨k,n,wr,false⟩} else s:=by unfold Sp.enter;rw[dk]
 rw[j];cases hw:s.dg bH with
 |none=>
  rw[bJ (by rintro⟨B,_⟩;cases B)];exact bT rfl ⟨⟨_,rfl⟩,b.ro 3 [1] rfl⟩
 |some y=>
  have C:0<=bH/\bH<65536:=by
   have hf:kA s.dI bH=some y:=hw;unfold kA at hf;rw[d.lH,bM rfl]at hf;have a:=Ab hf;have m:=(Rg.fc (Aa d.lH y (eu hf))).1;unfold Rg.has at a;simp only[gj]at a;omega
  have g:e.k=1\/e.k=2:=by rw[he];exact G
  have f:e.id=n:=by rw[he]
  refine bF rfl (rZ b (i:=2) rfl (use (aKw g (by rw[f];omega) (b.ro 3 [0,2,1] rfl)) ?_));rintro _ K ⟨rfl,a⟩;have a:Sep E (bE z x.vs::bE q e.vs::dY p s::L) K:=a;rw[f];by_cases c:n<16777216
  ·rw[bM c,bM ⟨rfl,bA,bA⟩];refine⟨_,_,rfl,λw'=>Sep E (bE z x.vs::bE q e.vs::dY p s::L) w',bF rfl (ld a 1 rfl rfl rfl (bF ?_ a)),?_⟩;·rcases g with h|h<;>rw[h]<;>rfl
   rintro _ M m;obtain⟨r,t,H,o⟩:=dY.open (m.ro 3 [2] rfl);obtain⟨l,rfl⟩:∃l:Nat,bH=l:=⟨bH.toNat,bA⟩
   refine⟨_,rfl,_,o.cell 1,use (Ex (p:=l) (e:=e) d.ct bA (o.ro 3 [2,0,1] rfl)) ?_⟩;rintro _ Q ⟨rfl,u⟩;rw[he]at u;exact⟨_,rfl,⟨_,rfl⟩,dY.mk H (u.ro 3 [1,2,0] rfl)⟩
  ·rw[bJ c,bJ (by rintro⟨_,_,B⟩;omega)];exact⟨_,_,rfl,λ_=>False,bT rfl ⟨⟨_,rfl⟩,a.ro 3 [2] rfl⟩,λ_ M hf=>hf.elim⟩
end Go.Mp
namespace Go.Kw
def lI(T:c0)(a b:Int):walk T a b=(T.filter λq=>hv a b q.1).map λq=>(q.1:Int):=by
 unfold walk;rw[List.filter_map,rh];rfl
def EG{x:Rg}{a b:Int}(hx:x.valid=true)(j:x.a<=a)(k:b<=x.b):∀y∈dX x a b,y.valid=true/\a<=y.a/\y.b<=b:=by
 intro y d;unfold dX at d;split at d
 ·next g=>
  rw[iD]at d;subst d;have hf:=Rg.fc hx;obtain⟨h1,h⟩:=hf;refine⟨?_,e7 _,e7 _⟩;unfold Rg.valid at hx ⊢;simp only[dG,gj]at hx ⊢;obtain⟨i,c⟩:=hx;refine⟨by show 0<=a/\a<b/\b<=65536;omega,?_⟩;show(if x.kind=1 then decide (x.file=0/\(if x.kind=2 then x.idx+(a-x.a)else x.idx)=0)else if x.kind=2 then decide (0<=x.file/\x.file<=1048576/\0<=(if x.kind=2 then x.idx+(a-x.a)else x.idx)/\(if x.kind=2 then x.idx+(a-x.a)else x.idx)<=2097152-(b-a))else false)=true;by_cases f:x.kind=1
  ·rw[bM f]at c ⊢;rw[cM];exact c
  ·rw[bJ f]at c ⊢;by_cases e:x.kind=2
   ·rw[bM e]at c ⊢;rw[bM e];simp only[gj]at c ⊢;omega
   ·rw[bJ e]at c;cases c
 ·cases d
def EH{x:Rg}{a b:Int}:(dX x a b).length<=1:=by unfold dX;split<;>simp
def EI{l:List Rg}{a:Int}(h1:l.length<=1)(h:∀y∈l,y.valid=true/\a<=y.a):ft a l=true:=by
 match l,h1,h with
 |[],_,_=>rfl
 |[x],_,h=>simp[ft,(h x fj).1,(h x fj).2]
def aKP{x:Rg}{a b:Int}(hx:x.valid=true):ft x.a (fL a b x)=true/\∀y∈fL a b x,y.valid=true/\x.a<=y.a/\y.b<=x.b:=by
 have hf:=(Rg.fc hx).1;unfold fL;split
 ·have h:=EG hx (e7 x.a) (e7 x.b);exact⟨EI EH λy c=>⟨(h y c).1,(h y c).2.1⟩,h⟩
 ·next f=>
  have h1:=EG (a:=x.a) (b:=min x.b a) hx (e7 _) bA;have d:=EG (a:=max x.a b) (b:=x.b) hx bA (e7 _);refine⟨wa.2 ⟨EI EH λy c=>⟨(h1 y c).1,(h1 y c).2.1⟩,EI EH λy c=>⟨(d y c).1,?_⟩⟩,λy c=>?_⟩
  ·have g:=(d y c).2.1;cases e:(dX x x.a (min x.b a)).getLast? with
   |none=>show x.a<=y.a;omega
   |some z=>
    have:=(h1 z (TX e)).2.2;show z.b<=y.a;omega
  ·rcases h6.1 c with c|c;·have:=h1 y c;exact⟨this.1,this.2.1,bA⟩
   ·have:=d y c;exact⟨this.1,bA,this.2.2⟩
def Qb:∀ {l:List Rg} {p a b:Int},ft p l=true->ft p (l.flatMap (fL a b))=true
 |[],_,_,_,_=>rfl
 |x::r,p,a,b,h=>by
  simp only[ft,dG,gj]at h;obtain⟨⟨h1,m⟩,j⟩:=h;have d:=aKP (a:=a) (b:=b) h1;have i:=Qb (a:=a) (b:=b) j;rw[nX];refine wa.2 ⟨EF d.1 λy e=>?_,?_⟩;·have:=(d.2 y (eu e)).2.1;omega
  ·refine EF i λy e=>?_;have f:∀ {l:List Rg} {p:Int} {y:Rg},ft p l=true->l[0]?=some y->p<=y.a:=by
    intro l p y g c;cases l with
    |nil=>simp at c
    |cons z l=>
     simp at c;subst c;simp only[ft,dG,gj]at g;exact g.1.2
   have n:=f i e;cases k:(fL a b x).getLast? with
   |none=>show p<=y.a;have:=(Rg.fc h1).1;omega
   |some z=>show z.b<=y.a;have:=(d.2 z (TX k)).2.2;omega
def gh.cut{s:Sp}(h:gh s)(a b:Int):gh (s.cut a b).1:=by
 refine⟨h.ct.filter _,?_⟩;show ft 0 (hh s.dI a b)=true;unfold hh;rw[bM h.lH];exact Qb h.lH
def gh.entry{s:Sp}(h:gh s){p:Int}{e:En}(he:s.entry p=some e):0<=p/\p<65536/\e.ok/\ep s.ct p.toNat=some e:=by
 unfold Sp.entry at he;split at he;·next hp=>have:=h.ct.get he;exact⟨hp,bA,this.2,he⟩
 ·cases he
def gh.cS{s:Sp}(h:gh s)(p:Int):gh (s.cS p):=by
 unfold Sp.cS;split
 ·next e he=>
  obtain⟨h1,b,a,c⟩:=h.entry he;exact⟨h.ct.set bA a,h.lH⟩
 ·exact h
def EJ{s:Sp}(h:gh s){p:Int}{x:Rg}(hw:s.dg p=some x):0<=p/\p<65536/\x.valid=true/\x.a<=p/\p<x.b:=by
 unfold Sp.dg kA at hw;rw[h.lH,bM rfl]at hw;have a:=Ab hw;have b:=Aa h.lH x (eu hw);have c:=(Rg.fc b).1;unfold Rg.has at a;simp only[gj]at a;exact⟨bA,bA,b,a⟩
def gh.enter{s:Sp}(h:gh s){p id:Int}{k:Nat}{wr:Bool}(b:k=1\/k=2):gh (s.enter p id k wr):=by
 unfold Sp.enter;split
 ·next a=>
  obtain⟨hw,c,h1⟩:=a;obtain⟨x,hx⟩:=kq.1 hw;have hp:=EJ h hx;exact⟨h.ct.set bA ⟨b,by show id.toNat<_;omega⟩,h.lH⟩
 ·exact h
end Go.Kw
namespace Go.Mp
open Go Go.Vc Go.Sp Go.Proofs Go.Kc Go.Kv Go.Kw
variable{E:Env}{L:ch}{w W:World}{s:Kw.Sp}{p:Nat}
def Ac(c:gh s)(a b:Int):(s.ids a b).length<=65536:=by
 unfold Sp.ids;rw[eb];exact mD (lp _ _) (z6 c.ct)
def Qc(a b:Int)(f:gh s)(h:Sep E (dY p s::L) w):Calls P Cn #[Pb p,Iv a,Iv b] w
  (bW λv w'=>∃q:Sl,v=Sv q/\q.n=(s.ids a b).length/\Sep E (bC q 1 (bD (s.ids a b))::dY p s::L) w'):=by
 obtain⟨F,m⟩:∃F,s.ct.filter (λq=>hv a b q.1)=F:=⟨_,rfl⟩
 have d:s.ids a b=F.map λq=>(q.2.id:Int):=by rw[<- m];rfl
 have C:walk s.ct a b=F.map λq=>(q.1:Int):=by rw[lI,m]
 have hlen:=Ac f a b;rw[d,eb]at hlen;rw[d];apply ZY;unfold NU qC qD qJ qL qU qW qZ qf zu zy;obtain⟨r,t,N,h⟩:=dY.open h;refine⟨_,rfl,_,h.cell 1,use (PY (a:=a) (b:=b) f.ct (h.ro 3 [2,0,1] rfl)) ?_⟩;rintro _ O ⟨y,rfl,o,h1⟩;rw[C]at o h1;have h1:Sep E (bC y 1 (bD (F.map λq=>(q.1:Int)))::cU t s.ct::bE p [Sv r,Pb t]::cP r s.dI::L) O:=h1;have I:=(dY.mk (s:=s) (p:=p) (r:=r) (t:=t) N (h1.ro 4 [2,3,1,0] rfl)).swap;refine⟨y,rfl,λl i w'=>∃k:Nat,i=k/\k<=F.length/\l.n=((F.take k).map λq=>(q.2.id:Int)).length/\Sep E (bC l 1 (bD ((F.take k).map λq=>(q.2.id:Int)))::bC y 1 (bD (F.map λq=>(q.1:Int)))::dY p s::L) w',λ_ i _=>(y.n-i).toNat,⟨0,rfl,ec _,rfl,bC.none_ I⟩,?_⟩;rw[eb]at o;rintro _ l _ V ⟨k,rfl,U,n,e⟩;refine cL (λT=>?_) (λS=>?_)
 ·obtain⟨x,hx⟩:∃x,F[k]?=some x:=⟨_,dL⟩
  have G:x∈s.ct:=by
   have:=eu hx;rw[<- m]at this;exact(fO.1 this).1
  have D:s.entry (x.1:Int)=some x.2:=by
   unfold Sp.entry;rw[eG,dk];exact v7 f.ct.cX G
  refine kY 1 e rfl (by rw[eb];exact o) bA (by rw[eb];omega) (λc B=>?_);have M:(F.map λq=>(q.1:Int)).getD ((k:Int)).toNat 0=(x.1:Int):=by
   rw[dk,dK,ew,hx];rfl
  rw[M]at B;refine⟨_,B,use (wc (x.1:Int) f (e.ro 3 [2,0,1] rfl)) ?_⟩;rintro _ W ⟨rfl,J⟩;rw[D];refine⟨_,_,_,_,_,rfl,Al.i J (λz X K=>eh _ K rfl (λY u=>ld u 0 rfl rfl (x:=(x.2.id:Int)) rfl (Al.i u (λR Q j=>?_))))⟩;have j:Sep E (bE R [Iv (x.2.id:Int)]::bE z x.2.vs::dY p s::bC l 1 (bD ((F.take k).map λq=>(q.2.id:Int)))::bC y 1 (bD (F.map λq=>(q.1:Int)))::L) Q:=j;refine rV n (by rw[eb,g7];omega) (j.ro 5 [0,3,4,2] rfl) (λs' Z g A=>?_);have H:(F.take (k+1)).map (λq=>(q.2.id:Int))=(F.take k).map (λq=>(q.2.id:Int))++[(x.2.id:Int)]:=by rw[fw hx,jV];rfl
  rw[<- H]at g A;exact⟨⟨k+1,c1,bA,g,A⟩,by rw[c1];dsimp only;omega⟩
 ·have:k=F.length:=by omega
  subst this;rw[fN]at n e;exact⟨l,rfl,n,e.ro 3 [0,2] rfl⟩
def aKF(b:gh s)(h:Sep E (dY p s::L) w):Calls P IY #[Pb p] w
  (bW λv w'=>∃q:Sl,v=Sv q/\q.n=(s.ids 0 65536).length/\Sep E (bC q 1 (bD (s.ids 0 65536))::dY p s::L) w'):=by
 apply ZT;unfold NR qJ;refine use (Qc 0 65536 b h) ?_;rintro _ c ⟨q,rfl,a,h1⟩;exact⟨q,rfl,q,rfl,a,h1⟩
def aIQ(b:gh s)(h:Sep E (dY p s::L) w):Calls P I1 #[Pb p] w (bW λv w'=>v=Iv (s.ct.length:Nat)/\Sep E (dY p s::L) w'):=by
 obtain⟨r,t,a,h⟩:=dY.open h;apply ZX;unfold NT qQ qZ;refine⟨_,rfl,_,h.cell 1,use (aLR b.ct (h.ro 3 [2,0,1] rfl)) ?_⟩;rintro _ c ⟨rfl,h1⟩;exact⟨_,rfl,rfl,dY.mk a (h1.ro 3 [1,2,0] rfl)⟩
def Qd(bH:Int)(f:gh s)(h:Sep E (dY p s::L) w):Calls P CE #[Pb p,Iv bH] w (bW λv w'=>(∃b:Bool,v=.bool b)/\Sep E (dY p (s.cS bH)::L) w'):=by
 obtain⟨r,t,k,h⟩:=dY.open h;have he:s.entry bH=if 0<=bH then ep s.ct bH.toNat else none:=rfl
 apply ari;unfold Ol qG qQ qZ zU zh;refine⟨_,rfl,_,h.cell 1,use (PU f.ct (h.ro 3 [2,0,1] rfl)) ?_⟩;rintro _ o ⟨n,h1⟩;have h1:Sep E (cU t s.ct::bE p [Sv r,Pb t]::cP r s.dI::L) o:=h1;rcases n with⟨e,l,d,rfl⟩|⟨d,rfl⟩
 ·have a:s.entry bH=some e:=by rw[he,bM l,d]
  obtain⟨_,q,ho,_⟩:=f.entry a;have c:s.cS bH= {s with ct:=fR s.ct bH.toNat e.cS} :=by unfold Sp.cS;rw[a];rfl
  rw[c];obtain⟨g,rfl⟩:∃g:Nat,bH=g:=⟨bH.toNat,bA⟩
  rw[dk];refine⟨_,_,rfl,bT rfl (Dr.i h1 (λw2 i=>⟨_,rfl,_,i.cellAt 1 rfl 1,use (aIL ho i) ?_⟩))⟩;rintro _ u ⟨rfl,j⟩;refine⟨_,rfl,_,j.cellAt 1 rfl 1,rfl,use (Ex (p:=g) (e:=e.cS) f.ct bA j) ?_⟩;rintro _ x ⟨rfl,m⟩;exact⟨_,rfl,⟨_,rfl⟩,dY.mk k (m.ro 3 [1,2,0] rfl)⟩
 ·have a:s.entry bH=none:=by rw[he,d]
  have c:s.cS bH=s:=by unfold Sp.cS;rw[a]
  rw[c];exact⟨_,_,rfl,bF rfl ⟨⟨_,rfl⟩,dY.mk k (h1.ro 3 [1,2,0] rfl)⟩⟩
def Qe{a b:Int}(W:0<=a/\a<=65536)(X:0<=b/\b<=131072)(l:gh s)(h:Sep E (dY p s::L) w):Calls P CA #[Pb p,Iv a,Iv b] w
  (bW λv w'=>∃q:Sl,v=Sv q/\q.n=(s.cut a b).2.length/\Sep E (bC q 1 (bD (s.cut a b).2)::dY p (s.cut a b).1::L) w'):=by
 obtain⟨F,j⟩:∃F,s.ct.filter (λq=>hv a b q.1)=F:=⟨_,rfl⟩
 have R:walk s.ct a b=F.map λq=>(q.1:Int):=by rw[lI,j]
 have M:F.Pairwise λx y=>x.1<y.1:=by rw[<- j];exact l.ct.cX.filter _
 have af:F.length<=65536:=by rw[<- j];exact mD (lp _ _) (z6 l.ct)
 have H:s.cut a b=(⟨hh s.dI a b,s.ct.filter λq=> !hv a b q.1⟩,s.ids a b):=rfl;rw[H];dsimp only;apply atH;unfold Og qD qF qJ qK qO qW qZ;refine use (Qc a b l h) ?_;rintro _ aj ⟨q,rfl,aa,h1⟩;obtain⟨r,t,Z,K⟩:=dY.open h1.swap;refine⟨q,rfl,_,rfl,_,K.cell 1,use (PY (a:=a) (b:=b) l.ct (K.ro 4 [2,0,1,3] rfl)) ?_⟩;rintro _ ab ⟨y,rfl,I,B⟩;rw[R]at I B;rw[eb]at I;obtain⟨d,e⟩:∃d:Nat->c0,d= λk=>s.ct.filter λx=> !((F.take k).map Prod.fst).contains x.1:=⟨_,rfl⟩
 have T:d 0=s.ct:=by rw[e];exact AX.2 λx _=>by simp
 have B:Sep E (bE p [Sv r,Pb t]::cP r s.dI::cU t (d 0)::bC y 1 (bD (F.map λq=>(q.1:Int)))::bC q 1 (bD (s.ids a b))::L) ab:=by rw[T];exact B.ro 5 [2,3,1,0,4] rfl
 refine⟨y,rfl,λi w'=>∃k:Nat,i=k/\k<=F.length/\Sep E (bE p [Sv r,Pb t]::cP r s.dI::cU t (d k)::bC y 1 (bD (F.map λq=>(q.1:Int)))::bC q 1 (bD (s.ids a b))::L) w',λi _=>(y.n-i).toNat,⟨0,rfl,ec _,B⟩,?_⟩;rintro _ _ ak ⟨k,rfl,ai,g⟩;refine cL (λo=>?_) (λag=>?_)
 ·obtain⟨x,hx⟩:∃x,F[k]?=some x:=⟨_,dL⟩
  refine kY 3 g rfl (by rw[eb];exact I) bA (by rw[eb];omega) (λc C=>?_);have Y:(F.map λq=>(q.1:Int)).getD ((k:Int)).toNat 0=(x.1:Int):=by
   rw[dk,dK,ew,hx];rfl
  rw[Y]at C;have S:x∈d k:=by
   rw[e];have f:=eu hx;rw[<- j]at f;refine fO.2 ⟨(fO.1 f).1,?_⟩;have A:¬ x.1∈(F.take k).map Prod.fst:=by
    intro n;obtain⟨z,J,ah⟩:=e4.1 n;have o:=(cT.1 hx).1;have N:=M;rw[<- fA k F,ln o]at N;have m:=(jf.1 N).2.2 z J F[k] fj;rw[dD o]at hx;rw[cQ hx]at m;omega
   simpa using A
  have G:Tok (d k):=by rw[e];exact l.ct.filter _
  refine⟨_,C,_,rfl,_,g.cell 1,use (aGZ (p:=x.1) G (e4.2 ⟨x,S,rfl⟩) (g.ro 5 [2,0,1,3,4] rfl)) ?_⟩;rintro _ ad ⟨rfl,f⟩;have V:(d k).filter (λz=>z.1 !=x.1)=d (k+1):=by
   rw[e];dsimp only;rw[List.filter_filter];refine pA λz _=>?_;rw[fw hx,jV];show((z.1 !=x.1)&& !((F.take k).map Prod.fst).contains z.1)= !((F.take k).map Prod.fst++[x.1]).contains z.1;rw[TY];by_cases n:z.1=x.1<;>simp[n,Bool.and_comm]
  rw[V]at f;exact⟨_,rfl,⟨k+1,c1,bA,f.ro 5 [1,2,0,3,4] rfl⟩,by rw[c1];dsimp only;omega⟩
 ·have:k=F.length:=by omega
  subst this;have U:d F.length=s.ct.filter λq=> !hv a b q.1:=by
   rw[e];dsimp only;refine pA λz J=>?_;congr 1;rw[fN];cases D:hv a b z.1 with
   |true=>exact kI.2 (e4.2 ⟨z,by rw[<- j];exact fO.2 ⟨J,D⟩,rfl⟩)
   |false=>
    have A:¬ z.1∈F.map Prod.fst:=by
     intro n;obtain⟨u,hu,Q⟩:=e4.1 n;rw[<- j]at hu;have:=(fO.1 hu).2;rw[Q,D]at this;cases this
    cases C:(F.map Prod.fst).contains z.1 with
    |false=>rfl
    |true=>exact absurd (kI.1 C) A
  rw[U]at g;refine⟨_,rfl,r,g.cell 0,use (aLL W X Z (by have:=z7 l.lH;omega) (g.ro 5 [1,0,2,3,4] rfl)) ?_⟩;rintro _ ad ⟨r',rfl,O,f⟩;refine⟨r',rfl,_,rfl,St.i (f.ro 6 [2,0,3,5] rfl) (by show 0<2;decide) (λae m=>⟨q,rfl,aa,?_⟩)⟩;have m:Sep E (bE p [.slice r'.p r'.n r'.c,Pb t]::cP r' (hh s.dI a b)::cU t (s.ct.filter λq=> !hv a b q.1)::bC q 1 (bD (s.ids a b))::L) ae:=m;exact(dY.mk (s:=⟨hh s.dI a b,s.ct.filter λq=> !hv a b q.1⟩) O m).swap
def we{r:Sl}{m:Nat}{vs:List Value}(h:Sep E (bC r m vs::L) w)(c:Nat):gb r.p 0 c m=r.p:=by
 unfold gb;split;·rfl
 ·unfold bC at h;split at h;·next hp=>rw[hp];rfl
  ·next a e=>
   obtain⟨spare,h⟩:=Sep.ex.1 h;obtain⟨⟨h1,d,_⟩,_⟩:=Sep.cC.1 h;obtain⟨b,o,q⟩:=a;simp only at h1 d;subst h1 d;rw[e];show some (Addr.add ⟨b,0,none⟩ (0*m))=_;rw[cj,n1]
def aIM{r:Sl}{l:List Rg}(f:r.n=l.length)(n:l.length<1000000)(h:Sep E (cP r l::L) w):
  Calls P JF #[Sv r] w (bW λv w'=>∃r':Sl,v=.slice r'.p r'.n r'.c/\r'.n=l.length/\Sep E (cP r' l::cP r l::L) w'):=by
 apply Xn;unfold LQ zY;refine cw (λd=>⟨⟨none,0,0⟩,rfl,?_⟩) (λj=>Al.i h (λq m h1=>?_))
 ·have a:=h;unfold cP bC at a;have hp:r.p=none:=TR.1 d;rw[hp]at a;obtain⟨⟨h1,_,c⟩,_⟩:=Sep.cC.1 a;have k:l= []:=uG bA;subst k;exact⟨rfl,bC.none_ h⟩
 ·have b:Sep E (bC ⟨some ⟨q,0,none⟩,0,0⟩ 6 []::cP r l::L) m:=bC.make (vs:=[]) (spare:=[]) h1 rfl rfl (dN 0);have i:=Src.sub (l:=0) (n':=r.n) (c':=r.c) b (q:=1) rfl p5 bA (P6 l);rw[we (b.swap) r.c]at i;refine bC.app b p5 rfl i (by rw[f];show(0+l.length)*_<=_;omega) (λr' w2 g c=>⟨r',rfl,by rw[g,f];exact e5 _,?_⟩);have e: []++((bQ Rg.vs l).drop (0*6)).take (r.n*6)=bQ Rg.vs l:=by
   rw[n1,sM,lR,Ed Rg.ue,hE bA]
  rw[e]at c;exact c
def aGY(f:gh s)(h:Sep E (dY p s::L) w):Calls P Jj #[Pb p] w (bW λv w'=>∃c:Nat,v=Pb c/\Sep E (dY c s::dY p s::L) w'):=by
 obtain⟨r,t,d,h⟩:=dY.open h;apply arf;unfold Ot qG qJ qK qR qZ;refine Dr.i h (λk h1=>⟨_,rfl,r,h1.cell 0,_,rfl,_,h1.cell 1,use (aIM d (by have:=z7 f.lH;omega) (h1.ro 3 [1,0,2] rfl)) ?_⟩);rintro _ w2 ⟨r',rfl,e,b⟩;refine⟨r',rfl,_,b.cellAt 2 rfl 1,rfl,use (aIR f.ct (b.ro 4 [3,0,1,2] rfl)) ?_⟩;rintro _ l ⟨c,rfl,g⟩;refine⟨_,rfl,Al.i g (λq j a=>⟨q,rfl,?_⟩)⟩;have a:Sep E (bE q [.slice r'.p r'.n r'.c,Pb c]::cU c s.ct::cU t s.ct::cP r' s.dI::cP r s.dI::bE p [Sv r,Pb t]::L) j:=a;have i:=dY.mk (s:=s) (p:=p) d (a.ro 6 [5,4,2,0,3,1] rfl);exact dY.mk (s:=s) (p:=q) e (i.ro 4 [1,2,3,0] rfl)
end Go.Mp
namespace Go.Mp
open Go Go.Vc
def Qf:dS:={quiet:=λd=>[20,24,27,30,33,36,39,41,43,46,49,50,51,54,56,58,61,65,66,68,72,74,76,77,80,83,85,87,89,92,93,96,100,101,103,107,109,111,112,115,118,120,122,124,126,128,131,132,134].contains d,head:=λr=>(bif r==6 then 8 else 0),loop:=λr=>(bif r==17 then[(15,.int .u64),(16,.int .u64)]else bif r==24 then[(16,.int .u64),(18,.int .u64)]else[]),join:=λr=>(bif r==3 then some []else bif r==5 then some []else bif r==18 then some []else bif r==21 then some [(15,.int .u64)]else bif r==25 then some []else bif r==28 then some [(18,.int .u64)]else none)}
def EK(h f y:Int)(K:bh7)(E:List PanicEntry->bh6)(w:World):Prop:=
 ∃C:bh6,(bif(y==0)then(∃H:Value,w.cell? (⟨0,0,none⟩:Addr)=some H/\(match H with | .iface t v=>E [pe (.iface t v)] w|_=>False))else(C w))/\
  (∀S:Nat->Value,∀w2:World,C w2->∃D:bh6,(bif(decide (y<=h))then(∃I:Value,w2.cell? (⟨1,0,none⟩:Addr)=some I/\(match I with
  |.iface t v=>E [pe (.iface t v)] w2|_=>False))else(D w2))/\(∀T:Nat->Value,∀B:World,D B->bif(h==0)then(Dr (λR=>y≠0/\y≠0/\K (.tuple
  #[(.int .u64 (u64.wrap (f.tdiv y))),(.int .u64 (f.tmod y))]) R) B)else(Calls P V9 #[(.int .u64 y)] B λF G=>∃a:Int,F=
  .returned (Iv a)/\0<=(u64.wrap a)/\0<=(32:Int)/\0<=(u64.wrap a)/\0<=(u64.wrap (64-(u64.wrap a)))/\0<=
  (u64.wrap a)/\0<=(32:Int)/\((u64.wrap (y*2^(min (u64.wrap a).toNat 64))).fdiv (2^(min (32:Int).toNat 64)))≠0/\∃p:Int->World->
  Prop,(∃(n:Int->Int->bh6) (u:Int->Int->World->Nat),n (u64.wrap ((iG .u64 (u64.wrap (h*2^(min (u64.wrap a).toNat 64)))
  (f.fdiv (2^(min (u64.wrap (64-(u64.wrap a))).toNat 64)))).tdiv ((u64.wrap (y*2^(min (u64.wrap a).toNat 64))).fdiv (2^(min (32:
  Int).toNat 64))))) (u64.wrap ((iG .u64 (u64.wrap (h*2^(min (u64.wrap a).toNat 64))) (f.fdiv (2^(min (u64.wrap (64-(u64.wrap
  a))).toNat 64))))-(u64.wrap ((u64.wrap ((iG .u64 (u64.wrap (h*2^(min (u64.wrap a).toNat 64))) (f.fdiv (2^(min (u64.wrap
  (64-(u64.wrap a))).toNat 64)))).tdiv ((u64.wrap (y*2^(min (u64.wrap a).toNat 64))).fdiv (2^(min (32:Int).toNat 64)))))*((u64.wrap
  (y*2^(min (u64.wrap a).toNat 64))).fdiv (2^(min (32:Int).toNat 64))))))) G/\∀L:Nat->Value,∀e:Int,∀b:Int,∀i:World,n e
  b i->∃q:bh6,(bif(decide (e≥4294967296))then(q i)else(bif(decide ((u64.wrap (e*(bV .u64 (u64.wrap (y*2^(min
  (u64.wrap a).toNat 64))) 4294967295)))>(u64.wrap ((u64.wrap (4294967296*b))+((u64.wrap (f*2^(min (u64.wrap a).toNat
  64))).fdiv (2^(min (32:Int).toNat 64)))))))then(q i)else(p e i)))/\(∀M:Nat->Value,∀l:World,q l->bif(decide ((u64.wrap (b+
  ((u64.wrap (y*2^(min (u64.wrap a).toNat 64))).fdiv (2^(min (32:Int).toNat 64)))))≥4294967296))then(p (u64.wrap (e-1)) l)else
  ((n (u64.wrap (e-1)) (u64.wrap (b+((u64.wrap (y*2^(min (u64.wrap a).toNat 64))).fdiv (2^(min (32:Int).toNat 64))))) l/\
  u (u64.wrap (e-1)) (u64.wrap (b+((u64.wrap (y*2^(min (u64.wrap a).toNat 64))).fdiv (2^(min (32:Int).toNat 64))))) l<
  u e b i))))/\(∀J:Nat->Value,∀g z,p g z->((u64.wrap (y*2^(min (u64.wrap a).toNat 64))).fdiv (2^(min
  (32:Int).toNat 64)))≠0/\∃r:Int->bh6,(∃(o:Int->Int->bh6) (x:Int->Int->World->Nat),o (u64.wrap ((u64.wrap
  ((u64.wrap ((u64.wrap ((iG .u64 (u64.wrap (h*2^(min (u64.wrap a).toNat 64))) (f.fdiv (2^(min (u64.wrap (64-(u64.wrap
  a))).toNat 64))))*4294967296))+((u64.wrap (f*2^(min (u64.wrap a).toNat 64))).fdiv (2^(min (32:Int).toNat 64)))))-(u64.wrap (g*
  (u64.wrap (y*2^(min (u64.wrap a).toNat 64)))))))-(u64.wrap ((u64.wrap ((u64.wrap ((u64.wrap ((u64.wrap ((iG .u64
  (u64.wrap (h*2^(min (u64.wrap a).toNat 64))) (f.fdiv (2^(min (u64.wrap (64-(u64.wrap a))).toNat 64))))*4294967296))+
  ((u64.wrap (f*2^(min (u64.wrap a).toNat 64))).fdiv (2^(min (32:Int).toNat 64)))))-(u64.wrap (g*(u64.wrap (y*2^(min
  (u64.wrap a).toNat 64))))))).tdiv ((u64.wrap (y*2^(min (u64.wrap a).toNat 64))).fdiv (2^(min (32:Int).toNat 64)))))*((u64.wrap (y*
  2^(min (u64.wrap a).toNat 64))).fdiv (2^(min (32:Int).toNat 64))))))) (u64.wrap ((u64.wrap ((u64.wrap ((u64.wrap ((iG .u64
  (u64.wrap (h*2^(min (u64.wrap a).toNat 64))) (f.fdiv (2^(min (u64.wrap (64-(u64.wrap a))).toNat 64))))*4294967296))+
  ((u64.wrap (f*2^(min (u64.wrap a).toNat 64))).fdiv (2^(min (32:Int).toNat 64)))))-(u64.wrap (g*(u64.wrap (y*2^(min
  (u64.wrap a).toNat 64))))))).tdiv ((u64.wrap (y*2^(min (u64.wrap a).toNat 64))).fdiv (2^(min (32:Int).toNat 64))))) z/\∀O:Nat->
  Value,∀c:Int,∀d:Int,∀j:World,o c d j->∃s:bh6,(bif(decide (d≥4294967296))then(s j)else(bif(decide
  ((u64.wrap (d*(bV .u64 (u64.wrap (y*2^(min (u64.wrap a).toNat 64))) 4294967295)))>(u64.wrap ((u64.wrap (4294967296*
  c))+(bV .u64 (u64.wrap (f*2^(min (u64.wrap a).toNat 64))) 4294967295)))))then(s j)else(r d j)))/\(∀Q:Nat->Value,∀m:
  World,s m->bif(decide ((u64.wrap (c+((u64.wrap (y*2^(min (u64.wrap a).toNat 64))).fdiv (2^(min (32:Int).toNat 64)))))≥
  4294967296))then(r (u64.wrap (d-1)) m)else((o (u64.wrap (c+((u64.wrap (y*2^(min (u64.wrap a).toNat 64))).fdiv (2 ^
  (min (32:Int).toNat 64))))) (u64.wrap (d-1)) m/\x (u64.wrap (c+((u64.wrap (y*2^(min (u64.wrap a).toNat 64))).fdiv (2 ^
  (min (32:Int).toNat 64))))) (u64.wrap (d-1)) m<x c d j))))/\(∀N:Nat->Value,∀k A,r k A->0<=
  (u64.wrap a)/\K (.tuple #[(.int .u64 (u64.wrap ((u64.wrap (g*4294967296))+k))),(.int .u64 ((u64.wrap ((u64.wrap
  ((u64.wrap ((u64.wrap ((u64.wrap ((u64.wrap ((iG .u64 (u64.wrap (h*2^(min (u64.wrap a).toNat 64))) (f.fdiv (2^(min
  (u64.wrap (64-(u64.wrap a))).toNat 64))))*4294967296))+((u64.wrap (f*2^(min (u64.wrap a).toNat 64))).fdiv (2^(min (32:
  Int).toNat 64)))))-(u64.wrap (g*(u64.wrap (y*2^(min (u64.wrap a).toNat 64)))))))*4294967296))+(bV .u64 (u64.wrap (f*2 ^
  (min (u64.wrap a).toNat 64))) 4294967295)))-(u64.wrap (k*(u64.wrap (y*2^(min (u64.wrap a).toNat 64))))))).fdiv (2^(min
  (u64.wrap a).toNat 64))))]) A)))))
def auC(b c y:Int)(K:bh7)(a:List PanicEntry->bh6)(w:World):j3 P fD gG cz Qf Go.Proofs.Tryz.f245 #[(.int .u64 b),(.int .u64 c),(.int .u64 y)] K a w=EK b c y K a w:=by kernel_rfl
def at0:kP P Qf Go.Proofs.Tryz.f245 3=true:=by kernel_rfl
def atv(b c y:Int){K:bh7}{a:List PanicEntry->bh6}{w:World}(h:EK b c y K a w):Calls P vH #[(.int .u64 b),(.int .u64 c),(.int .u64 y)] w (rv K a):=H6 mixed Go.Proofs.Tryz.func245 at0 (by rw[auC];exact h)
end Go.Mp
namespace Go.Mp
open Go Go.Vc Go.Sp Go.Proofs Go.Kc
def aKo{x y:Nat}(hx:x<4294967296)(i:y<4294967296)(w:World):Calls P yT #[.int .u64 (x:Nat),.int .u64 (y:Nat)] w (bW λv w'=>v=.tuple #[.int .u64 0,.int .u64 ((x*y:Nat):Int)]/\w'=w):=by
 apply M8;unfold D3;have c:x*y<18446744073709551616:=by
  have:x*y<=4294967295*4294967295:=Hh bA bA;omega
 have f:(x:Int).fdiv (2^(min (32:Int).toNat 64))=((0:Nat):Int):=by
  rw[show(x:Int).fdiv (2^(min (32:Int).toNat 64))=((x/2^32:Nat):Int)from sh x 32,A4 bA]
 have g:(y:Int).fdiv (2^(min (32:Int).toNat 64))=((0:Nat):Int):=by
  rw[show(y:Int).fdiv (2^(min (32:Int).toNat 64))=((y/2^32:Nat):Int)from sh y 32,A4 bA]
 have m:∀ {z:Nat},z<18446744073709551616->bV .u64 (z:Int) 4294967295=((z%4294967296:Nat):Int):=by
  intro z j;have h:=nC (a:=z) (b:=4294967295) j bA;have e:z &&& 4294967295=z%4294967296:=q5 z 32;rw[e]at h;exact h
 rw[f,g,m bA,m bA,lQ hx,lQ i];have d:∀a:Int,((0:Nat):Int)*a=((0:Nat):Int):=λa=>by simp
 have k:∀a:Int,a*((0:Nat):Int)=((0:Nat):Int):=λa=>by simp
 rw[d,d,k,dj (n:=0) bA,<- uS,dj c];rw[show((x*y:Nat):Int).fdiv (2^(min (32:Int).toNat 64))=((x*y/4294967296:Nat):Int)from sh _ 32];rw[show((0:Nat):Int)+((x*y/4294967296:Nat):Int)=((x*y/4294967296:Nat):Int) by omega,dj (n:=x*y/4294967296) bA];rw[show((x*y/4294967296:Nat):Int).fdiv (2^(min (32:Int).toNat 64))=((x*y/4294967296/4294967296:Nat):Int)from sh _ 32];rw[m bA,show x*y/4294967296/4294967296=0 by omega,lQ bA];rw[show((x*y/4294967296:Nat):Int)+((0:Nat):Int)=((x*y/4294967296:Nat):Int) by omega,dj (n:=x*y/4294967296) bA];rw[show((x*y/4294967296:Nat):Int).fdiv (2^(min (32:Int).toNat 64))=((x*y/4294967296/4294967296:Nat):Int)from sh _ 32,show x*y/4294967296/4294967296=0 by omega];refine⟨bO,bO,bO,bO,bO,?_,rfl⟩;simp[nB]
def Qg{E:Env}{L:ch}{x s:Nat}(hx:x<18446744073709551616)(g:s≠0){w:World}(h:Sep E L w):Calls P vH #[.int .u64 0,.int .u64 (x:Nat),.int .u64 (s:Nat)] w (bW λv w'=>v=.tuple #[.int .u64 ((x/s:Nat):Int),.int .u64 ((x%s:Nat):Int)]/\Sep E L w'):=by
 have key:Calls P vH #[.int .u64 0,.int .u64 (x:Nat),.int .u64 (s:Nat)] w (rv (λv w'=>v=.tuple #[.int .u64 ((x/s:Nat):Int),.int .u64 ((x%s:Nat):Int)]/\Sep E L w') (λ_ _=>False)):=by
  apply atv;unfold EK;refine⟨λw'=>w'=w,eD (λe=>absurd e bA) (λ_=>rfl),?_⟩;rintro _ d rfl;refine⟨λw'=>w'=d,hN (λe=>absurd e bA) (λ_=>rfl),?_⟩;rintro _ w2 rfl;refine bT rfl (Dr.i h (λi c=>⟨bA,bA,?_,c⟩));have a:((x:Int)).tdiv (s:Int)=((x/s:Nat):Int):=by rw[Int.tdiv_eq_ediv_of_nonneg bA];exact(Int.natCast_ediv x s).symm
  have b:((x:Int)).tmod (s:Int)=((x%s:Nat):Int):=by rw[Int.tmod_eq_emod_of_nonneg bA];exact(Int.natCast_emod x s).symm
  have:=Hd x s;rw[a,b,dj]
 refine key.mono λe w' he=>?_;rcases he with he|⟨f,_,hf⟩
 ·exact he
 ·exact hf.elim
end Go.Mp
namespace Go.Kc
open Go.Kt
def Qh:∀ {l:List eB} {n i:Nat} {x:eB},gC n l=true->l[i]?=some x->((n+i=0/\x.parent= -1)\/(0<=x.parent/\x.parent<((n+i:Nat):Int)))/\gf x.use=true/\gf x.own=true
 |[],_,_,_,_,h=>by simp at h
 |y::l,n,0,x,h,hx=>by
  simp only[lo,eF]at hx;subst hx;unfold gC at h;simp only[dG,jr,gj]at h;exact⟨by simpa using h.1.1.1,h.1.1.2,h.1.2⟩
 |y::l,n,i+1,x,h,hx=>by
  unfold gC at h;rw[dG]at h;have:=Qh h.2 (i:=i) (by simpa using hx);rw[show n+(i+1)=n+1+i by omega];exact this
def Qi:∀ {l:List eB} {n k:Nat},gC n l=true->gC n (l.take k)=true
 |[],n,k,h=>by simp[gC]
 |y::l,n,0,h=>by simp[gC]
 |y::l,n,k+1,h=>by
  unfold gC at h;rw[dG]at h;show gC n (y::l.take k)=true;unfold gC;rw[dG];exact⟨h.1,Qi h.2⟩
def Qj:∀ {l:List eB} {n:Nat} {x:eB},gC n (l++[x])=(gC n l&&gC (n+l.length) [x])
 |[],n,x=>by simp[gC]
 |y::l,n,x=>by
  obtain⟨c,a⟩:∃c,∀r:List eB,gC n (y::r)=(c&&gC (n+1) r):=⟨_,λr=>rfl⟩
  rw[oJ,a,a,Qj (l:=l),hS,show n+(l.length+1)=n+1+l.length by omega,Bool.and_assoc]
def wg{n:Nat}{x:eB}:gC n [x]=(((decide (n=0)&&decide (x.parent= -1))||(decide (0<=x.parent)&&decide (x.parent<(n:Int))))&&gf x.use&&gf x.own):=by
 unfold gC;unfold gC;rw[A9]
variable{l:List eB}{t:Int}
def pa(h:hK l=true){i:Nat}{x:eB}(hx:l[i]?=some x):((i=0/\x.parent= -1)\/(0<=x.parent/\x.parent<(i:Int)))/\(0<=x.use/\x.use<=top)/\0<=x.own/\x.own<=top:=by
 unfold hK at h;rw[dG]at h;have:=Qh h.1 hx;rw[e5,x5,x5]at this;exact this
def aIc(h:hK l=true):l.length<=64:=by
 unfold hK at h;rw[dG,gj]at h;exact h.2
def wi{i:Nat}{x:eB}(hx:l[i]?=some x):nq l (i:Int)=x:=by unfold nq;rw[dk,dK,hx];rfl
def Qk(h:hK l=true):∀(f f':Nat) (x:Int),x<l.length->(x+1).toNat<f->(x+1).toNat<f'->lx l t f x=lx l t f' x
 |0,_,_,_,h1,_=>bA
 |_,0,_,_,_,h1=>bA
 |f+1,f'+1,x,hx,h1,d=>by
  unfold lx;split;·rfl
  ·split;·rfl
   ·next b c=>
    obtain⟨n,rfl⟩:∃n:Nat,x=n:=⟨x.toNat,bA⟩
    obtain⟨y,a⟩:∃y,l[n]?=some y:=⟨_,dL⟩
    rw[wi a];have e:=(pa h a).1;rw[Qk h f f' y.parent bA bA bA]
def Ad{f:Nat}{x:Int}(a:x≠t):lx l t (f+1) x=x::(if x<0 then[]else lx l t f (nq l x).parent):=by
 rw[lx,bJ a];split<;>rfl
def Ql(h:hK l=true):∀(f:Nat) (g:Int),g<l.length->∀x∈lx l t f g,x<l.length
 |0,_,_,x,hx=>by simp[lx]at hx
 |f+1,g,c,x,hx=>by
  by_cases a:g=t;·rw[lx,bM a]at hx;cases hx
  ·rw[Ad a]at hx;rcases ey.1 hx with rfl|hx;·exact c
   ·split at hx;·cases hx
    ·next d=>
     obtain⟨n,rfl⟩:∃n:Nat,g=n:=⟨g.toNat,bA⟩
     obtain⟨y,b⟩:∃y,l[n]?=some y:=⟨_,dL⟩
     rw[wi b]at hx;have e:=(pa h b).1;exact Ql h f y.parent bA x hx
def aBF(h:hK l=true)(d:0<=t){i:Nat}{x:eB}(hx:l[i]?=some x)(a:mK l i t=true)(b:(i:Int)≠t):0<=x.parent/\x.parent<(i:Int):=by
 have c:=(cT.1 hx).1;rcases(pa h hx).1 with⟨rfl,hp⟩|hp
 ·exfalso;unfold mK hL at a;rw[Ad b,cM,wi hx,hp]at a;obtain⟨m,hm⟩:∃m,l.length=m+1:=⟨l.length-1,bA⟩
  rw[hm,Ad bA]at a;simp at a
 ·exact hp
def Qm(l:List eB)(t:Int):∀(a b:List eB) (out:bU),ly l t (a++b) out=ly l t b (ly l t a out)
 |[],b,out=>rfl
 |x::a,b,out=>by
  show ly l t (a++b) _=ly l t b (ly l t a _);rw[Qm l t a b]
def Qn(l:List eB)(t:Int):∀(a:List eB) (out:bU),(ly l t a out).length=out.length+a.length
 |[],out=>rfl
 |x::a,out=>by
  show(ly l t a _).length=_;rw[Qn l t a,da];simp;omega
def fZ(l:List eB)(t:Int)(k:Nat):bU:=ly l t (l.take k) []
def EL{k:Nat}(a:k<=l.length):(fZ l t k).length=k:=by
 unfold fZ;rw[Qn,g7];simp;omega
def EM{k:Nat}{x:eB}(hx:l[k]?=some x):fZ l t (k+1)=fZ l t k++[mL l t (fZ l t k) k x]:=by
 have b:=(cT.1 hx).1;have a:=EL (l:=l) (t:=t) (k:=k) bA;have:l.take (k+1)=l.take k++[x]:=by rw[mA,hx];rfl
 unfold fZ at a ⊢;rw[this,Qm];show ly l t (l.take k) []++[mL l t _ (ly l t (l.take k) []).length x]=_;rw[a]
def wj{x:eB}(hu:0<=x.use/\x.use<=top)(ho:0<=x.own/\x.own<=top):0<=x.eV/\x.eV<=x.use:=by unfold eB.eV;omega
def aIY{x:eB}(hx:0<=x.eV){out:bU}(a:∀y∈out,0<=y)(i:Nat):0<=mL l t out i x/\mL l t out i x<=x.eV:=by
 unfold mL;split;·exact⟨e7 _,hx⟩
 ·split
  ·next h=>
   have c:0<=out.getD x.parent.toNat 0:=by
    rw[dK];cases d:out[x.parent.toNat]? with
    |none=>exact e7 _
    |some y=>exact a y (eu d)
   have e:0<sumOf l x.parent:=by omega
   refine⟨A6 (A7 hx c) bA,?_⟩;have h1:x.eV*out.getD x.parent.toNat 0<=x.eV*sumOf l x.parent:=bf5 bA hx;have b:=Int.ediv_le_ediv e h1;rw[Int.mul_ediv_cancel _ bA]at b;exact b
  ·exact⟨hx,e7 _⟩
def EN(h:hK l=true):∀(k:Nat),k<=l.length->∀(i:Nat) (y:Int),(fZ l t k)[i]?=some y->0<=y/\∃x,l[i]?=some x/\y<=x.eV
 |0,_,i,y,a=>by simp[fZ,ly]at a
 |k+1,m,i,y,a=>by
  obtain⟨x,hx⟩:∃x,l[k]?=some x:=⟨_,dL⟩
  rw[EM hx]at a;have g:=EL (l:=l) (t:=t) (k:=k) bA;rcases gS i k with d|d
  ·rw[eE bA]at a;exact EN h k bA i y a
  ·rw[fo bA,g]at a;have b:i-k=0:=by
    rcases lq (i-k)with e|e;·exact e
    ·rw[fH (by simp;omega)]at a;cases a
   rw[b]at a;simp only[lo,eF]at a;have b:i=k:=by omega
   subst b;have c:=pa h hx;have:=aIY (l:=l) (t:=t) (x:=x) (wj c.2.1 c.2.2).1 (out:=fZ l t i) (λy a=>by
    obtain⟨j,f,rfl⟩:=h5.1 a;exact(EN h i bA j _ (dD f)).1) i
   rw[a]at this;exact⟨this.1,x,hx,this.2⟩
def mY(l:List eB)(k:Nat)(p:Int):Int:=(((l.drop 1).take k).filter λx=>x.parent==p).foldl (λs x=>s+x.eV) 0
def Qo{k:Nat}{x:eB}(hx:(l.drop 1)[k]?=some x)(p:Int):mY l (k+1) p=if x.parent=p then mY l k p+x.eV else mY l k p:=by
 unfold mY;have:(l.drop 1).take (k+1)=(l.drop 1).take k++[x]:=by rw[mA,hx];rfl
 rw[this,sJ,A1,jq];by_cases e:x.parent=p;·rw[bM e,bM (by simpa using e)];rfl
 ·rw[bJ e,bJ (by simpa using e)];rfl
def Qp(p:Int):mY l (l.length-1) p=sumOf l p:=by
 unfold mY sumOf;rw[hE (by simp)]
def EO(h:hK l=true)(p:Int):∀(k:Nat),k<l.length->0<=mY l k p/\mY l k p<=k*top
 |0,_=>by show 0<=(0:Int)/\(0:Int)<=_;omega
 |k+1,c=>by
  obtain⟨x,hx⟩:∃x,l[k+1]?=some x:=⟨_,dL⟩
  have b:(l.drop 1)[k]?=some x:=by rw[py,rf];exact hx
  have d:=EO h p k bA;have a:=pa h hx;have ho:=wj a.2.1 a.2.2;rw[Qo b];have e:((k+1:Nat):Int)*top=(k:Int)*top+top:=by rw[pF,Int.add_mul];simp
  rw[e];have:0<=top:=by decide
  split<;>omega
end Go.Kc
namespace Go.Sp
open Go Go.Vc
variable{E:Env}{L:ch}{w:World}{P:Program}
abbrev Qq(P:Program)(E:Env)(f:FuncId)(ca:Array Value)(A A' S:Asn)(xs:List Value):Prop:=D7 P E f (λy=> #[y]++ca) A A' S xs
def ib.iS{τ:TypeId->K1}{ρ:TypeId->Kd}{cz:FuncId->Bool}{An:dS}{yl:Nat->Bool}{N p:Nat}{f:FuncId}{ca:Array Value}{A A' S:Asn}{xs:List Value}{e body c:Code}{T:Tr}{done ret:Nat->bh6}(hm:P.follows .mixedOrders=true)(o:N<=8000)(hp:p<N)(n:gF P N An e=true/\gF P N An body=true)(hf:ky P f=true)(q:Qq P E f ca A A' S xs)(a j:Nat->Asn)(g:∀(l:Nat) (r:Loop) L k x W R,r.state=.ready->r.pending=none->xs[k]?=some x->Sep E (c2 l (.loop r)::a k::S::L) W->(∀d,Sep E (c2 l (.loop r)::a (k+1)::S::L) d->R (.returned (.bool true)) d)->
   (∀d,Sep E (c2 l (.loop {r with state:=.done,pending:=some c})::j k::S::L) d->R (.returned (.bool false)) d)->ma P τ ρ cz An yl N l e body (kW [(p,x)] T) W R)(h:Sep E (a 0::S::A::L) w)(i:∀b W,Sep E (c2 b (.deferred (some []))::a xs.length::S::A'::L) W->done b W)(m:∀b k W,k<xs.length->Sep E (c2 b (.deferred (some []))::j k::S::A'::L) W->ret b W):ib P N (.func (.func f) #[] ca) #[p] e body c T w done ret:=
 ib.D8 (fi:= #[]) (λy=>by simp) hm o hp n hf q a j g h i m
end Go.Sp
namespace Go.Kc
open Go
def eB.vs(x:eB):List Value:=[Iv x.parent,Iv x.use,Iv x.own]
def eB.lJ(x:eB):x.vs.length=3:=rfl
end Go.Kc
namespace Go.Mp
open Go Go.Vc Go.Sp Go.Proofs Go.Kc
variable{E:Env}{L:ch}{w W:World}
abbrev en(s:Sl)(l:List eB):Asn:=bC s 3 (bQ eB.vs l)
def wk{s:Sl}{l:List eB}{i:Int}{f:Addr->Prop}(q:Nat)(h:Sep E L w)(g:L[q]?=some (en s l))(e:s.n=l.length){k:Nat}(d:i=k){x:eB}(hx:l[k]?=some x)(j:∀a,w.cell? (a.add 0)=some (Iv x.parent)->w.cell? (a.add 1)=some (Iv x.use)->w.cell? (a.add 2)=some (Iv x.own)->f a):cx s.p s.n i 3 f:=
 kZ eB.lJ q h g e d hx (λb _ c=>j _ (by rw[cj];exact c 0 _ rfl) (by rw[cj];exact c 1 _ rfl) (by rw[cj];exact c 2 _ rfl))
def Ae(g:Int)(w:World):Calls P vI #[Iv g] w (bW λv w'=>v=.bool (gf g)/\w'=w):=by
 apply YP;unfold M6 gf top;exact hN (λh=>⟨by rw[dh h];rfl,rfl⟩) (λh=>⟨by rw[c4 bA];rfl,rfl⟩)
def Qr{x:eB}(h:Sep E L w):Calls P Dw #[.agg #[Iv x.parent,Iv x.use,Iv x.own]] w (bW λv w'=>v=Iv x.eV/\Sep E L w'):=by
 apply Ym;unfold MI qL;refine Al.i h (λp a h1=>⟨_,by rw[cj];exact h1.cell 2,_,by rw[cj];exact h1.cell 1,?_,h1.tail⟩);unfold eB.eV min1;congr 1;split<;>omega
def Qt{s:Sl}{l:List eB}{q:Nat}(J:L[q]?=some (en s l))(z:s.n=l.length)(R:l.length<1000000)(h:Sep E L w):Calls P Dv #[Sv s] w (bW λv w'=>v=.bool (hK l)/\Sep E L w'):=by
 apply Yl;unfold MH qF qL qO qU qW qh qi ql;refine⟨λx w'=>∃k:Nat,x=k/\k<=l.length/\gC 0 (l.take k)=true/\Sep E L w',λx _=>(l.length-x).toNat,⟨0,rfl,ec _,by simp[gC],h⟩,?_⟩;rintro _ x S ⟨k,rfl,I,o,h1⟩;refine cL (λQ=>?_) (λO=>?_)
 ·obtain⟨y,B⟩:∃y,l[k]?=some y:=⟨_,dL⟩
  refine wk q h1 J z rfl B (λa D F G=>⟨_,D,_,F,_,G,Al.i h1 (λp w2 H=>eh _ H rfl (λr b=>?_))⟩);have m:gC 0 (l.take (k+1))=gC k [y]:=by
   rw[fw B,Qj,o,lr,e5,g7,pE I]
  have bad:gC k [y]=false->hK l=false:=by
   intro f;unfold hK;cases A:gC 0 l with
   |false=>rfl
   |true=>
    have:=Qi (k:=k+1) A;rw[m,f]at this;cases this
  have cell:∀(j:Nat) {w':World},Sep E (bE p [Iv y.parent,Iv y.use,Iv y.own]::L) w'->w'.cell? ((⟨p,0,none⟩:Addr).add j)=([Iv y.parent,Iv y.use,Iv y.own]:List Value)[j]? :=by
   intro j w' M;rw[cj,M.cell,e5]
  have g:gC k [y]=true->(∃k':Nat,i64.wrap ((k:Int)+1)=k'/\k'<=l.length/\gC 0 (l.take k')=true/\Sep E L r)/\(l.length-i64.wrap ((k:Int)+1)).toNat<(l.length-(k:Int)).toNat:=by
   intro f;exact⟨⟨k+1,c1,bA,by rw[m,f],b.tail⟩,by rw[c1];omega⟩
  have two:∀(C:bh6),(∀w',w'=r->C w')->((decide (k=0)&&decide (y.parent= -1))||(decide (0<=y.parent)&&decide (y.parent<(k:Int))))=true->
    (gC k [y]=(gf y.use&&gf y.own)):=by
   intro _ _ f;rw[wg,f,lr]
  refine⟨λroot w'=>root=(decide (k=0)&&decide (y.parent= -1))/\w'=r,eD (λe=>⟨_,cell 0 b,?_,rfl⟩) (λe=>⟨?_,rfl⟩),?_⟩
  ·rw[dh (show k=0 by omega),lr];by_cases n:y.parent= -1;·rw[n];rfl
   ·rw[c4 n];simpa using n
  ·rw[c4 (show ¬ k=0 by omega),xz]
  ·rintro _ root i ⟨rfl,rfl⟩;have tail:((decide (k=0)&&decide (y.parent= -1))||(decide (0<=y.parent)&&decide (y.parent<(k:Int))))=true->∀ {K:bh6},(gC k [y]=true->K i)->(gC k [y]=false->Value.bool false=.bool (hK l)/\Sep E L i->True)->True:=λ_ _ _ _=>trivial;have _:=tail;have _:=two;cases c:(decide (k=0)&&decide (y.parent= -1))with
   |false=>
    refine bT rfl ⟨_,cell 0 b,cL (λf=>⟨?_,b.tail⟩) (λf=>⟨_,cell 0 b,hk (λu=>⟨?_,b.tail⟩) (λu=>⟨_,cell 1 b,use (Ae _ i) ?_⟩)⟩)⟩
    ·rw[bad];rw[wg,c,c4 (show ¬ 0<=y.parent by omega)];rfl
    ·rw[bad];rw[wg,c,c4 (show ¬ y.parent<(k:Int) by omega),sN];rfl
    ·rintro _ t ⟨rfl,rfl⟩;have d:gC k [y]=(gf y.use&&gf y.own):=by
      rw[wg,c,dh (show 0<=y.parent by omega),dh (show y.parent<(k:Int) by omega)];rfl
     refine⟨_,rfl,?_⟩;cases hu:gf y.use with
     |false=>exact bT rfl ⟨by rw[bad];rw[d,hu];rfl,b.tail⟩
     |true=>
      refine bF rfl ⟨_,cell 2 b,use (Ae _ t) ?_⟩;rintro _ N ⟨rfl,rfl⟩;refine⟨_,rfl,?_⟩;cases ho:gf y.own with
      |false=>exact bT rfl ⟨by rw[bad];rw[d,hu,ho];rfl,b.tail⟩
      |true=>exact bF rfl (g (by rw[d,hu,ho];rfl))
   |true=>
    refine bF rfl ⟨_,cell 1 b,use (Ae _ i) ?_⟩;rintro _ t ⟨rfl,rfl⟩;have d:gC k [y]=(gf y.use&&gf y.own):=by
     rw[wg,c];rfl
    refine⟨_,rfl,?_⟩;cases hu:gf y.use with
    |false=>exact bT rfl ⟨by rw[bad];rw[d,hu];rfl,b.tail⟩
    |true=>
     refine bF rfl ⟨_,cell 2 b,use (Ae _ t) ?_⟩;rintro _ N ⟨rfl,rfl⟩;refine⟨_,rfl,?_⟩;cases ho:gf y.own with
     |false=>exact bT rfl ⟨by rw[bad];rw[d,hu,ho];rfl,b.tail⟩
     |true=>exact bF rfl (g (by rw[d,hu,ho];rfl))
 ·have:k=l.length:=by omega
  subst this;rw[fN]at o;refine⟨?_,h1⟩;unfold hK;rw[o,lr,z];congr 1;exact pC.2 bA
def Qu:ky P tJ=true:=by kernel_rfl
def Qv{s:Sl}{g t:Int}(h:Sep E L w):Calls P Dx #[Sv s,Iv g,Iv t] w (bW λv w'=>∃a b c,v=.func (.func tJ) #[] #[Pb b,Pb c,Pb a]/\
  Sep E (bE b [Iv g]::bE c [Iv t]::bE a [Sv s]::L) w'):=by
 apply Yu;unfold ML qC;exact Al.i h (λa f h1=>Al.i h1 (λb w2 d=>Al.i d (λc i e=>⟨a,b,c,rfl,e.ro 3 [1,0,2] rfl⟩)))
def k3(a b c:Nat)(s:Sl)(t g:Int):Asn:=star (bE b [Iv g]) (star (bE c [Iv t]) (bE a [Sv s]))
def Qw{c b d:Nat}{s:Sl}{l:List eB}{g t:Int}(U:s.n=l.length)(G:hK l=true)(Q:g<l.length)(Y:0<=t):
  Qq P E tJ #[Pb b,Pb d,Pb c] (k3 c b d s t g) (e8 λx:Int=>k3 c b d s t x) (en s l) ((hL l t g).map (Value.int .i64)):=by
 intro H J X O L W h;have pack:∀ {A:Asn} {x:Int} {j:World},Sep E (A::en s l::bE b [Iv x]::bE d [Iv t]::bE c [Sv s]::L) j->Sep E (A::en s l::(e8 λx:Int=>k3 c b d s t x)::L) j:=by
  intro A x j S;have h1:Sep E (bE d [Iv t]::bE c [Sv s]::bE b [Iv x]::A::en s l::L) j:=S.ro 5 [3,4,2,0,1] rfl;have f:=Sep.star.2 ((Sep.star.2 h1).swap);exact(Sep.ex.2 ⟨x,f⟩:Sep E ((e8 λx:Int=>k3 c b d s t x)::A::en s l::L) j).ro 3 [1,2,0] rfl
 refine Calls.mono (R:=bW λv j=>v=.tuple #[]/\(Sep E (J ((hL l t g).map (Value.int .i64)).length::en s l::(e8 λx:Int=>k3 c b d s t x)::L) j\/
  ∃k,k<((hL l t g).map (Value.int .i64)).length/\Sep E (X k::en s l::(e8 λx:Int=>k3 c b d s t x)::L) j)) ?_ (λe j he=>?_)
 rotate_left
 ·obtain⟨v,rfl,rfl,he⟩:=he;exact⟨⟨_,rfl⟩,he⟩
 have h1:Sep E (J 0::en s l::bE b [Iv g]::bE d [Iv t]::bE c [Sv s]::L) W:=by
  have f:Sep E (k3 c b d s t g::J 0::en s l::L) W:=h.ro 3 [2,0,1] rfl;have i:=Sep.star.1 ((Sep.star.1 f).swap);exact i.ro 5 [3,4,2,0,1] rfl
 show Calls P tJ #[.func (.yield H) #[] #[],Pb b,Pb d,Pb c] W _;apply YT;unfold D4 qD qL qW qc qd;rw[eb];refine⟨λw'=>∃(k:Nat) (x:Int),x<l.length/\k<=(hL l t g).length/\(hL l t g).drop k=lx l t (l.length+1) x/\Sep E (J k::en s l::bE b [Iv x]::bE d [Iv t]::bE c [Sv s]::L) w',
  λw'=>match w'.cell? ⟨b,0,none⟩with|some (.int _ x)=>(x+1).toNat|_=>0,⟨0,g,Q,ec _,rfl,h1⟩,?_⟩
 rintro _ w2 ⟨k,x,hx,T,o,f⟩;refine⟨x,f.cellAt 2 rfl 0,t,f.cellAt 3 rfl 0,gV (λF=>?_) (λhe=>?_)⟩
 ·refine⟨x,f.cellAt 2 rfl 0,H,rfl,?_⟩;rw[Ad F]at o;have C:(hL l t g)[k]?=some x:=by
   have:((hL l t g).drop k)[0]?=some x:=by rw[o];rfl
   rwa[py,lu]at this
  have D:((hL l t g).map (Value.int .i64))[k]?=some (Iv x):=by rw[ew,C];rfl
  have r:=(cT.1 C).1;have n:(hL l t g).drop (k+1)=if x<0 then[]else lx l t l.length (nq l x).parent:=by rw[<- n0,o];rfl
  obtain⟨fn,tmps,z,body,u,p⟩:=O _ k _ _ D f;refine⟨fn,tmps,z,body,u,p.mono λe Z he=>?_⟩;rcases he with⟨rfl,i⟩|⟨rfl,i⟩
  ·refine⟨true,rfl,bF rfl ⟨x,i.cellAt 2 rfl 0,cL (λB=>⟨rfl,.inl ?_⟩) (λB=>?_)⟩⟩
   ·rw[bM B]at n;have:(hL l t g).length=k+1:=by
     have:=eO List.length n;rw[nY]at this;simp at this;omega
    rw[this];exact pack i
   ·rw[cM]at n;obtain⟨m,rfl⟩:∃m:Nat,x=m:=⟨x.toNat,bA⟩
    obtain⟨y,w⟩:∃y,l[m]?=some y:=⟨_,dL⟩
    rw[wi w]at n;have V:=(pa G w).1;refine⟨s,i.cellAt 4 rfl 0,_,i.cellAt 2 rfl 0,wk 1 i rfl U rfl w (λa K _ _=>⟨_,K,?_⟩)⟩;refine St.i (i.ro 5 [2,0,1,3,4] rfl) (by show 0<1;decide) (λI q=>?_);have q:Sep E (bE b [Iv y.parent]::J (k+1)::en s l::bE d [Iv t]::bE c [Sv s]::L) I:=q;have M:I.cell? ⟨b,0,none⟩=some (Iv y.parent):=q.cell 0;have N:w2.cell? ⟨b,0,none⟩=some (Iv (m:Int)):=f.cellAt 2 rfl 0;dsimp only;rw[M,N];refine⟨rfl,⟨k+1,y.parent,bA,r,?_,q.ro 5 [1,2,0,3,4] rfl⟩,?_⟩
    ·rw[n];exact Qk G _ _ _ bA bA bA
    ·show(y.parent+1).toNat<((m:Int)+1).toNat;omega
  ·exact⟨false,rfl,bT rfl ⟨rfl,.inr ⟨k,r,pack i⟩⟩⟩
 ·refine⟨rfl,.inl ?_⟩;rw[lx,bM he]at o;have:(hL l t g).length=k:=by
   have:=eO List.length o;rw[nY]at this;simp at this;omega
  rw[this];exact pack f
def Qx{r:Loop}(h1:r.state=.ready)(a:r.pending=none):({ {r with state:=.busy} with state:=if(none:Option Code).isNone then .ready else .done,pending:=none} :Loop)=r:=by
 cases r;simp only at h1 a;subst h1 a;rfl
def Qy{s:Sl}{l:List eB}{g t:Int}{q:Nat}(S:L[q]?=some (en s l))(N:s.n=l.length)(U:hK l=true)(K:g<l.length)(T:0<=t)(h:Sep E L w):
  Calls P yS #[Sv s,Iv g,Iv t] w (bW λv w'=>v=.bool (mK l g t)/\Sep E (en s l::L.eraseIdx q) w'):=by
 apply Yp;unfold aig qN;refine Al.i (h.fr q S) (λp X h1=>use (Qv h1) ?_);rintro _ w2 ⟨m,n,o,rfl,G⟩;refine⟨_,rfl,?_⟩;have H:Sep E (cC (((hL l t g).take 0).all (λx=>decide (0<=x))=true) (bE p [.bool false])::en s l::k3 m n o s t g::L.eraseIdx q) w2:=by
  have I:Sep E (bE o [Iv t]::bE m [Sv s]::bE n [Iv g]::bE p [.bool false]::en s l::L.eraseIdx q) w2:=G.ro 5 [1,2,0,3,4] rfl;have c:=Sep.star.2 ((Sep.star.2 I).swap);exact Sep.cC.2 ⟨rfl,(show Sep E (k3 m n o s t g::bE p [.bool false]::en s l::L.eraseIdx q) w2 from c).ro 3 [1,2,0] rfl⟩
 refine ib.iS (τ:=fD) (ρ:=gG) (cz:=cz) (An:=tP) (yl:=D6) mixed bO bO Yr Qu (Qw N U K T)
  (λk=>cC (((hL l t g).take k).all (λx=>decide (0<=x))=true) (bE p [.bool false])) (λ_=>cC (mK l g t=false) (bE p [.bool false])) ?_ H ?_ ?_
 ·intro V r L' k x W R u C hx f A j;obtain⟨y,D,rfl⟩:∃y,(hL l t g)[k]?=some y/\x=Iv y:=by
   rw[ew]at hx;cases B:(hL l t g)[k]? with
   |none=>rw[B]at hx;cases hx
   |some y=>rw[B]at hx;exact⟨y,rfl,(cQ hx).symm⟩
  refine(Yq s g t ⟨p,0,none⟩ _ y V W R).mpr ?_;unfold M7;refine kU.i f u (λF c=>?_);obtain⟨a,d⟩:=Sep.cC.1 c.swap;refine cL (λO=>?_) (λQ=>?_)
  ·refine St.i d (by show 0<1;decide) (λY e=>?_);refine e0.i e.swap (λz i=>j z ?_);refine Sep.swap (Sep.cC.2 ⟨?_,i.swap⟩);unfold mK;cases M:(hL l t g).all λx=>decide (0<=x)with
   |false=>rfl
   |true=>
    have:=fB.1 M y (eu D);simp at this;omega
  ·refine e0.i d.swap (λz i=>A z ?_);rw[Qx u C]at i;refine Sep.swap (Sep.cC.2 ⟨?_,i.swap⟩);rw[fw D,List.all_append,a];simp;omega
 ·intro b W f;obtain⟨a,c⟩:=Sep.cC.1 f.swap;rw[eb,fN]at a;refine St.i c (by show 0<1;decide) (λF d=>?_);have d:Sep E (bE p [.bool true]::c2 b (.deferred (some []))::en s l::(e8 λx:Int=>k3 m n o s t x)::L.eraseIdx q) F:=d;have e:=d.swap.putObj (o':=.deferred none);refine⟨d.swap.dp,_,e.cellAt 1 rfl 0,?_,e.ro 4 [2] rfl⟩;unfold mK;rw[a]
 ·intro b k W _ f;obtain⟨J,c⟩:=Sep.cC.1 f.swap;have e:=c.swap.putObj (o':=.deferred none);refine⟨c.swap.dp,_,e.cellAt 1 rfl 0,?_,e.ro 4 [2] rfl⟩;rw[J]
def aIO{s e:Sl}{l:List eB}{t:Int}{q:Nat}(d:L[q]?=some (en s l))(b:s.n=l.length)(c:l.length<1000000)(h:Sep E L w):
  Calls P JY #[Sv s,Sv e,Iv t] w (bW λv w'=>v=.bool (hK l&&decide (e.n=l.length)&&decide (0<=t)&&decide (t<l.length))/\Sep E L w'):=by
 apply Yt;unfold MK qF;refine use (Qt d b c h) ?_;rintro _ g ⟨rfl,h1⟩;refine⟨_,rfl,?_⟩;cases hK l with
 |false=>exact bF rfl ⟨rfl,h1⟩
 |true=>
  refine bT rfl (eD (λhe=>?_) (λf=>?_))
  ·have he:e.n=l.length:=by omega
   refine hN (λa=>⟨?_,h1⟩) (λa=>⟨?_,h1⟩);·rw[dh he,dh a,b];rfl
   ·rw[c4 (show ¬ 0<=t by omega),sN,xz]
  ·rw[c4 (show ¬ e.n=l.length by omega)];exact⟨rfl,h1⟩
def aLC{s e:Sl}{l:List eB}{dU:bU}{g t:Int}(af:s.n=l.length)(he:e.n=dU.length)(aB:l.length<1000000)(h:Sep E (en s l::bC e 1 (bD dU)::L) w):
  Calls P Db #[Sv s,Sv e,Iv t,Iv g] w (bW λv w'=>v=.bool (nr l dU t g)/\Sep E (en s l::bC e 1 (bD dU)::L) w'):=by
 apply XS;unfold DZ qF qN qc qm;refine Al.i h (λp aK h1=>Al.i h1 (λu w2 az=>Al.i az (λf aE S=>?_)));have S:Sep E (bE f [.bool false]::bE u [Sv e]::bE p [Sv s]::en s l::bC e 1 (bD dU)::L) aE:=S;refine⟨s,S.cellAt 2 rfl 0,e,S.cellAt 1 rfl 0,use (aIO (q:=3) rfl af aB S) ?_⟩;rintro _ aL ⟨rfl,J⟩;refine⟨_,rfl,?_⟩;have fin:∀ {ab:World} {M:ch},Sep E (bE f [.bool false]::M) ab->(∀i,Sep E (bE f [.bool false]::M) i->Value.bool false=.bool (nr l dU t g)/\Sep E (en s l::bC e 1 (bD dU)::L) i)->
   St ⟨f,0,none⟩ (.bool false) (λi=>∃r:Bool,i.cell? ⟨f,0,none⟩=some (.bool r)/\(λv w'=>v=Value.bool (nr l dU t g)/\Sep E (en s l::bC e 1 (bD dU)::L) w') (.bool r) i) ab:=by
  intro ab M B ae;exact St.i B (by show 0<1;decide) (λi n=>⟨false,n.cell 0,ae i n⟩)
 have o:∀ {i:World},(hK l=false\/dU.length≠l.length\/t<0\/(l.length:Int)<=t\/g<0\/(l.length:Int)<=g\/mK l g t=false)->Sep E (bE f [.bool false]::bE u [Sv e]::bE p [Sv s]::en s l::bC e 1 (bD dU)::L) i->
   Value.bool false=.bool (nr l dU t g)/\Sep E (en s l::bC e 1 (bD dU)::L) i:=by
  intro i aC n;unfold nr;rw[bM aC];exact⟨rfl,n.ro 5 [3,4] rfl⟩
 cases ag:(hK l&&decide (e.n=l.length)&&decide (0<=t)&&decide (t<l.length))with
 |false=>
  refine bT rfl (fin J (λi n=>o ?_ n));by_cases A:hK l=true
  ·by_cases am:e.n=l.length
   ·by_cases a3:0<=t
    ·rw[A,dh am,dh a3]at ag;have:¬ t<l.length:=by simpa using ag
     exact .inr (.inr (.inr (.inl bA)))
    ·exact .inr (.inr (.inl bA))
   ·exact .inr (.inl bA)
  ·exact .inl (by simpa using A)
 |true=>
  simp only[dG,gj]at ag;obtain⟨⟨⟨A,am⟩,a3⟩,a4⟩:=ag;refine bF rfl (cL (λao=>fin J (λi n=>o (.inr (.inr (.inr (.inr (.inl ao))))) n)) (λao=>?_));refine⟨s,J.cellAt 2 rfl 0,hk (λaF=>fin J (λi n=>o (.inr (.inr (.inr (.inr (.inr (.inl bA)))))) n)) (λaH=>?_)⟩;refine⟨s,J.cellAt 2 rfl 0,use (Qy (q:=3) rfl af A bA a3 J) ?_⟩;rintro _ ab ⟨rfl,B⟩;have B:Sep E (en s l::bE f [.bool false]::bE u [Sv e]::bE p [Sv s]::bC e 1 (bD dU)::L) ab:=B;refine⟨_,rfl,?_⟩;cases V:mK l g t with
  |false=>exact bT rfl (fin (B.ro 5 [1,2,3,0,4] rfl) (λi n=>o (.inr (.inr (.inr (.inr (.inr (.inr V)))))) n))
  |true=>
   refine bF rfl ⟨s,B.cellAt 3 rfl 0,use (Qv B) ?_⟩;rintro _ i ⟨K,N,O,rfl,n⟩;refine⟨_,rfl,?_⟩;have Y:nr l dU t g=(hL l t g).any λx=>decide ((nq l x).use<=dU.getD x.toNat 0):=by
    unfold nr;rw[bJ];rintro(c|c|c|c|c|c|c);·rw[A]at c;cases c
    ·omega
    ·omega
    ·omega
    ·omega
    ·omega
    ·rw[V]at c;cases c
   let ad:Nat->Asn:=λk=>cC (((hL l t g).take k).any (λx=>decide ((nq l x).use<=dU.getD x.toNat 0))=false) (star (bE f [.bool false]) (star (bE u [Sv e]) (star (bE p [Sv s]) (bC e 1 (bD dU)))));have Z:∀ {k:Nat} {M:ch} {w':World},Sep E (ad k::M) w'->((hL l t g).take k).any (λx=>decide ((nq l x).use<=dU.getD x.toNat 0))=false/\Sep E (bE f [.bool false]::bE u [Sv e]::bE p [Sv s]::bC e 1 (bD dU)::M) w':=by
    intro k M w' X;obtain⟨c,X⟩:=Sep.cC.1 X;refine⟨c,?_⟩;have Q:=Sep.star.1 X;have I:=Sep.star.1 Q.swap;have aJ:=Sep.star.1 (I.swap);exact(Sep.star.1 ((I.ro 3 [1,2,0] rfl))).ro 4 [2,3,0,1] rfl
   have al:∀ {k:Nat} {M:ch} {w':World},((hL l t g).take k).any (λx=>decide ((nq l x).use<=dU.getD x.toNat 0))=false->Sep E (bE f [.bool false]::bE u [Sv e]::bE p [Sv s]::bC e 1 (bD dU)::M) w'->Sep E (ad k::M) w':=by
    intro k M w' c X;refine Sep.cC.2 ⟨c,?_⟩;have Q:=Sep.star.2 (X.ro 4 [2,3,0,1] rfl);have I:=Sep.star.2 (Q.ro 3 [2,0,1] rfl);exact Sep.star.2 I.swap
   have aA:Sep E (ad 0::en s l::k3 K N O s t g::L) i:=by
    have Q:Sep E (bE O [Iv t]::bE K [Sv s]::bE N [Iv g]::en s l::bE f [.bool false]::bE u [Sv e]::bE p [Sv s]::bC e 1 (bD dU)::L) i:=n.ro 8 [1,2,0,3,4,5,6,7] rfl;have I:Sep E (k3 K N O s t g::en s l::bE f [.bool false]::bE u [Sv e]::bE p [Sv s]::bC e 1 (bD dU)::L) i:=Sep.star.2 ((Sep.star.2 Q).swap);exact al (by simp) (I.ro 6 [2,3,4,5,1,0] rfl)
   refine ib.iS (τ:=fD) (ρ:=gG) (cz:=cz) (An:=tO) (yl:=D2) mixed bO bO XU Qu (Qw af A bA a3)
    ad (λ_=>cC (nr l dU t g=true) (star (bE f [.bool true]) (bC e 1 (bD dU)))) ?_ aA ?_ ?_
   ·intro aj r L' k x W R ak au hx U ar ah;obtain⟨y,ai,rfl⟩:∃y,(hL l t g)[k]?=some y/\x=Iv y:=by
     rw[ew]at hx;cases ae:(hL l t g)[k]? with
     |none=>rw[ae]at hx;cases hx
     |some y=>rw[ae]at hx;exact⟨y,rfl,(cQ hx).symm⟩
    have aI:0<=y:=by
     have:=fB.1 (show(hL l t g).all (λx=>decide (0<=x))=true from V) y (eu ai);simpa using this
    have aD:y<l.length:=Ql A _ _ bA y (eu ai);obtain⟨m,rfl⟩:∃m:Nat,y=m:=⟨y.toNat,bA⟩
    obtain⟨z,av⟩:∃z,l[m]?=some z:=⟨_,dL⟩
    refine(XT s e t g ⟨p,0,none⟩ ⟨u,0,none⟩ ⟨f,0,none⟩ _ _ _ _ _ _ _ _ (m:Int) aj W R).mpr ?_;unfold MB qD qL qW qc;refine kU.i U ak (λaa T=>Dr.i T (λaw C=>?_));obtain⟨G,d⟩:=Z C.swap;have d:Sep E (bE f [.bool false]::bE u [Sv e]::bE p [Sv s]::bC e 1 (bD dU)::c2 aj (.loop {r with state:=.busy})::en s l::L') aw:=d;refine⟨s,d.cellAt 2 rfl 0,wk 5 d rfl af rfl av (λa _ ay _=>⟨_,ay,e,d.cellAt 1 rfl 0,kY 3 d rfl he bA bA (λam aq=>⟨_,aq,?_⟩)⟩)⟩;have F:decide ((nq l (m:Int)).use<=dU.getD ((m:Int)).toNat 0)=decide (z.use<=dU.getD ((m:Int)).toNat 0):=by rw[wi av]
    refine hN (λhle=>?_) (λaG=>?_)
    ·refine St.i d (by show 0<1;decide) (λax j=>?_);have j:Sep E (bE f [.bool true]::bE u [Sv e]::bE p [Sv s]::bC e 1 (bD dU)::c2 aj (.loop {r with state:=.busy})::en s l::L') ax:=j;refine e0.i (j.ro 6 [4,0,3,5] rfl) (λH D=>ah H ?_);refine Sep.swap (Sep.cC.2 ⟨?_,?_⟩)
     ·rw[Y];exact sK.2 ⟨(m:Int),eu ai,by rw[F];exact dh hle⟩
     ·have ap:Sep E (bE f [.bool true]::bC e 1 (bD dU)::c2 aj (.loop {r with state:=.done,pending:=some .ret})::en s l::L') H:=D.ro 3 [1,2,0] rfl;exact Sep.star.2 ap
    ·refine e0.i (d.ro 6 [4,0,1,2,3,5] rfl) (λH D=>ar H ?_);rw[Qx ak au]at D;refine Sep.swap (al ?_ (D.ro 5 [1,2,3,4,0] rfl));rw[fw ai,He,G];simp only[List.any_cons,List.any_nil,pG,uU];rw[F];exact c4 bA
   ·intro b W U;obtain⟨G,T⟩:=Z U.swap;rw[eb,fN]at G;refine St.i T (by show 0<1;decide) (λaa C=>?_);have C:Sep E (bE f [.bool false]::bE u [Sv e]::bE p [Sv s]::bC e 1 (bD dU)::c2 b (.deferred (some []))::en s l::(e8 λx:Int=>k3 K N O s t x)::L) aa:=C;have d:Sep E (c2 b (.deferred (some []))::bE f [.bool false]::bE u [Sv e]::bE p [Sv s]::bC e 1 (bD dU)::en s l::(e8 λx:Int=>k3 K N O s t x)::L) aa:=C.ro 5 [4,0,1,2,3] rfl;have j:=d.putObj (o':=.deferred none);exact⟨d.dp,_,j.cellAt 1 rfl 0,by rw[Y,G],j.ro 7 [5,4] rfl⟩
   ·intro b k W _ U;obtain⟨an,T⟩:=Sep.cC.1 U.swap;have C:=Sep.star.1 T;have d:Sep E (c2 b (.deferred (some []))::bE f [.bool true]::bC e 1 (bD dU)::en s l::(e8 λx:Int=>k3 K N O s t x)::L) W:=C.ro 3 [2,0,1] rfl;have j:=d.putObj (o':=.deferred none);exact⟨d.dp,_,j.cellAt 1 rfl 0,by rw[an],j.ro 5 [3,2] rfl⟩
def aLP{a p s:Int}(f:0<=a/\a<2147483648)(hp:0<=p/\p<2147483648)(g:0<s/\s<9223372036854775808)(h:Sep E L w):Calls P JX #[Iv a,Iv p,Iv s] w (bW λv w'=>v=Iv (a*p/s)/\Sep E L w'):=by
 apply Ys;unfold MJ zN;obtain⟨x,rfl⟩:∃x:Nat,a=x:=⟨a.toNat,bA⟩
 obtain⟨y,rfl⟩:∃y:Nat,p=y:=⟨p.toNat,bA⟩
 obtain⟨z,rfl⟩:∃z:Nat,s=z:=⟨s.toNat,bA⟩
 rw[dj (n:=x) bA,dj (n:=y) bA,dj (n:=z) bA];have b:x*y<18446744073709551616:=by
  have:x*y<=4294967295*4294967295:=Hh bA bA;omega
 refine use (aKo bA bA w) ?_;rintro _ i ⟨rfl,rfl⟩;refine⟨_,_,rfl,use (Qg b bA h) ?_⟩;rintro _ w2 ⟨rfl,c⟩;refine⟨_,_,rfl,?_,c⟩;have d:x*y/z<=x*y:=Hd _ _;have e:x*y<=2147483647*2147483647:=Hh bA bA;rw[<- uS,<- Int.natCast_ediv];generalize x*y/z=q at*
 rw[cH bA bA]
def aMi(n:Nat):((List.range (((n:Nat):Int).toNat*1)).map λi=>(([Value.int .i64 0]:List Value).toArray)[i%([Value.int .i64 0]:List Value).length]!)=bD (List.replicate n 0):=by
 rw[dk,fC];apply g6;intro i;rw[ew,y9,lN];by_cases a:i<n
 ·rw[my a,bM a];simp[Nat.mod_one]
 ·rw[fH (by simpa using a),bJ a];rfl
def pb{n:Nat}(c:n<1000000)(h:Sep E L w){G:Sl->bh6}(k:∀s a,s.n=n->Sep E (bC s 1 (bD (List.replicate n 0))::L) a->G s a):
  ∃x:Sl,∃a,Sem.run P (Instr.makeSlice jB (Iv ((n:Nat):Int)) (Iv ((n:Nat):Int))) w=.ok (Sv x) a/\G x a:=by
 refine makeSlice.i h (by kernel_rfl:g9 P jB=some (8,1,[Iv 0])) bA (e7 _) bA bA (λb a h1=>k _ a (by simp) ?_);rw[aMi]at h1;exact bC.make (spare:=[]) (by simpa using h1) (by simp) (by simp) (dN _)
def iY{s:Sl}{l:bU}{i x:Int}{F:bh6}(h:Sep E (bC s 1 (bD l)::L) w)(f:s.n=l.length)(d:0<=i)(h1:i<l.length)(k:∀c,Sep E (bC s 1 (bD (l.set i.toNat x))::L) c->F c):cx s.p s.n i 1 λa=>St a (Iv x) F w:=by
 refine bC.el 0 h rfl d bA (λb e _=>?_);rw[fC];refine bC.st h e (by simp;omega) (λc h1=>k c ?_);have:bD (l.set i.toNat x)=(bD l).set i.toNat (Iv x):=by simp[bD,hq]
 rw[this];exact h1
def ou:top=1099511627776:=rfl
def aDO{s:Sl}{l:List eB}{t:Int}(Z:s.n=l.length)(ba:l.length<1000000)(bb:s.n<=s.c)(ax:∀x∈l,x.use<2147483648)(h:Sep E (en s l::L) w):
  Calls P JL #[Sv s,Iv t] w (bW λv w'=>∃e:Sl,v=Sv e/\e.n=(mM l t).length/\Sep E (bC e 1 (bD (mM l t))::en s l::L) w'):=by
 apply XP;unfold Mf qD qF qL qO qQ qU qW qg qh qi ql zG zH;have ah:(hK l=false\/t<0\/(l.length:Int)<=t)->∀w',Sep E (en s l::L) w'->∃e:Sl,Value.slice none 0 0=Sv e/\e.n=(mM l t).length/\Sep E (bC e 1 (bD (mM l t))::en s l::L) w':=by
  intro Y w' h';have e:mM l t= []:=by unfold mM;rw[bM Y]
  rw[e];exact⟨⟨none,0,0⟩,rfl,rfl,bC.none_ h'⟩
 refine⟨λw'=>hK l=true/\0<=t/\t<l.length/\Sep E (en s l::L) w',use (Qt (q:=0) rfl Z ba h) ?_,?_⟩
 ·rintro _ bw ⟨rfl,h1⟩;refine⟨_,rfl,?_⟩;cases u:hK l with
  |false=>exact bT rfl (ah (.inl u) _ h1)
  |true=>exact bF rfl (cL (λaE=>ah (.inr (.inl aE)) _ h1) (λaE=>hk (λbd=>ah (.inr (.inr bA)) _ h1) (λbd=>⟨rfl,aE,bA,h1⟩)))
 rintro _ w2 ⟨u,ay,bv,a7⟩;have bc:=aIc u;refine pb (n:=s.n) bA a7 (λA bx al aC=>?_);rw[Z]at al aC;refine⟨⟨bO,bA⟩,?_⟩;have aN:(1:Int).toNat=1:=rfl;rw[aN];let d:Nat->bU:=λk=>(List.range l.length).map λj:Nat=>mY l k (j:Int);have C:∀k,(d k).length=l.length:=λk=>by simp[d]
 have aY:List.replicate l.length (0:Int)=d 0:=by
  apply g6;intro i;simp only[d,lN,ew];by_cases R:i<l.length;·rw[bM R,my R];rfl
  ·rw[bJ R,fH (by simpa using R)];rfl
 have ak:∀k (p:Int),0<=p->p<l.length->(d k).getD p.toNat 0=mY l k p:=by
  intro k p hp bk;simp only[d,dK,ew];rw[my bA];simp only[jh,mB];rw[show((p.toNat:Nat):Int)=p by omega]
 rw[aY]at aC;refine⟨λx w'=>∃k:Nat,x=k/\k+1<=l.length/\Sep E (bC A 1 (bD (d k))::en s l::L) w',λx _=>(l.length-x).toNat,⟨0,rfl,bA,aC⟩,?_⟩;rintro _ x aI ⟨k,rfl,aF,ae⟩;refine cL (λag=>?_) (λaV=>?_)
 ·have ag:k+1<l.length:=by omega
  obtain⟨y,D⟩:∃y,l[k+1]?=some y:=⟨_,dL⟩
  have aZ:(l.drop 1)[k]?=some y:=by rw[py,rf];exact D
  have I:=pa u D;have H:0<=y.parent/\y.parent<l.length:=by rcases I.1 with⟨e,_⟩|e<;>omega
  have av:=wj I.2.1 I.2.2;have aU:∀ {F:Addr->Prop},(∀a,aI.cell? (a.add 0)=some (Iv y.parent)->aI.cell? (a.add 1)=some (Iv y.use)->aI.cell? (a.add 2)=some (Iv y.own)->F a)->cx (gb s.p 1 s.c 3) (s.n-1) (k:Int) 3 F:=by
   intro F bf;obtain⟨b,spare,hp,aK,a2,bt,_⟩:=bC.h2 (ae.fr 1 rfl) bA;have a1:gb s.p 1 s.c 3=some ⟨b,3,none⟩:=by unfold gb;rw[cM,hp];rfl
   rw[a1];have a8:=wk (E:=E) (f:=F) (k:=k+1) 1 ae rfl Z (i:=((k+1:Nat):Int)) rfl D (λa aa ab ad=>bf a aa ab ad);obtain⟨a,aO,bu,hf⟩:=a8;rw[hp]at aO;have:=cQ aO;subst this;refine⟨_,rfl,⟨bA,bA⟩,?_⟩;have e:(⟨b,3,none⟩:Addr).add (((k:Nat):Int).toNat*3)=(⟨b,0,none⟩:Addr).add ((((k+1:Nat):Int)).toNat*3):=by
    rw[cj,cj];congr 1;omega
   rw[e];exact hf
  refine aU (λa aa ab ad=>⟨_,aa,_,ab,_,ad,Al.i ae (λp bg an=>eh _ an rfl (λbh Q=>Dr.i Q (λa0 B=>?_)))⟩);have B:Sep E (bE p [Iv y.parent,Iv y.use,Iv y.own]::bC A 1 (bD (d k))::en s l::L) a0:=B;have cell:∀(j:Nat) {w':World},Sep E (bE p [Iv y.parent,Iv y.use,Iv y.own]::bC A 1 (bD (d k))::en s l::L) w'->w'.cell? ((⟨p,0,none⟩:Addr).add j)=([Iv y.parent,Iv y.use,Iv y.own]:List Value)[j]? :=by
   intro j w' aG;rw[cj,aG.cell,e5]
  have am:A.n=(d k).length:=by rw[C,al]
  refine⟨_,cell 0 B,rT 1 B rfl am H.1 (by rw[C];exact H.2) (λbr au=>⟨_,au 1 B rfl,_,cell 0 B,_,cell 1 B,_,cell 2 B,use (Qr B) ?_⟩)⟩;rintro _ bi ⟨rfl,X⟩;refine⟨_,rfl,_,au 1 X rfl,rfl,_,cell 0 X,rfl,?_⟩;rw[ak k y.parent H.1 H.2];have bj:=EO u y.parent k bA;have aP:(k:Int)*top<=64*top:=GH bA bO;rw[cH (by rw[ou]at *;omega) (by rw[ou]at *;omega)];refine iY (X.swap) am H.1 (by rw[C];exact H.2) (λaJ r=>?_);have e:(d k).set y.parent.toNat (mY l k y.parent+y.eV)=d (k+1):=by
   apply g6;intro i;by_cases R:i<l.length
   ·have aB:(d (k+1))[i]?=some (mY l (k+1) (i:Int)):=by simp only[d,ew,my R];rfl
    rw[aB,Qo aZ];by_cases aw:y.parent.toNat=i
    ·subst aw;rw[iM (by rw[C];omega),eG,show((y.parent.toNat:Nat):Int)=y.parent by omega]
    ·rw[h4 aw,cM];simp only[d,ew,my R];rfl
   ·rw[fH (by rw[dA,C];omega),fH (by rw[C];omega)]
  rw[e]at r;exact⟨⟨k+1,c1,bA,r.ro 2 [0] rfl⟩,by dsimp only;rw[c1];omega⟩
 ·have:k=l.length-1:=by omega
  subst this;have af:∀p:Int,0<=p->p<l.length->(d (l.length-1)).getD p.toNat 0=sumOf l p:=λp a6 h1=>by rw[ak _ p a6 h1,Qp]
  generalize a9:d (l.length-1)=S at ae af;have ar:S.length=l.length:=by rw[<- a9,C]
  have aD:∀p:Int,0<=sumOf l p/\sumOf l p<=64*top:=by
   intro p;rw[<- Qp p];have:=EO u p (l.length-1) bA;have aP:((l.length-1:Nat):Int)*top<=64*top:=GH bA bO;omega
  refine pb (n:=s.n) bA ae (λo bg ho an=>?_);rw[Z]at ho an;have g:∀k,k<=l.length->(fZ l t k).length=k:=λk aF=>EL aF;refine⟨λx w'=>∃k:Nat,x=k/\k<=l.length/\Sep E (bC o 1 (bD (fZ l t k++List.replicate (l.length-k) 0))::bC A 1 (bD S)::en s l::L) w',λx _=>(l.length-x).toNat,
   ⟨0,rfl,ec _,an⟩,?_⟩
  rintro _ x bh ⟨k,rfl,aF,Q⟩;refine cL (λag=>?_) (λaV=>?_)
  ·have ag:k<l.length:=by omega
   obtain⟨y,D⟩:∃y,l[k]?=some y:=⟨_,dL⟩
   have I:=pa u D;have av:=wj I.2.1 I.2.2;have be:=ax y (eu D);have aX:∀k',k'<=l.length->o.n=(fZ l t k'++List.replicate (l.length-k') 0).length:=λk' aW=>by rw[ho,da,g k' aW,kJ];omega
   refine wk 2 Q rfl Z rfl D (λa aa ab ad=>⟨_,aa,_,ab,_,ad,Al.i Q (λp a0 B=>eh _ B rfl (λbi X=>?_))⟩);have cell:∀(j:Nat) {w':World} {M:ch},Sep E (bE p [Iv y.parent,Iv y.use,Iv y.own]::M) w'->w'.cell? ((⟨p,0,none⟩:Addr).add j)=([Iv y.parent,Iv y.use,Iv y.own]:List Value)[j]? :=by
    intro j w' M aG;rw[cj,aG.cell,e5]
   have zero:mL l t (fZ l t k) k y=0->∀ {w':World},Sep E (bC o 1 (bD (fZ l t k++List.replicate (l.length-k) 0))::bC A 1 (bD S)::en s l::L) w'->
     (∃k':Nat,i64.wrap ((k:Int)+1)=k'/\k'<=l.length/\Sep E (bC o 1 (bD (fZ l t k'++List.replicate (l.length-k') 0))::bC A 1 (bD S)::en s l::L) w')/\(l.length-i64.wrap ((k:Int)+1)).toNat<(l.length-(k:Int)).toNat:=by
    intro aH w' h';refine⟨⟨k+1,c1,bA,?_⟩,by rw[c1];omega⟩;rw[EM D,aH,dc];have: [(0:Int)]++List.replicate (l.length-(k+1)) 0=List.replicate (l.length-k) 0:=by
     rw[show l.length-k=(l.length-(k+1))+1 by omega,nV];rfl
    rw[this];exact h'
   refine⟨λw'=>(k:Int)≠t/\mK l k t=true/\Sep E (bE p [Iv y.parent,Iv y.use,Iv y.own]::bC o 1 (bD (fZ l t k++List.replicate (l.length-k) 0))::bC A 1 (bD S)::en s l::L) w',
    eD (λe=>zero (by unfold mL;rw[bM (.inl e)]) X.tail) (λW=>use (Qy (q:=3) rfl Z u bA ay X) ?_),?_⟩
   ·rintro _ aJ ⟨rfl,r⟩;have r:Sep E (en s l::bE p [Iv y.parent,Iv y.use,Iv y.own]::bC o 1 (bD (fZ l t k++List.replicate (l.length-k) 0))::bC A 1 (bD S)::L) aJ:=r;refine⟨_,rfl,?_⟩;cases U:mK l (k:Int) t with
    |false=>exact bT rfl (zero (by unfold mL;rw[bM (.inr U)]) (r.ro 4 [2,3,0] rfl))
    |true=>exact bF rfl ⟨W,rfl,r.ro 4 [1,2,3,0] rfl⟩
   ·rintro _ aJ ⟨W,U,r⟩;have N:=aBF u ay D U W;refine⟨_,cell 0 r,_,cell 1 r,_,cell 2 r,use (Qr r) ?_⟩;rintro _ bm ⟨rfl,aL⟩;refine⟨_,rfl,iY aL.swap (aX k bA) bA (by rw[da,g k bA,kJ];omega) (λaA G=>?_)⟩;have aB:(fZ l t k++List.replicate (l.length-k) 0).set ((k:Nat):Int).toNat y.eV=fZ l t k++y.eV::List.replicate (l.length-(k+1)) 0:=by
     rw[dk,ik _ _ (by rw[g k bA];exact dN _),g k bA,hG,show l.length-k=(l.length-(k+1))+1 by omega,nV,xx]
    rw[aB]at G;have m:(fZ l t k++y.eV::List.replicate (l.length-(k+1)) 0).length=l.length:=by rw[da,g k bA,hS,kJ];omega
    have K:o.n=(fZ l t k++y.eV::List.replicate (l.length-(k+1)) 0).length:=by rw[m,ho]
    have G:Sep E (bC o 1 (bD (fZ l t k++y.eV::List.replicate (l.length-(k+1)) 0))::bE p [Iv y.parent,Iv y.use,Iv y.own]::bC A 1 (bD S)::en s l::L) aA:=G;have O:=G.swap;have bl:=aD y.parent;refine⟨_,cell 0 O,kY 2 O rfl (by rw[al,ar]) N.1 (by rw[ar];omega) (λa3 aQ=>⟨_,aQ,?_⟩)⟩;rw[af y.parent N.1 bA];have ai:(fZ l t k++y.eV::List.replicate (l.length-(k+1)) 0).getD y.parent.toNat 0=(fZ l t k).getD y.parent.toNat 0:=by
     rw[dK,eE (by rw[g k bA];omega),<- dK]
    have ao:0<=(fZ l t k).getD y.parent.toNat 0/\(fZ l t k).getD y.parent.toNat 0<2147483648:=by
     rw[dK,dD (by rw[g k bA];omega)];have:=EN u k bA y.parent.toNat _ (dD (by rw[g k bA];omega));obtain⟨aK,x,hx,a2⟩:=this;have:=ax x (eu hx);have az:=pa u hx;have:=wj az.2.1 az.2.2;simp only[mB];exact⟨aK,bA⟩
    have done:∀ {w':World} (z:Int),mL l t (fZ l t k) k y=z->Sep E (bC o 1 (bD (fZ l t k++z::List.replicate (l.length-(k+1)) 0))::bE p [Iv y.parent,Iv y.use,Iv y.own]::bC A 1 (bD S)::en s l::L) w'->
      (∃k':Nat,i64.wrap ((k:Int)+1)=k'/\k'<=l.length/\Sep E (bC o 1 (bD (fZ l t k'++List.replicate (l.length-k') 0))::bC A 1 (bD S)::en s l::L) w')/\(l.length-i64.wrap ((k:Int)+1)).toNat<(l.length-(k:Int)).toNat:=by
     intro w' z aH h';refine⟨⟨k+1,c1,bA,?_⟩,by rw[c1];omega⟩;rw[EM D,aH,dc];exact h'.ro 4 [0,2,3] rfl
    have V:mL l t (fZ l t k) k y=if y.parent≠t/\(fZ l t k).getD y.parent.toNat 0<sumOf l y.parent then y.eV*(fZ l t k).getD y.parent.toNat 0/sumOf l y.parent else y.eV:=by
     unfold mL;rw[bJ (by rintro(c|c);exact W c;rw[U]at c;cases c)]
    refine⟨λq w'=>q=decide (y.parent≠t/\(fZ l t k).getD y.parent.toNat 0<sumOf l y.parent)/\w'=aA,⟨_,cell 0 O,gV (λaj=>⟨_,cell 0 O,kY 1 O rfl K N.1 (by rw[m];omega) (λa4 aR=>⟨_,aR,?_,rfl⟩)⟩) (λaj=>⟨?_,rfl⟩)⟩,?_⟩
    ·rw[ai];by_cases J:(fZ l t k).getD y.parent.toNat 0<sumOf l y.parent;·rw[dh J,dh ⟨aj,J⟩]
     ·rw[c4 J,c4 (λc=>J c.2)]
    ·rw[c4 (λc=>c.1 aj)]
    ·rintro _ q bn ⟨rfl,rfl⟩;by_cases Y:y.parent≠t/\(fZ l t k).getD y.parent.toNat 0<sumOf l y.parent
     ·rw[dh Y];rw[bM Y]at V;refine bT rfl (Dr.i G (λbo T=>kY 0 T rfl K bA (by rw[m];omega) (λa5 aS=>⟨_,aS,_,cell 0 T.swap,kY 0 T rfl K N.1 (by rw[m];omega) (λbs aT=>⟨_,aT,?_⟩)⟩)));have ap:(fZ l t k++y.eV::List.replicate (l.length-(k+1)) 0).getD ((k:Nat):Int).toNat 0=y.eV:=by
       rw[dk,dK,fo (by rw[g k bA];exact dN _),g k bA,hG];rfl
      rw[ap,ai];refine use (aLP ⟨av.1,bA⟩ ao ⟨bA,by rw[ou]at *;omega⟩ T) ?_;rintro _ bp ⟨rfl,aM⟩;refine⟨_,rfl,iY aM K bA (by rw[m];omega) (λbq aq=>done _ V ?_)⟩;rw[dk,ik _ _ (by rw[g k bA];exact dN _),g k bA,hG,xx]at aq;exact aq
     ·rw[c4 Y];rw[bJ Y]at V;exact bF rfl (done _ V G)
  ·have:k=l.length:=by omega
   subst this;rw[hG,GQ,hF]at Q;have e:fZ l t l.length=mM l t:=by
    unfold fZ mM;rw[fN,bJ];rintro(c|c|c);·rw[u]at c;cases c
    ·omega
    ·omega
   rw[e]at Q;exact⟨o,rfl,by rw[<- e,g _ (dN _),ho],Q.ro 3 [0,2] rfl⟩
end Go.Mp
namespace Go.Mp
open Go Go.Vc Go.Sp Go.Stab
section
variable{E:Env}{L:ch}{w:World}{s:Sl}{l:bU}
def eX.use{Q:Program}{g:Value}{args:Array Value}{w:World}{R R':Ending->bh6}(h:eX Q g args w R)(k:∀e w',R e w'->R' e w'):eX Q g args w R':=by
 obtain⟨f,ca,h1,a,b⟩:=h;exact⟨f,ca,h1,a,b.mono k⟩
def gP{F:Int->Prop}{i x:Int}(k:Nat)(h:Sep E (bC s 1 (bD l)::L) w)(c:s.n=l.length)(g:i=k)(hx:l[k]?=some x)(f:F x):cx s.p s.n i 1 λa=>∃v:Int,w.cell? a=some (Iv v)/\F v:=by
 have d:=(cT.1 hx).1;refine kY 0 h rfl c bA bA (λa b=>⟨_,b,?_⟩);have e:i.toNat=k:=by omega
 rw[e,List.getD,hx];exact f
def kh{f:bh6}{i x:Int}(k:Nat)(h:Sep E (bC s 1 (bD l)::L) w)(n:s.n=l.length)(m:i=k)(j:k<l.length)(g:∀c,Sep E (bC s 1 (bD (l.set k x))::L) c->f c):
  cx s.p s.n i 1 λa=>St a (Iv x) f w:=by
 refine bC.el 0 h rfl bA bA (λb d _=>?_);have e:i.toNat*1=k:=by omega
 rw[e];refine bC.st h d (by simpa using j) (λc h1=>g c ?_);have:bD (l.set k x)=(bD l).set k (Iv x):=by simp[bD,hq]
 rw[this];exact h1
def gx(E:Env)(L:ch)(s:Sl)(cmp:Value)(lt:Int->Int->Bool)(n:Nat):Prop:=
 ∀(l:bU) (x y:Int) (w:World),l.length=n->Sep E (bC s 1 (bD l)::L) w->eX P cmp #[Iv x,Iv y] w λe w'=>∃r:Int,e=.returned (Iv r)/\decide (r<0)=lt x y/\Sep E (bC s 1 (bD l)::L) w'
variable{cmp:Value}{lt:Int->Int->Bool}{n:Nat}
def gx.i(b:gx E L s cmp lt n)(c:l.length=n)(h:Sep E (bC s 1 (bD l)::L) w){x y:Int}{A B:bh6}(f:lt x y=true->∀w',Sep E (bC s 1 (bD l)::L) w'->A w')(g:lt x y=false->∀w',Sep E (bC s 1 (bD l)::L) w'->B w'):
  eX P cmp #[Iv x,Iv y] w λe w'=>∃r:Int,e=.returned (Iv r)/\bif decide (r<0)then A w' else B w':=by
 refine eX.use (b l x y w c h) ?_;rintro e w' ⟨r,rfl,d,h'⟩;refine⟨r,rfl,?_⟩;rw[d];cases a:lt x y with
 |true=>exact f a w' h'
 |false=>exact g a w' h'
def gx.j(b:gx E L s cmp lt n)(c:l.length=n)(h:Sep E (bC s 1 (bD l)::L) w){x y:Int}{A B:bh6}(f:lt x y=true->∀w',Sep E (bC s 1 (bD l)::L) w'->A w')(g:lt x y=false->∀w',Sep E (bC s 1 (bD l)::L) w'->B w'):
  eX P cmp #[Iv x,Iv y] w λe w'=>∃r:Int,e=.returned (Iv r)/\bif(!(decide (r<0)))then B w' else A w':=by
 refine eX.use (b l x y w c h) ?_;rintro e w' ⟨r,rfl,d,h'⟩;refine⟨r,rfl,?_⟩;rw[d];cases a:lt x y with
 |true=>exact f a w' h'
 |false=>exact g a w' h'
structure k4(R b:Int->Int->Prop)(lt:Int->Int->Bool):Prop where
 ord:Ord R
 ne:∀x y,b x y->x≠y
 ask:∀x y,b x y->(lt y x=true↔R y x)
variable{R b:Int->Int->Prop}
def k4.no(K:k4 R b lt){x y:Int}(a:b x y)(h:lt y x=false):R x y:=
 K.ord.not (Ne.symm (K.ne x y a)) (λc=>by rw[(K.ask x y a).2 c]at h;cases h)
def half{i j:Int}(h1:0<=i+j:=by omega)(d:i+j<=4611686018427387904:=by omega):i64.wrap ((u64.wrap (i64.wrap (i+j))).fdiv (2^(min (1:Int).toNat 64)))=(i+j)/2:=by
 have a:i64.wrap (i+j)=i+j:=cH bA bA;have b:u64.wrap (i+j)=i+j:=by
  unfold IntKind.wrap;simp only[IntKind.signed,IntKind.bits,xz];rw[bJ (by simp)];omega
 have c:(i+j).fdiv (2^(min (1:Int).toNat 64))=(i+j)/2:=by
  show(i+j).fdiv 2=_;rw[TQ _ bO]
 rw[a,b,c,cH bA bA]
def k5{A B:bU}{k:Nat}:(A++B)[A.length+k]?=B[k]? :=by
 rw[fo bA];congr 1;omega
def kj{A P B:bU}{i k:Nat}{x:Int}(a:i<=P.length)(b:k<=P.length):(A++ins P i x++B)[A.length+k]?=if k<i then P[k]? else if k=i then some x else P[k-1]? :=by
 have:=mN P i x;rw[dc,k5,eE bA,s7 P i x a]
def wm{A M B:bU}(K:k4 R b lt)(X:M.Pairwise b)(p:s.n=(A++M++B).length)(I:(A++M++B).length<4611686018427387904)(N:gx E L s cmp lt (A++M++B).length)(h:Sep E (bC s 1 (bD (A++M++B))::L) w){a e:Int}(Y:a=A.length)(he:e=A.length+M.length):
  Calls P DO #[Sv s,Iv a,Iv e,cmp] w (bW λv w'=>v=.tuple #[]/\∃H,H.Perm M/\H.Pairwise R/\Sep E (bC s 1 (bD (A++H++B))::L) w'):=by
 subst Y he;have hlen:(A++M++B).length=A.length+M.length+B.length:=by simp;omega
 apply Zc;unfold Ns qD qO qW qg;rw[hlen]at p I N;refine⟨λi w=>∃(k:Nat) (S:bU),i=A.length+k/\1<=k/\(k<=M.length\/M= [])/\S.Perm (M.take k)/\S.Pairwise R/\Sep E (bC s 1 (bD (A++S++(M.drop k++B)))::L) w,λi _=>(A.length+M.length-i).toNat,?_,?_⟩
 ·rw[cH bA bA];refine⟨1,M.take 1,bA,dN _,?_,.refl _,?_,?_⟩
  ·cases M with
   |nil=>exact .inr rfl
   |cons x M=>left;simp
  ·cases M with
   |nil=>simp
   |cons x M=>simp
  ·have:A++M.take 1++(M.drop 1++B)=A++M++B:=by
    rw[<- dc,dc A,fA]
   rw[this];exact h
 rintro _ i aj ⟨k,S,rfl,af,d,q,C,h1⟩;refine cL (λag=>?_) (λad=>⟨rfl,S,?_,C,?_⟩)
 ·have F:k<M.length:=by omega
  have r:S.length=k:=by rw[q.length_eq];simp;omega
  have hx:M[k]?=some M[k]:=dD F;generalize T:M[k]=x at hx;have u:M.drop k=x::M.drop (k+1):=by rw[<- T];exact ln F
  have D:∀y∈S,b y x:=by
   intro y f;obtain⟨j,Z,O⟩:=s8 (q.mem_iff.1 f);exact pR X O hx Z
  refine⟨λj w=>∃m:Nat,j=A.length+m/\m<=k/\(k<=m\/∃y,S[m]?=some y/\R x y)/\Sep E (bC s 1 (bD (A++ins S m x++(M.drop (k+1)++B)))::L) w,λj _=>(j-A.length).toNat,?_,?_⟩
  ·refine⟨k,rfl,dN _,.inl (dN _),?_⟩;have e:A++ins S k x++(M.drop (k+1)++B)=A++S++(M.drop k++B):=by
    rw[<- r,xY,r,u];simp
   rw[e];exact h1
  rintro _ j w2 ⟨m,rfl,ai,Q,V⟩;have g:(A++ins S m x++(M.drop (k+1)++B)).length=A.length+M.length+B.length:=by
   have:=mN S m x;simp only[da,this,nY];omega
  have out:∀ {t:World},(m=0\/∃y,S[m-1]?=some y/\R y x)->Sep E (bC s 1 (bD (A++ins S m x++(M.drop (k+1)++B)))::L) t->
    ((∃(k':Nat) (S:bU),(i64.wrap (A.length+k+1))=A.length+k'/\1<=k'/\(k'<=M.length\/M= [])/\S.Perm (M.take k')/\S.Pairwise R/\Sep E (bC s 1 (bD (A++S++(M.drop k'++B)))::L) t)/\
     (A.length+M.length-i64.wrap (A.length+k+1)).toNat<(A.length+M.length-(A.length+k:Int)).toNat):=by
   intro t z l;rw[cH bA bA];refine⟨⟨k+1,ins S m x,bA,bA,.inl bA,?_,?_,l⟩,bA⟩
   ·refine(s6 S m x).trans ?_;rw[mA,hx];exact(List.Perm.cons x q).trans (lO (l₁:=[x]))
   ·exact s9 K.ord C z (by rw[r];exact Q)
  refine⟨λw=>∃c y,m=c+1/\S[c]?=some y/\R x y/\Sep E (bC s 1 (bD (A++ins S m x++(M.drop (k+1)++B)))::L) w,?_,?_⟩
  ·refine Dr.i V (λt l=>eW (λae=>?_) (λhle=>?_))
   ·obtain⟨c,rfl⟩:∃c,m=c+1:=⟨m-1,bA⟩
    have f:S[c]?=some (S[c]'bA):=dL;generalize S[c]'(bA)=y at f;have G:y∈S:=eu f;rw[cH bA bA];refine gP (A.length+(c+1)) l (by rw[p,g]) bA (by rw[kj bA bA,cM,bM rfl]) ?_;refine gP (A.length+c) l (by rw[p,g]) bA (by rw[kj bA bA,eG];exact f) ?_;refine N.i g l (λab U o=>⟨c,y,rfl,f,(K.ask y x (D y G)).1 ab,o⟩) (λhf U o=>out (.inr ⟨y,f,K.no (D y G) hf⟩) o)
   ·exact out (.inl bA) l
  ·rintro _ t ⟨c,y,rfl,f,aa,l⟩;have ah:c<S.length:=(cT.1 f).1;refine Dr.i l (λU o=>?_);rw[cH (n:=A.length+((c+1:Nat):Int)-1) bA bA];refine gP (A.length+c) o (by rw[p,g]) bA (by rw[kj bA bA,eG];exact f) ?_;refine gP (A.length+(c+1)) o (by rw[p,g]) bA (by rw[kj bA bA,cM,bM rfl]) ?_;refine kh (A.length+(c+1)) o (by rw[p,g]) bA bA (λak W=>?_);refine kh (A.length+c) W (by rw[dA,p,g]) bA (by rw[dA];omega) (λal J=>?_);rw[<- uV,xZ f]at J;exact⟨⟨c,bA,bA,.inr ⟨y,f,aa⟩,J⟩,by dsimp only;omega⟩
 ·rcases d with d|d
  ·have:k=M.length:=by omega
   rw[this,fN]at q;exact q
  ·subst d;simpa using q
 ·have:M.drop k= []:=by
   rcases d with d|d;·exact jJ bA
   ·subst d;simp
  rw[this,lR]at h1;exact h1
def r0{A U M V B:bU}(g:U.length=V.length)(q:s.n=(A++U++M++V++B).length)(p:(A++U++M++V++B).length<4611686018427387904)(h:Sep E (bC s 1 (bD (A++U++M++V++B))::L) w){a e n':Int}(o:a=A.length)(he:e=A.length+U.length+M.length)(j:n'=U.length):
  Calls P yY #[Sv s,Iv a,Iv e,Iv n',cmp] w (bW λv w'=>v=.tuple #[]/\Sep E (bC s 1 (bD (A++V++M++U++B))::L) w'):=by
 subst o he j;have hlen:(A++U++M++V++B).length=A.length+U.length+M.length+V.length+B.length:=by simp only[da]
 apply Zm;unfold NC qD qO qW;refine⟨λi w=>∃(k:Nat) (l':bU),i=k/\k<=U.length/\nu (A++U++M++V++B) l' A.length (A.length+U.length+M.length) k/\Sep E (bC s 1 (bD l')::L) w,λi _=>(U.length-i).toNat,⟨0,_,rfl,ec _,nu.zero _ _ _,h⟩,?_⟩;rintro _ i z ⟨k,l',rfl,u,d,h1⟩;have b:l'.length=s.n:=by rw[d.1,q]
 refine cL (λt=>Dr.i h1 (λw2 c=>?_)) (λr=>⟨rfl,?_⟩)
 ·rw[cH (n:=(A.length:Int)+U.length+M.length+k) bA bA,cH (n:=(A.length:Int)+k) bA bA,cH (n:=(k:Int)+1) bA bA];have hx:l'[A.length+U.length+M.length+k]?=some (l'[A.length+U.length+M.length+k]'bA):=dL;have f:l'[A.length+k]?=some (l'[A.length+k]'bA):=dL;generalize l'[A.length+U.length+M.length+k]'(bA)=x at hx;generalize l'[A.length+k]'(bA)=y at f;refine gP _ c b.symm bA hx (gP _ c b.symm bA f ?_);refine kh (A.length+k) c b.symm bA bA (λC l=>kh (A.length+U.length+M.length+k) l (by rw[dA];exact b.symm) bA (by rw[dA];omega) (λD m=>?_));exact⟨⟨k+1,_,bA,bA,d.step (n:=U.length) bA bA hx f,m⟩,by dsimp only;omega⟩
 ·have:k=U.length:=by omega
  subst this;rw[d.eq g]at h1;exact h1
def EP{A X Y B:bU}(q:1<=X.length)(r:1<=Y.length)(H:s.n=(A++X++Y++B).length)(u:(A++X++Y++B).length<4611686018427387904)(h:Sep E (bC s 1 (bD (A++X++Y++B))::L) w){a m e:Int}(t:a=A.length)(hm:m=A.length+X.length)(he:e=A.length+X.length+Y.length):
  Calls P Kr #[Sv s,Iv a,Iv m,Iv e,cmp] w (bW λv w'=>v=.tuple #[]/\Sep E (bC s 1 (bD (A++Y++X++B))::L) w'):=by
 subst t hm he;have hlen:(A++X++Y++B).length=A.length+X.length+Y.length+B.length:=by simp only[da]
 apply Zj;unfold Nz qE qI;rw[cH (n:=(A.length:Int)+X.length-A.length) bA bA,cH (n:=(A.length:Int)+X.length+Y.length-(A.length+X.length)) bA bA];refine⟨λi j w=>∃A' c b d:bU,i=c.length/\j=b.length/\1<=c.length/\1<=b.length/\A'.length+c.length=A.length+X.length/\A'++b++c++d=A++Y++X++B/\Sep E (bC s 1 (bD (A'++c++b++d))::L) w,
  λi j _=>(i+j).toNat,⟨A,X,Y,B,bA,bA,q,r,rfl,rfl,h⟩,?_⟩
 rintro _ i j I ⟨A',c,b,d,rfl,rfl,x,y,D,f,h1⟩;have C:A'.length+b.length+c.length+d.length=A.length+X.length+Y.length+B.length:=by
  have:=eO List.length f;simp only[da]at this;omega
 have F:s.n=A'.length+b.length+c.length+d.length:=by omega
 rw[cH (n:=(A.length:Int)+X.length-c.length) bA bA];refine gV (λG=>eW (λz=>?_) (λhle=>?_)) (λheq=>?_)
 ·
  have o:A'++c++b++d=A'++c.take b.length++c.drop b.length++b++d:=by rw[dc A' (c.take _),fA]
  have k:(c.take b.length).length=b.length:=by simp;omega
  have l:(c.drop b.length).length=c.length-b.length:=by simp
  rw[o]at h1;refine use (r0 (cmp:=cmp) k (by simp only[da,k,l];omega) (by simp only[da,k,l];omega) h1 bA bA bA) ?_;rintro _ w2 ⟨rfl,g⟩;rw[cH bA bA];refine⟨rfl,⟨A'++b,c.drop b.length,c.take b.length,d,bA,bA,bA,bA,by simp only[da];omega,?_,g⟩,by dsimp only;omega⟩;rw[<- f,dc (A'++b),fA]
 ·have o:A'++c++b++d=A'++c++b.take (b.length-c.length)++b.drop (b.length-c.length)++d:=by rw[dc (A'++c) (b.take _),fA]
  have k:(b.take (b.length-c.length)).length=b.length-c.length:=by simp
  have l:(b.drop (b.length-c.length)).length=c.length:=by simp;omega
  rw[o]at h1;rw[cH (n:=(A.length:Int)+X.length+b.length) bA bA,cH (n:=(A.length:Int)+X.length+b.length-c.length) bA bA];refine use (r0 (cmp:=cmp) l.symm (by simp only[da,k,l];omega) (by simp only[da,k,l];omega) h1 bA bA bA) ?_;rintro _ w2 ⟨rfl,g⟩;rw[cH bA bA];refine⟨rfl,⟨A',b.drop (b.length-c.length),b.take (b.length-c.length),c++d,bA,bA,bA,bA,bA,?_,?_⟩,by dsimp only;omega⟩;·rw[<- f,dc A' (b.take _),fA];simp
  ·have:A'++b.drop (b.length-c.length)++b.take (b.length-c.length)++c++d=A'++b.drop (b.length-c.length)++b.take (b.length-c.length)++(c++d):=by simp
   rw[<- this];exact g
 ·have p:c.length=b.length:=by omega
  have o:A'++c++b++d=A'++c++[]++b++d:=by simp
  rw[o]at h1;refine use (r0 (cmp:=cmp) p (by simp only[da,rb];omega) (by simp only[da,rb];omega) h1 bA (by simp only[rb];omega) bA) ?_;rintro _ w2 ⟨rfl,g⟩;refine⟨rfl,rfl,?_⟩;rw[<- f];have:A'++b++[]++c++d=A'++b++c++d:=by simp
  rw[this]at g;exact g
end
end Go.Mp
