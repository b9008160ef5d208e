/- A part of the proof. -/
import Derived.Test.YtafigbgagbolgaaGreatDoorF02
import Derived.Shelf.Slices.Clone
import Derived.Test.YtafigbgagbolgaaGreatDoorProg
set_option linter.all false
set_option maxRecDepth 100000
open Go.IntKind(i64 u64)
universe u
theorem cV{α:Sort u}{a b:α}(h:a=b:=by kernel_rfl):a=b:=h
open Go.Proofs.Tryz
namespace Go.Mp
open Go Go.Vc Go.Sp Go.Proofs Go.Kt
variable{E:Env}{L:cv}{w W:bH}
def yb:hi P mr=some (8,1,[Iv 0]):=by kernel_rfl
def sV{s:Sl}{q:Nat}{l:bR}{x:Int}(hn:s.n=l.length)(hb:l.length<100000000)(h:Sep E (bC q [Iv x]::bw s 1 (bD l)::L) w){G:Sl->bg0}(g:∀s' a,s'.n=(l++[x]).length->Sep E (bw s' 1 (bD (l++[x]))::L) a->G s' a):
  ∃d:Sl,∃a,Sem.run P (Builtin.append_ #[mr,mr] mr #[Sv s,.slice (some ⟨q,0,none⟩) 1 1]) w=.ok (Sv d) a/\G d a:=by
 have f:=Src.bC (n:=1) (c:=1) h (i:=0) rfl yb rfl (λu hu=>by simp at hu;rw[hu];rfl);have e:bD (l++[x])=bD l++[Iv x]:=by simp[bD]
 refine bw.append h.swap yb rfl f bu (by rw[hn];omega) (λs' a b h1=>?_);refine g s' a (by rw[b,hn];simp) ?_;rw[e];exact(h1.fr 0 rfl).ro 2 [0] rfl
def OI{f:bg7}{fi ca:cb bE}{o:bE->cb bE}{A A':Asn}{xs:bR}(has:∀y,o y=fi++ #[y]++ca)(hf:kN P f=true)(D:x4 P E f o A A' (xs.map (Value.int .i64)))(hb:xs.length<1000000)(h:Sep E (A::L) w):
  Calls P xy #[.func (.func f) fi ca] w (cA λv w'=>∃s:Sl,v=Sv s/\s.n=xs.length/\Sep E (bw s 1 (bD xs)::A'::L) w'):=by
 apply VQ;unfold Kr qJ;refine use (K:=λv w'=>∃s:Sl,v=Sv s/\s.n=xs.length/\Sep E (bw s 1 (bD xs)::A'::L) w') ?_ ?_;rotate_left
 ·rintro _ B ⟨s,rfl,hn,h1⟩;exact⟨s,rfl,s,rfl,hn,h1⟩
 apply We ⟨none,0,0⟩;unfold CW qc;refine Al.i h (λp B h1=>?_);have h1:Sep E (fe (λs:Sl=>cG (s.n=0) (star (bC p [Sv s]) (bw s 1 (bD []))))::A::L) B:=
  Sep.ex.2 ⟨⟨none,0,0⟩,Sep.cG.2 ⟨rfl,Sep.star.2 (bw.none_ (m:=1) h1).swap⟩⟩
 refine iy.iO has (τ:=fF) (ρ:=gL) (cz:=cz) (An:=sB) (yl:=CY) mixed bN bN Wg hf D
  (λk=>fe λs:Sl=>cG (s.n=(xs.take k).length) (star (bC p [Sv s]) (bw s 1 (bD (xs.take k))))) (λ_=>cG False emp) ?_ h1 ?_ ?_
 ·intro l r L' k x W R c g hx a u _;obtain⟨y,n,rfl⟩:∃y,xs[k]?=some y/\x=Iv y:=by
   rw[eI]at hx;cases hk:xs[k]? with
   |none=>rw[hk]at hx;cases hx
   |some y=>rw[hk]at hx;exact⟨y,rfl,(cU hx).symm⟩
  have I:=(c4.1 n).1;refine(Wf ⟨none,0,0⟩ _ ⟨p,0,none⟩ y l W R).mpr ?_;unfold Lj qC qc;refine lf.i a c (λw2 h2=>?_);obtain⟨s,h2⟩:=Sep.ex.1 h2.swap;obtain⟨hn,h2⟩:=Sep.cG.1 h2;have h2:=Sep.star.1 h2;refine⟨s,h2.cell 0,Al.i h2 (λq F d=>?_)⟩;have i:Sep E (bC q [Iv y]::bw s 1 (bD (xs.take k))::bC p [Sv s]::c8 l (.loop {r with state:=.busy})::L') F:=d.ro 4 [0,2,1,3] rfl;refine sV hn (by rw[hJ];omega) i (λs' J z C=>?_);refine St.i C.swap (by show 0<1;decide) (λG j=>?_);have j:Sep E (bC p [.slice s'.p s'.n s'.c]::bw s' 1 (bD (xs.take k++[y]))::c8 l (.loop {r with state:=.busy})::L') G:=j;refine e2.i (j.ro 3 [2,0,1] rfl) (λH t=>?_);have e:({ {r with state:=.busy} with state:=if(none:bW Code).isNone then .ready else .done,pending:=none} :Loop)=r:=by
   cases r;simp only at c g;subst c g;rfl
  rw[e]at t;refine u H (Sep.swap (Sep.ex.2 ⟨s',Sep.cG.2 ⟨?_,?_⟩⟩));·rw[z,mF,n];rfl
  ·rw[mF,n];exact Sep.star.2 (t.ro 3 [1,2,0] rfl)
 ·intro b W a;obtain⟨s,h2⟩:=Sep.ex.1 a.swap;obtain⟨hn,h2⟩:=Sep.cG.1 h2;have h2:=Sep.star.1 h2;rw[en,gg]at hn h2;have d:Sep E (c8 b (.deferred (some []))::bw s 1 (bD xs)::bC p [Sv s]::A'::L) W:=h2.ro 3 [2,1,0] rfl;have i:=(d.putObj (o':=.deferred none)).tail;exact⟨s,h2.cell 0,d.dk,s,rfl,hn,i.ro 2 [0] rfl⟩
 ·intro b k W _ a;exact(Sep.cG.1 a.swap).1.elim
def aEv{f:bg7}{ca:cb bE}{A A':Asn}{xs:bR}(hf:kN P f=true)(a:De P E f ca A A' (xs.map (Value.int .i64)))(hb:xs.length<1000000)(h:Sep E (A::L) w):
  Calls P xy #[.func (.func f) #[] ca] w (cA λv w'=>∃s:Sl,v=Sv s/\s.n=xs.length/\Sep E (bw s 1 (bD xs)::A'::L) w'):=OI (fi:= #[]) (λy=>by simp) hf a hb h
def u1:kN P sq=true:=by kernel_rfl
def u2{b:Nat}{g:Int}(h:Sep E L w):Calls P Bz #[Pb b,Iv g] w (cA λv w'=>∃a c,v=.func (.func sq) #[] #[Pb a,Pb c]/\
  Sep E (bC a [Pb b]::bC c [Iv g]::L) w'):=by
 apply VR;unfold Ks qC;exact Al.i h (λa d h1=>Al.i h1 (λc w2 h2=>⟨a,c,rfl,h2.swap⟩))
def pG{l:bA G}(hw:WF l)(g:Int):(dp l g).length<=64:=by
 unfold dp;split
 ·next h=>
  obtain⟨n,rfl,x,hx,_⟩:=iR.1 h;have a:=(c4.1 hx).1;rw[en,dz];have:=(z1 hw n a).2;have:=hw.e8;omega
 ·simp
def sW{b:Nat}{l:bA G}{g:Int}(hw:WF l)(h:Sep E (dR b l::L) w):Calls P q7 #[Pb b,Iv g] w (cA λv w'=>∃s:Sl,v=Sv s/\s.n=(dp l g).length/\
  Sep E (bw s 1 (bD (dp l g))::dR b l::L) w'):=by
 apply VG;unfold Kh qJ qN;refine use (u2 h) ?_;rintro _ i ⟨e,f,rfl,h1⟩;refine⟨_,rfl,?_⟩;have h2:Sep E (star (bC e [Pb b]) (star (bC f [Iv g]) (dR b l))::L) i:=by
  have a:=Sep.star.2 (h1.ro 3 [1,2,0] rfl);exact Sep.star.2 a.swap
 refine use (aEv u1 (OH hw) (by have:=pG hw g;omega) h2) ?_;rintro _ w2 ⟨s,rfl,hn,a⟩;refine⟨s,rfl,s,rfl,hn,?_⟩;have c:=Sep.star.1 a.swap;have d:=Sep.star.1 c.swap;exact d.ro 4 [3,1] rfl
def aIq{b:Nat}{l:bA G}{g:Int}(hw:WF l)(h:Sep E (dR b l::L) w):Calls P B2 #[Pb b,Iv g] w (cY E (Iv (Gy l g)) (dR b l::L)):=by
 apply W0;unfold CZ qC qD qN;refine Al.i h (λp C h1=>?_);refine St.i h1 (by show 0<1;decide) (λw2 h2=>?_);have h2:Sep E (bC p [Iv (-1)]::dR b l::L) w2:=h2;refine use (u2 h2) ?_;rintro _ A ⟨u,z,rfl,q⟩;refine⟨_,rfl,?_⟩;have hlen:=pG hw g;have s:Sep E (bC p [Iv (((0:Nat):Int)-1)]::star (bC u [Pb b]) (star (bC z [Iv g]) (dR b l))::L) A:=by
  have c:=Sep.star.2 (q.ro 4 [1,3,0,2] rfl);exact(Sep.star.2 c.swap).swap
 refine iy.i (τ:=fF) (ρ:=gL) (cz:=cz) (An:=sC) (yl:=C3) mixed bN bN W2 u1 (OH hw)
  (λk=>bC p [Iv ((k:Int)-1)]) (λ_=>cG False emp) ?_ s ?_ ?_
 ·intro t r L' k x W R d j hx a m _;have hk:k<(dp l g).length:=by have:=(c4.1 hx).1;rwa[en]at this
  obtain⟨y,rfl⟩:∃y,x=Iv y:=by
   rw[eI]at hx;cases hk:(dp l g)[k]? with
   |none=>rw[hk]at hx;cases hx
   |some y=>rw[hk]at hx;exact⟨y,(cU hx).symm⟩
  refine(W1 _ g ⟨p,0,none⟩ _ y t W R).mpr ?_;unfold LV qD;refine lf.i a d (λD c=>?_);refine⟨_,c.cellAt 1 rfl 0,?_⟩;refine St.i c.swap (by show 0<1;decide) (λF f=>?_);have o:i64.wrap ((k:Int)-1+1)=((k+1:Nat):Int)-1:=by rw[cR bu bu];omega
  rw[o]at f;refine e2.i f.swap (λB i=>?_);have e:({ {r with state:=.busy} with state:=if(none:bW Code).isNone then .ready else .done,pending:=none} :Loop)=r:=by
   cases r;simp only at d j;subst d j;rfl
  rw[e]at i;exact m B i
 ·intro n W a;rw[en]at a;have c:=(a.putObj (o':=.deferred none)).tail;refine⟨_,a.cellAt 1 rfl 0,a.dk,rfl,?_⟩;have f:=Sep.star.1 c.tail;have i:=Sep.star.1 f.swap;exact i.ro 3 [1] rfl
 ·intro n k W _ a;exact(Sep.cG.1 a.swap).1.elim
end Go.Mp
namespace Go.Kv
open Go Go.Vc Go.Sp
def kC:(n:Nat)->RT n->Nat->bA Nat
 |0,ws,a=>(List.range 16).flatMap λd=>if(List.getD (ws:bA (bW Nat)) d none).isSome then[a*16+d]else[]
 |n+1,ks,a=>(List.range 16).flatMap λd=>match List.getD (ks:bA (bW (Nat×RT n))) d none with
  |none=>[]
  |some (_,s)=>kC n s (a*16+d)
def hQ:(n:Nat)->RT n->Nat->Nat->bA Nat
 |0,ws,a,d=>if(List.getD (ws:bA (bW Nat)) d none).isSome then[a*16+d]else[]
 |n+1,ks,a,d=>match List.getD (ks:bA (bW (Nat×RT n))) d none with
  |none=>[]
  |some (_,s)=>kC n s (a*16+d)
def rj(n:Nat)(t:RT n)(a:Nat):kC n t a=(List.range 16).flatMap (hQ n t a):=by cases n<;>rfl
def slot:(n:Nat)->RT n->Nat->Bool
 |0,ws,d=>(List.getD (ws:bA (bW Nat)) d none).isSome
 |n+1,ks,d=>(List.getD (ks:bA (bW (Nat×RT n))) d none).isSome
end Go.Kv
namespace Go.Mp
open Go Go.Vc Go.Sp Go.Proofs Go.Kc Go.Kv
variable{E:Env}{L:cv}{w W:bH}
def OJ{n d a:Nat}{t:RT n}(h:slot n t d=false):hQ n t a d= []:=by
 cases n with
 |zero=>
  have h:(List.getD (t:bA (bW Nat)) d none).isSome=false:=h;show(if(List.getD (t:bA (bW Nat)) d none).isSome then[a*16+d]else[])= []
  rw[h];rfl
 |succ n=>
  have h:(List.getD (t:bA (bW (Nat×RT n))) d none).isSome=false:=h;show(match List.getD (t:bA (bW (Nat×RT n))) d none with|none=>[]|some (_,s)=>kC n s (a*16+d))= []
  cases hk:List.getD (t:bA (bW (Nat×RT n))) d none with
  |none=>rfl
  |some y=>rw[hk]at h;cases h
def OK{n d:Nat}{t:RT n}(a:RT.ok n t)(b:d<16):∃h:Nat,h<65536/\(RT.vs n t)[32]?=some (.int .u16 (h:Int))/\h/2^d%2=if slot n t d then 1 else 0:=by
 have gd:∀ {α:Type} (l:bA (bW α)),(l.map Option.isSome).getD d false=(l.getD d none).isSome:=by
  intro α l;rw[dT,eI,dT];cases l[d]? with
  |none=>rfl
  |some y=>rfl
 cases n with
 |zero=>
  obtain⟨ws,rfl⟩:∃ws:bA (bW Nat),ws=t:=⟨t,rfl⟩
  have hl:ws.length=16:=a;refine⟨hasB (ws.map Option.isSome),?_,oM n0 hl,?_⟩
  ·have:=oI (ws.map Option.isSome);rw[en,hl]at this;exact this
  ·rw[uz,gd];rfl
 |succ n=>
  obtain⟨ks,rfl⟩:∃ks:bA (bW (Nat×RT n)),ks=t:=⟨t,rfl⟩
  have hl:ks.length=16:=a.1;refine⟨hasB (ks.map Option.isSome),?_,oM (by rw[en];exact hl) n0,?_⟩
  ·have:=oI (ks.map Option.isSome);rw[en,hl]at this;exact this
  ·rw[uz,gd];rfl
def OL{a d:Nat}(c:a<4096)(f:d<16):iU .i64 (i64.wrap ((a:Int)*2^(min (4:Int).toNat 64))) (d:Int)=((a*16+d:Nat):Int):=by
 have e:i64.wrap ((a:Int)*2^(min (4:Int).toNat 64))=((a*16:Nat):Int):=by
  rw[show((a:Int)*2^(min (4:Int).toNat 64))=((a*16:Nat):Int) by rw[tF];rfl];exact cR bu bu
 rw[e];have h1:(BitVec.ofInt 64 ((a*16:Nat):Int) ||| BitVec.ofInt 64 (d:Int)).toNat=a*16+d:=by
  rw[BitVec.toNat_or,pX,pX,tw,tw,mI bu,mI bu];have:=FM (i:=4) (b:=d) bu a;rw[wm a 16];exact this.symm
 show i64.wrap ((BitVec.ofInt 64 ((a*16:Nat):Int) ||| BitVec.ofInt 64 (d:Int)).toNat:Int)=_;rw[h1];exact cR bu bu
def aGx{n b d a:Nat}{t:RT (n+1)}{s:RT n}(hk:gM t d=some (a,s))(L:cv):(dH (n+1) b t++L).Perm (dH n a s++(bC b (RT.vs (n+1) t)::(j5 n (t:bA (bW (Nat×RT n))) d++L))):=by
 obtain⟨ks,rfl⟩:∃ks:bA (bW (Nat×RT n)),ks=t:=⟨t,rfl⟩
 have c:ks[d]?=some (some (a,s)):=by
  have h1:ks.getD d none=some (a,s):=hk;rw[dT]at h1;cases h2:ks[d]? with
  |none=>rw[h2]at h1;cases h1
  |some y=>rw[h2]at h1;exact eK some h1
 show((bC b (RT.vs (n+1) ks)::List.flatMap (e1 n) ks)++L).Perm _;rw[se c];unfold j5;show((bC b (RT.vs (n+1) ks)::(List.flatMap (e1 n) (ks.take d)++(dH n a s++List.flatMap (e1 n) (ks.drop (d+1)))))++L).Perm _;generalize List.flatMap (e1 n) (ks.take d)=A;generalize List.flatMap (e1 n) (ks.drop (d+1))=B;generalize dH n a s=C;generalize bC b (RT.vs (n+1) ks)=X;simp only[o4,dm];refine(List.Perm.cons X ?_).trans jc.symm;have h1:=rF (B++L) (lZ (l₁:=A) (l₂:=C));rwa[dm,dm]at h1
def sX{n b d a:Nat}{t:RT (n+1)}{s:RT n}(hk:gM t d=some (a,s))(J:Asn)(L:cv):(dH (n+1) b t++J::L).Perm (dH n a s++J::(bC b (RT.vs (n+1) t)::(j5 n (t:bA (bW (Nat×RT n))) d++L))):=
 (aGx hk (J::L)).trans (o0 _ (jc (l₁:=bC b (RT.vs (n+1) t)::j5 n (t:bA (bW (Nat×RT n))) d)))
def u3{α:Type}(f:Nat->bA α)(d:Nat):(List.range (d+1)).flatMap f=(List.range d).flatMap f++f d:=by
 rw[Gj,F3];simp
def OM{α:Type}(f:Nat->bA α){d n:Nat}(h:d<n):∃r,(List.range n).flatMap f=(List.range d).flatMap f++(f d++r):=by
 induction n with
 |zero=>omega
 |succ n a=>
  rw[u3];by_cases e:d=n;·subst e;exact⟨[],by rw[hs]⟩
  ·obtain⟨r,hr⟩:=a bu;exact⟨r++f n,by rw[hr];simp⟩
def aIJ:∀(m:Nat) {b a k0 l:Nat} {t:RT m} {xs:bA bE} {J X:Nat->Asn} {L:cv} {w:bH},m<=3->RT.ok m t->a<16^(3-m)->(∀i p,(kC m t a)[i]?=some p->xs[k0+i]?=some (Iv (p:Nat)))->
  (∀k x W,xs[k]?=some x->Sep E (dH m b t++J k::L) W->YieldAt Fence.wide 0 P l #[x] W (λe N=>(e=.returned (.bool true)/\Sep E (dH m b t++J (k+1)::L) N)\/(e=.returned (.bool false)/\Sep E (dH m b t++X k::L) N)))->
  Sep E (dH m b t++J k0::L) w->
  Calls P xH #[Pb b,Iv ((3-m:Nat):Int),Iv (a:Nat),.func (.yield l) #[] #[]] w (cA λv w'=>
   (v=.bool true/\Sep E (dH m b t++J (k0+(kC m t a).length)::L) w')\/(v=.bool false/\∃k,k<k0+(kC m t a).length/\Sep E (dH m b t++X k::L) w')):=by
 intro m;induction m with
 |zero=>
  intro b a k0 l t xs J X L w hm H O I M h;apply On;unfold x7 qF qO qb;have C:a<4096:=O;refine⟨λx w'=>∃d:Nat,x=d/\d<=16/\Sep E (dH 0 b t++J (k0+((List.range d).flatMap (hQ 0 t a)).length)::L) w',λx _=>(16-x).toNat,⟨0,rfl,bu,h⟩,?_⟩;rintro _ _ ah ⟨d,rfl,ae,h1⟩;refine cX (λU=>?_) (λS=>?_)
  ·have c:d<16:=by omega
   obtain⟨hb,R,D,F⟩:=OK H c;have G:=pF (j:=32) h1;rw[D]at G;refine⟨bN,_,rfl,_,by rw[cj,fy];exact G,by rw[ds];omega,?_⟩;rw[ds (n:=d) bu,dz,show min d 16=d by omega,sh,rh,F];have g:((16:Int)-((d+1:Nat):Int)).toNat<((16:Int)-(d:Int)).toNat:=by omega
   cases f:slot 0 t d with
   |false=>
    refine bT rfl ⟨rfl,?_,?_⟩
    ·refine⟨d+1,de,bu,?_⟩;rw[u3,OJ f,hs];exact h1
    ·rw[de];exact g
   |true=>
    refine bF rfl (bF rfl ⟨l,rfl,?_⟩);rw[OL C c];have o:hQ 0 t a d= [a*16+d]:=by
     have f:(List.getD (t:bA (bW Nat)) d none).isSome=true:=f;show(if(List.getD (t:bA (bW Nat)) d none).isSome then[a*16+d]else[])=_;rw[f];rfl
    obtain⟨r,hr⟩:=OM (hQ 0 t a) c;rw[<- rj,o]at hr;have hx:=I ((List.range d).flatMap (hQ 0 t a)).length (a*16+d) (by rw[hr,fR (ep _),jd];rfl);obtain⟨fn,tmps,B,body,A,u⟩:=M _ _ _ hx h1;refine⟨fn,tmps,B,body,A,u.mono λe Z he=>?_⟩;rcases he with⟨rfl,z⟩|⟨rfl,z⟩
    ·refine⟨true,rfl,bF rfl ⟨rfl,⟨d+1,de,bu,?_⟩,?_⟩⟩
     ·rw[u3,o,dg];exact z
     ·rw[de];exact g
    ·refine⟨false,rfl,bT rfl (.inr ⟨rfl,_,?_,z⟩)⟩;rw[hr,dg,dg,l1];omega
  ·have:d=16:=by omega
   subst this;rw[<- rj]at h1;exact .inl ⟨rfl,h1⟩
 |succ m ag=>
  intro b a k0 l t xs J X L w hm H O I M h;apply On;unfold x7 qF qO qb;have C:a<4096:=by
   have:(16:Nat)^(3-(m+1))<=16^3:=tu bN bu;have e:(16:Nat)^3=4096:=rfl;omega
  refine⟨λx w'=>∃d:Nat,x=d/\d<=16/\Sep E (dH (m+1) b t++J (k0+((List.range d).flatMap (hQ (m+1) t a)).length)::L) w',λx _=>(16-x).toNat,⟨0,rfl,bu,h⟩,?_⟩;rintro _ _ ah ⟨d,rfl,ae,h1⟩;refine cX (λU=>?_) (λS=>?_)
  ·have c:d<16:=by omega
   obtain⟨hb,R,D,F⟩:=OK H c;have G:=pF (j:=32) h1;rw[D]at G;refine⟨bN,_,rfl,_,by rw[cj,fy];exact G,by rw[ds];omega,?_⟩;rw[ds (n:=d) bu,dz,show min d 16=d by omega,sh,rh,F];have g:((16:Int)-((d+1:Nat):Int)).toNat<((16:Int)-(d:Int)).toNat:=by omega
   cases f:slot (m+1) t d with
   |false=>
    refine bT rfl ⟨rfl,?_,?_⟩
    ·refine⟨d+1,de,bu,?_⟩;rw[u3,OJ f,hs];exact h1
    ·rw[de];exact g
   |true=>
    have f:(gM t d).isSome=true:=f;cases hk:gM t d with
    |none=>rw[hk]at f;cases f
    |some y=>
    obtain⟨Y,s⟩:=y;have V:=uY H c;rw[hk]at V;have K:=pF (j:=d) h1;rw[V]at K;refine bF rfl (bT (by rw[gE];omega) ⟨_,rfl,_,rfl,⟨bu,bu⟩,?_⟩);rw[cj,cj,dz,show 0+0+d*1=d by omega];refine⟨_,K,?_⟩;have o:hQ (m+1) t a d=kC m s (a*16+d):=by
     have hk:List.getD (t:bA (bW (Nat×RT m))) d none=some (Y,s):=hk;show(match List.getD (t:bA (bW (Nat×RT m))) d none with|none=>[]|some (_,s)=>kC m s (a*16+d))=_;rw[hk]
    obtain⟨r,hr⟩:=OM (hQ (m+1) t a) c;rw[<- rj,o]at hr;have aa:i64.wrap (((3-(m+1):Nat):Int)+1)=((3-m:Nat):Int):=by rw[de];omega
    have Q:a*16+d<16^(3-m):=by
     have e:(16:Nat)^(3-m)=16^(3-(m+1))*16:=by rw[<- p3];congr 1;omega
     rw[e];omega
    rw[aa,OL C c];have T:=h1.perm (sX hk _ _);refine use (ag (b:=Y) (a:=a*16+d) (t:=s) (xs:=xs) (X:=X) bu (x8 H hk) Q (λi p hp=>?_) (λk x W hx ad=>?_) T) ?_
    ·rw[tH];refine I _ p ?_;rw[hr,fR bu,tt];have af:=(c4.1 hp).1;rw[eN af];exact hp
    ·obtain⟨fn,tmps,B,body,A,u⟩:=M k x W hx (ad.perm (sX hk _ _).symm);exact⟨fn,tmps,B,body,A,u.mono λe Z he=>he.imp (λq=>⟨q.1,q.2.perm (sX hk _ _)⟩) (λq=>⟨q.1,q.2.perm (sX hk _ _)⟩)⟩
    ·rintro _ Z (⟨rfl,z⟩|⟨rfl,k,ai,z⟩)
     ·have ab:=z.perm (sX hk _ _).symm;refine⟨true,rfl,bF rfl ⟨rfl,⟨d+1,de,bu,?_⟩,?_⟩⟩
      ·rw[u3,o,dg,<- tH];exact ab
      ·rw[de];exact g
     ·refine⟨false,rfl,bT rfl (.inr ⟨rfl,k,?_,z.perm (sX hk _ _).symm⟩)⟩;rw[hr,dg,dg];omega
  ·have:d=16:=by omega
   subst this;rw[<- rj]at h1;exact .inl ⟨rfl,h1⟩
end Go.Mp
namespace Go.Mp
open Go Go.Vc Go.Sp Go.Proofs Go.Kc
variable{E:Env}{L:cv}{w W:bH}
def ON:hi P mr=some (8,1,[Iv 0]):=by kernel_rfl
def OO{s:Sl}{q:Nat}{l:bR}{x:Int}(hn:s.n=l.length)(hb:l.length<100000000)(h:Sep E (bC q [Iv x]::bw s 1 (bD l)::L) w){G:Sl->bg0}(g:∀s' a,s'.n=(l++[x]).length->Sep E (bw s' 1 (bD (l++[x]))::L) a->G s' a):
  ∃d:Sl,∃a,Sem.run P (Builtin.append_ #[mr,mr] mr #[Sv s,.slice (some ⟨q,0,none⟩) 1 1]) w=.ok (Sv d) a/\G d a:=by
 have f:=Src.bC (n:=1) (c:=1) h (i:=0) rfl ON rfl (λu hu=>by simp at hu;rw[hu];rfl);have e:bD (l++[x])=bD l++[Iv x]:=by simp[bD]
 refine bw.append h.swap ON rfl f bu (by rw[hn];omega) (λs' a b h1=>?_);refine g s' a (by rw[b,hn];simp) ?_;rw[e];exact(h1.fr 0 rfl).ro 2 [0] rfl
def ll(k:Int×Int):bE:=.agg #[Iv k.1,Iv k.2]
def aFb(a b:Int×Int)(h:ll a=ll b):a=b:=by
 obtain⟨c,d⟩:=a;obtain⟨b1,b2⟩:=b;simpa[ll]using h
def OP:h3 P w8 ll:=h3.agg (d:=3) (l:=[.int .i64,.int .i64]) aFb cV bN cV (λk=>by
 unfold Typed;rw[show ei P w8=some true by kernel_rfl];exact⟨_,rfl,⟨_,rfl⟩,⟨_,rfl⟩,trivial⟩)
def hE(t:bA UInt8):bE:=.string ⟨t.toArray⟩
def iA(b:Nat)(F:FS):Asn:=fe λs:Sl=>fe λm:Nat=>fe λwr:Int=>cG (s.n=F.bY.length/\F.bY.length<=32)
 (star (bC b [Sv s,.map (some m),Iv wr]) (star (bw s 1 (bD F.bY)) (cE m ll (λk=>(F.bt k).map hE))))
def iA.get{b:Nat}{F:FS}(h:Sep E (iA b F::L) w):∃(s:Sl) (m:Nat) (wr:Int),s.n=F.bY.length/\F.bY.length<=32/\
  Sep E (bC b [Sv s,.map (some m),Iv wr]::bw s 1 (bD F.bY)::cE m ll (λk=>(F.bt k).map hE)::L) w:=by
 obtain⟨s,h⟩:=Sep.ex.1 h;obtain⟨m,h⟩:=Sep.ex.1 h;obtain⟨wr,h⟩:=Sep.ex.1 h;obtain⟨hn,h⟩:=Sep.cG.1 h;have h1:=(Sep.star.1 h).swap;exact⟨s,m,wr,hn.1,hn.2,(Sep.star.1 h1).ro 3 [2,0,1] rfl⟩
def iA.mk{b m:Nat}{F:FS}{s:Sl}{wr:Int}(hn:s.n=F.bY.length)(a:F.bY.length<=32)(h:Sep E (bC b [Sv s,.map (some m),Iv wr]::bw s 1 (bD F.bY)::cE m ll (λk=>(F.bt k).map hE)::L) w):Sep E (iA b F::L) w:=
 Sep.ex.2 ⟨s,Sep.ex.2 ⟨m,Sep.ex.2 ⟨wr,Sep.cG.2 ⟨⟨hn,a⟩,Sep.star.2 (Sep.swap (Sep.star.2 (h.ro 3 [1,2,0] rfl)))⟩⟩⟩⟩
variable{b:Nat}{F:FS}
def aAg{q:Nat}(h:Sep E L w)(a:L[q]?=some (iA b F)):Calls P IM #[Pb b] w (cA λv w'=>v=Iv (F.bY.length:Nat)/\w'=w):=by
 apply WC;unfold K2 qK;obtain⟨s,m,wr,hn,c,h1⟩:=iA.get (h.fr q a);refine⟨_,rfl,s,h1.cell 0,?_,rfl⟩;rw[hn]
def OQ{q:Nat}(h:Sep E L w)(j:L[q]?=some (iA b F))(f:Int):Calls P BL #[Pb b,Iv f] w (cA λv w'=>v=Iv (np F f)/\w'=w):=by
 apply WD;unfold K3 qD qK qW qg;obtain⟨s,m,wr,hn,k,h1⟩:=iA.get (h.fr q j);unfold np;refine⟨λw'=>w'=w/\0<=f/\f<F.bY.length,cX (λc=>⟨by rw[bL (.inl c)],rfl⟩) (λc=>⟨_,rfl,s,h1.cell 0,hD (λi=>⟨by rw[bL (.inr bu)],rfl⟩) (λi=>⟨rfl,c,bu⟩)⟩),?_⟩;rintro _ w2 ⟨rfl,e,d⟩;refine⟨_,rfl,s,h1.cell 0,mu 1 h1 rfl hn e d (λa g=>⟨_,g,?_,rfl⟩)⟩;rw[cF]
def OR{q:Nat}(h:Sep E L w)(a:L[q]?=some (iA b F))(k:Int×Int):Calls P xQ #[Pb b,ll k] w (cY E (.bool (ej F k)) L):=by
 show Calls P xQ #[Pb b,.agg #[Iv k.1,Iv k.2]] w _;apply Ya;unfold Mo qL qQ zH;refine Al.i h (λp d h1=>Dr.i h1 (λw2 h2=>⟨_,by rw[cj];exact h2.cell 1,h4 (λhle=>?_) (λc=>?_)⟩))
 ·refine⟨_,by rw[cj];exact h2.cell 1,_,by rw[cj];exact h2.cell 0,use (OQ (q:=q+1) h2 (by simpa using a) k.1) ?_⟩;rintro _ e ⟨rfl,rfl⟩;refine⟨_,rfl,_,by rw[cj];exact h2.cell 1,rfl,?_,h2.tail⟩;unfold ej;rw[dE hle];rfl
 ·refine⟨?_,h2.tail⟩;unfold ej;rw[di bu];rfl
def rk(n:Int):IntKind.u8.wrap n=n%256:=by unfold IntKind.wrap;simp[IntKind.signed,IntKind.bits]
def aHK(n:Int):((mg n).toNat:Int)=n%256:=by
 unfold mg;rw[UInt8.toNat_ofNat'];omega
def aAh(k:Int×Int)(h:Sep E L w):Calls P CD #[ll k] w (cY E (hE (nq k)) L):=by
 show Calls P CD #[.agg #[Iv k.1,Iv k.2]] w _;apply Yb;unfold Mq qO zD zZ;refine Al.i h (λp r h1=>Al.i h1 (λp2 w2 h2=>?_));refine⟨_,by rw[cj];exact h2.cellAt 1 rfl 0,_,by rw[cj];exact h2.cellAt 1 rfl 1,?_⟩;have h2:Sep E (bC p2 (g9 (List.replicate 16 0))::L) w2:=by
  have e:g9 (List.replicate 16 0)= [.int .u8 0,.int .u8 0,.int .u8 0,.int .u8 0,.int .u8 0,.int .u8 0,.int .u8 0,.int .u8 0,.int .u8 0,.int .u8 0,.int .u8 0,.int .u8 0,.int .u8 0,.int .u8 0,.int .u8 0,.int .u8 0]:=by simp[g9,List.replicate]
  rw[e];exact h2.ro 2 [0] rfl
 refine⟨λx w'=>∃j:Nat,x=j/\j<=16/\Sep E (bC p2 (g9 ((nq k).take j++List.replicate (16-j) 0))::L) w',λx _=>(16-x).toNat,⟨0,rfl,bu,by rw[wj,l3];exact h2⟩,?_⟩;rintro _ x s ⟨j,rfl,q,a⟩;have hl:(nq k).length=16:=by simp[nq]
 refine cX (λo=>?_) (λn=>?_)
 ·have d:j<16:=by omega
  refine⟨_,rfl,⟨bu,bu⟩,ef.j a (by simp;omega) (λu c=>?_)⟩;refine⟨⟨j+1,de,bu,?_⟩,by dsimp only;rw[de];omega⟩;have e:(g9 ((nq k).take j++List.replicate (16-j) 0)).set (0+((j:Nat):Int).toNat*1) (.int .u8 (IntKind.u8.wrap ((IntKind.u8.wrap ((IntKind.u8.wrap ((IntKind.u8.wrap k.1)*31))+(IntKind.u8.wrap ((IntKind.u8.wrap k.2)*7))))+(IntKind.u8.wrap ((j:Nat):Int)))))=g9 ((nq k).take (j+1)++List.replicate (16-(j+1)) 0):=by
   rw[fy,fM,dz];have l:(nq k)[j]?=some (mg (31*k.1+7*k.2+(j:Int))):=by unfold nq;rw[eI,m9 d];rfl
   rw[fL l];unfold g9;rw[kK,kK,kK,ju _ _ (by simp;omega)];rw[show j-((List.take j (nq k)).map λb=>Value.int .u8 (b.toNat:Int)).length=0 by simp;omega,show 16-j=(16-(j+1))+1 by omega,oe,kd,y4,dm];congr 1;simp only[kd,List.map_nil,List.singleton_append];congr 2;rw[aHK,rk,rk,rk,rk,rk,rk,rk];omega
  rw[e]at c;exact c
 ·have:j=16:=by omega
  subst this;rw[iq bu,jd,F0,hs]at a;refine⟨_,λw' g=>?_,rfl,a.tail⟩;have c:=a.grow g;obtain⟨e,m,q2⟩:=AP (P:=P) (t:=sm) cV;have:=run_convert_bytes_back (P:=P) w' sm Be e ⟨p2,0,none⟩ (16-0) (nq k) m q2 cV (λi f=>by rw[cj,c.cell,fy,ug,dL f];rfl);rw[hl]at this;exact this
def OS(k:Int×Int)(h:Sep E (iA b F::L) w):Calls P xN #[Pb b,ll k] w
  (cY E (.tuple #[hE (rZ F k).1,Iv (rZ F k).2]) (iA b F::L)):=by
 show Calls P xN #[Pb b,.agg #[Iv k.1,Iv k.2]] w _;apply Xw;unfold LJ qF qM zJ zZ;refine Al.i h (λp j h1=>⟨_,by rw[cj];exact h1.cell 0,_,by rw[cj];exact h1.cell 1,use (OR (q:=1) h1 rfl k) ?_⟩);rintro _ w2 ⟨rfl,h2⟩;refine⟨_,rfl,?_⟩;unfold rZ;cases i:ej F k with
 |false=>exact eB ⟨rfl,h2.tail⟩
 |true=>
  refine dG (Dr.i h2 (λf c=>?_));obtain⟨s,m,wr,hn,g,d⟩:=iA.get c.swap;have a:Sep E (bC p [Iv k.1,Iv k.2]::iA b F::L) f:=c;refine⟨_,rfl,some m,by rw[cj];exact d.cell 1,_,by rw[cj];exact a.cell 0,_,by rw[cj];exact a.cell 1,?_⟩;have hl:=gr.i true 2 d rfl OP (t:=Vp) (z:=.string ⟨#[]⟩) cV k;cases hp:F.bt k with
  |some t=>
   simp only[hp,gh,mH,F8]at hl;exact⟨_,_,hl,eB ⟨rfl,a.tail⟩⟩
  |none=>
   simp only[hp,Option.map_none,Option.getD_none,Tl]at hl;refine⟨_,_,hl,dG ⟨_,by rw[cj];exact a.cell 0,_,by rw[cj];exact a.cell 1,use (aAh k a) ?_⟩⟩;rintro _ l ⟨rfl,e⟩;exact⟨_,rfl,rfl,e.tail⟩
def aAi(k:Int×Int)(t:bA UInt8)(h:Sep E (iA b F::L) w):Calls P Co #[Pb b,ll k,hE t] w
  (cY E (Iv (nr F k t).2) (iA b (nr F k t).1::L)):=by
 show Calls P Co #[Pb b,.agg #[Iv k.1,Iv k.2],.string ⟨t.toArray⟩] w _;apply XD;unfold LR qF qL qM zZ;refine Al.i h (λp y h1=>⟨_,by rw[cj];exact h1.cell 0,_,by rw[cj];exact h1.cell 1,use (OR (q:=1) h1 rfl k) ?_⟩);rintro _ w2 ⟨rfl,h2⟩;refine⟨_,rfl,?_⟩;unfold nr;have j:(⟨t.toArray⟩:ByteArray).size=t.length:=by show t.toArray.size=_;simp
 rw[j];cases u:ej F k with
 |false=>exact eB ⟨rfl,h2.tail⟩
 |true=>
  refine dG (iz (λr=>?_) (λhe=>?_))
  ·have c:t.length≠16:=by omega
   rw[bJ bN,bL c];exact⟨rfl,h2.tail⟩
  ·have i:¬ t.length≠16:=by omega
   rw[bJ bN,bJ i];refine Dr.i h2 (λA l=>?_);obtain⟨s,m,wr,hn,d,a⟩:=iA.get l.swap;refine⟨_,rfl,some m,by rw[cj];exact a.cell 1,_,by rw[cj];exact a.cellAt 3 rfl 0,_,by rw[cj];exact a.cellAt 3 rfl 1,?_⟩;refine mapUpdate.i (a.ro 4 [2,0,1,3] rfl) OP (z:=.string ⟨#[]⟩) cV k _ (λB f=>?_);refine⟨_,rfl,wr,by rw[cj];exact(f.cellAt 1 rfl _).trans rfl,_,rfl,?_⟩;refine ef.j f.swap (show 0+2<3 by decide) (λo n=>⟨rfl,?_⟩);have g:Sep E (bC b [Sv s,.map (some m),Iv (i64.wrap (wr+1))]::cE m ll (cL (λk=>(F.bt k).map hE) k (some (hE t)))::bw s 1 (bD F.bY)::bC p [Iv k.1,Iv k.2]::L) o:=n;have e:(cL (λk=>(F.bt k).map hE) k (some (hE t)))= λx=>((λx=>if x=k then some t else F.bt x) x).map hE:=by
    funext x;unfold cL;dsimp only;split<;>rfl
   rw[e]at g;exact iA.mk (F:={F with bt:=λx=>if x=k then some t else F.bt x}) hn d (g.ro 4 [0,2,1] rfl)
def aDx{s:Sl}{l:bR}(n:Ints E L s l)(C:s.n<=s.c)(h:Sep E L w):Calls P Br #[Sv s] w (cA λv w'=>∃b,v=Pb b/\Sep E (iA b (gT l)::L) w'):=by
 apply VJ;unfold Kk qC qD qK qO;have hn:=n.1;refine cE.new (enc:=ll) h (λm N h1=>Al.i h1 (λp w2 h2=>?_));have hm:min1 ((s.n:Nat):Int) 32=((min l.length 32:Nat):Int):=by unfold min1;split<;>omega
 rw[hm];refine⟨⟨bu,bu⟩,?_⟩;simp only[dz,Gw];have o:(gT l).bY.length=min l.length 32:=by simp[gT];omega
 refine⟨λx w'=>∃j:Nat,x=j/\j<=min l.length 32/\∃t:Sl,t.n=((gT l).bY.take j).length/\Sep E (bw t 1 (bD ((gT l).bY.take j))::bC p [Sv t,.map (some m),Iv 0]::cE m ll (λ_=>none)::L) w',
  λx _=>(min l.length 32-x).toNat,⟨0,rfl,e7 _,⟨none,0,0⟩,rfl,bw.none_ h2⟩,?_⟩
 rintro _ x G ⟨j,rfl,M,t,i,c⟩;refine cX (λK=>?_) (λI=>?_)
 ·have J:j<min l.length 32:=by omega
  obtain⟨y,u⟩:∃y,l[j]?=some y:=⟨_,dN⟩
  obtain⟨a,B,d⟩:=(n.cons.cons.cons (A:=bw t 1 (bD ((gT l).bY.take j)))).2 G c j y u;have r:(gT l).bY[j]?=some (min (max y 0) 4096):=by unfold gT;rw[eI,o2,eJ,u];rfl
  refine⟨a.add 0,?_,⟨bu,bu⟩,?_⟩
  ·unfold gj;split;·omega
   ·rw[B];simp
  ·refine⟨y,?_,_,rfl,t,by rw[cj];exact c.cellAt 1 rfl 0,Al.i c (λq H g=>?_)⟩
   ·rw[dz,fM];have:((a.add 0).add j)=a.add j:=by cases a;unfold Addr.add;simp
    rw[this];exact d
   ·have e:min1 (ea y 0) 4096=min (max y 0) 4096:=by unfold min1 ea;split<;>split<;>omega
    have g:Sep E (bC q [Iv (min (max y 0) 4096)]::bw t 1 (bD ((gT l).bY.take j))::bC p [Sv t,.map (some m),Iv 0]::cE m ll (λ_=>none)::L) H:=by rw[<- e];exact g
    refine OO i (by rw[hJ];omega) g (λD O f k=>?_);rw[<- fL r]at f k;refine⟨_,rfl,?_⟩;refine ef.j k.swap (show 0+0<3 by decide) (λQ z=>?_);exact⟨⟨j+1,de,bu,D,f,z.swap⟩,by dsimp only;rw[de];omega⟩
 ·have:j=min l.length 32:=by omega
  subst this;have e:(gT l).bY.take (min l.length 32)=(gT l).bY:=iq bu;rw[e]at i c;exact⟨p,rfl,iA.mk (F:=gT l) i (by rw[o];omega) (c.ro 3 [1,0,2] rfl)⟩
def c6:bA Nat->Nat
 |[]=>0
 |k::l=>k+c6 l
def u4:∀(a b:bA Nat),c6 (a++b)=c6 a+c6 b
 |[],b=>by simp[c6]
 |x::a,b=>by show x+c6 (a++b)=x+c6 a+c6 b;rw[u4 a b];omega
def Dy(l:bA Nat)(k:Nat):c6 (l.take k)<=c6 l:=by
 have:=u4 (l.take k) (l.drop k);rw[fK]at this;omega
def ints(l:bA Nat):bR:=l.map Int.ofNat
def u5{l:bA Nat}{k x:Nat}(h:l[k]?=some x):(ints l)[k]?=some (x:Int):=by unfold ints;rw[eI,h];rfl
def sY(l:bA Nat):(ints l).length=l.length:=by simp[ints]
def OT{s:Sl}{ws:bA Nat}(d:Ints E L s (ints ws))(c:∀k∈ws,k<=62)(i:c6 ws<=64)(hb:ws.length<1000)(h:Sep E L w):Calls P Cq #[Sv s] w (cA λv w'=>v=.tuple #[Iv (c6 ws:Nat),.bool true]/\w'=w):=by
 apply XI;unfold LZ qD qI qW;have hn:=d.1;rw[sY]at hn;refine⟨λn x w'=>w'=w/\∃k:Nat,x=k/\k<=ws.length/\n=(c6 (ws.take k):Nat),λ_ x _=>(ws.length-x).toNat,⟨rfl,0,rfl,e7 _,rfl⟩,?_⟩;rintro _ n x m ⟨rfl,k,rfl,hk,rfl⟩;refine cX (λl=>?_) (λj=>?_)
 ·obtain⟨y,b⟩:∃y,ws[k]?=some y:=⟨_,dN⟩
  have g:=c y (eH b);have f:c6 (ws.take (k+1))=c6 (ws.take k)+y:=by rw[fL b,u4];rfl
  have hle:=Dy ws (k+1);refine d.el h k rfl (u5 b) ?_;have e:i64.wrap (((c6 (ws.take k):Nat):Int)+(y:Int))=((c6 (ws.take (k+1)):Nat):Int):=by rw[f,cR bu bu];omega
  rw[e];refine cX (λa=>absurd a bu) (λ_=>gn (λa=>absurd a bu) (λ_=>gn (λa=>absurd a bu) (λ_=>?_)));exact⟨⟨rfl,k+1,de,bu,rfl⟩,by dsimp only;rw[de];omega⟩
 ·have:k=ws.length:=by omega
  subst this;rw[gg];exact⟨rfl,rfl⟩
def p2(k:Nat):(2:Int)^k=((2^k:Nat):Int):=by push_cast;rfl
def OU{k:Nat}(hk:k<=62)(w:bH):Calls P Cr #[Iv (k:Nat)] w (cA λv w'=>v=.int .u64 ((2^k-1:Nat):Int)/\w'=w):=by
 apply XJ;unfold L1;have hp:=sN (k:=k) bu;have a:=y9 k;rw[ds (n:=k) bu,show(min ((k:Nat):Int).toNat 64)=k by rw[dz];omega,Int.one_mul,p2,ds hp,show(((2^k:Nat):Int)-1)=((2^k-1:Nat):Int) by omega,ds];exact⟨bu,rfl,rfl⟩
def fields:bA Nat->Nat->bA Nat
 |[],_=>[]
 |k::ws,x=>x%2^k::fields ws (x/2^k)
def eU:∀(ws:bA Nat) (x:Nat),(fields ws x).length=ws.length
 |[],_=>rfl
 |k::ws,x=>by show(fields ws _).length+1=_;rw[eU ws];rfl
def OV:∀ {ws:bA Nat} {x k y:Nat},ws[k]?=some y->(fields ws x)[k]?=some (x/2^c6 (ws.take k)%2^y)
 |[],_,_,_,h=>by simp at h
 |z::ws,x,0,y,h=>by
  simp only[lE,fU]at h;subst h;show some _=_;simp[c6]
 |z::ws,x,k+1,y,h=>by
  show(fields ws (x/2^z))[k]?=_;rw[OV (by simpa using h),FR,<- Nat.pow_add];rfl
def OW{s:Sl}{ws:bA Nat}(g:Ints E L s (ints ws))(d:∀k∈ws,k<=62)(J:c6 ws<64)(hb:ws.length<1000){x:Nat}(hx:x<18446744073709551616)(h:Sep E L w):
  Calls P BZ #[Sv s,.int .u64 (x:Nat)] w (cA λv w'=>(x/2^c6 ws=0/\∃t:Sl,v=.tuple #[Sv t,Iv 0]/\t.n=ws.length/\Sep E (bw t 1 (bD (ints (fields ws x)))::L) w')\/
   (x/2^c6 ws≠0/\v=.tuple #[aN8,Iv 1]/\Sep E L w')):=by
 apply WX;unfold Ll qC qD qW qg qp zU zV;dsimp only;have hn:=g.1;rw[sY]at hn;refine use (OT g d bu hb h) ?_;rintro _ H ⟨rfl,rfl⟩;refine⟨_,_,rfl,λw'=>w'=H/\x/2^c6 ws=0,dG (cX (λ_=>?_) (λC=>absurd C bu)),?_⟩
 ·rw[ds (n:=c6 ws) bu,show(min ((c6 ws:Nat):Int).toNat 64)=c6 ws by rw[dz];omega,sh];refine⟨bu,iz (λN=>?_) (λhe=>?_)⟩;·exact .inr ⟨bu,rfl,h⟩
  ·exact⟨rfl,bu⟩
 ·rintro _ w2 ⟨rfl,u⟩;refine⟨λy t i w'=>∃k:Nat,i=k/\k<=ws.length/\y=((x/2^c6 (ws.take k):Nat):Int)/\t.n=((ints (fields ws x)).take k).length/\Sep E (bw t 1 (bD ((ints (fields ws x)).take k))::L) w',λ_ _ i _=>(ws.length-i).toNat,
   ⟨0,rfl,e7 _,by simp[c6],rfl,bw.none_ h⟩,?_⟩
  rintro _ y t i I ⟨k,rfl,hk,rfl,l,b⟩;refine cX (λM=>?_) (λK=>?_)
  ·obtain⟨z,c⟩:∃z,ws[k]?=some z:=⟨_,dN⟩
   have m:=d z (eH c);have D:c6 (ws.take (k+1))=c6 (ws.take k)+z:=by rw[fL c,u4];rfl
   refine(g.cons (A:=bw t 1 (bD ((ints (fields ws x)).take k)))).el b k rfl (u5 c) (use (OU m I) ?_);rintro _ Q ⟨rfl,rfl⟩;refine⟨_,rfl,?_⟩;have hp:=sN (k:=z) bu;have p:=y9 z;have j:x/2^c6 (ws.take k)<18446744073709551616:=y3 (Gk _ _) hx;have G:2^z<9223372036854775808:=FY (a:=2) (n:=63) bN bu;have r:i64.wrap (bU .u64 (((x/2^c6 (ws.take k):Nat):Int)) (((2^z-1:Nat):Int)))=((x/2^c6 (ws.take k)%2^z:Nat):Int):=by
    rw[sF j bu,tq];have:=kL (x/2^c6 (ws.take k)) p;exact cR bu bu
   rw[r];have F:(ints (fields ws x))[k]?=some ((x/2^c6 (ws.take k)%2^z:Nat):Int):=u5 (OV c);refine Al.i b (λq R B=>OO l (by rw[hJ,sY,eU];omega) B (λO S f o=>?_));rw[<- fL F]at f o;rw[ds (n:=z) bu,show(min ((z:Nat):Int).toNat 64)=z by rw[dz];omega,sh];refine⟨bu,⟨k+1,de,bu,?_,f,o⟩,by dsimp only;rw[de];omega⟩;rw[D,Nat.pow_add,<- FR]
  ·have:k=ws.length:=by omega
   subst this;have e:(ints (fields ws x)).take ws.length=ints (fields ws x):=iq (by rw[sY,eU];omega);rw[e]at l b;exact .inl ⟨u,t,rfl,by rw[l,sY,eU],b⟩
def jB:bA Nat->bA Nat->Nat
 |k::ws,v::vs=>v+2^k*jB ws vs
 |_,_=>0
def Dz:∀ {ws vs:bA Nat},(∀(k y v:Nat),ws[k]?=some y->vs[k]?=some v->v<2^y)->jB ws vs<2^c6 ws
 |[],_,_=>by show 0<2^0;decide
 |k::ws,[],_=>y9 _
 |k::ws,v::vs,h=>by
  have b:=h 0 k v rfl rfl;have h1:=Dz (ws:=ws) (vs:=vs) (λi y u a hu=>h (i+1) y u (by simpa using a) (by simpa using hu));show v+2^k*jB ws vs<2^(k+c6 ws);rw[Nat.pow_add];have:2^k*jB ws vs+2^k<=2^k*2^c6 ws:=by
   rw[<- Nat.mul_succ];exact Nat.mul_le_mul_left _ h1
  omega
def OX:∀ {ws vs:bA Nat} {k y v:Nat},ws[k]?=some y->vs[k]?=some v->jB (ws.take (k+1)) (vs.take (k+1))=jB (ws.take k) (vs.take k)+2^c6 (ws.take k)*v
 |[],_,_,_,_,h,_=>by simp at h
 |_::_,[],_,_,_,_,h=>by simp at h
 |z::ws,u::vs,0,y,v,h1,h2=>by
  simp only[lE,fU]at h1 h2;subst h1 h2;simp[jB,c6]
 |z::ws,u::vs,k+1,y,v,h1,h2=>by
  have a:=OX (ws:=ws) (vs:=vs) (k:=k) (y:=y) (v:=v) (by simpa using h1) (by simpa using h2);show u+2^z*jB (ws.take (k+1)) (vs.take (k+1))=(u+2^z*jB (ws.take k) (vs.take k))+2^(z+c6 (ws.take k))*v;rw[a,nb,Nat.pow_add,Gt,tH]
def aKd{a k v:Nat}(b:a<2^k):a ||| (2^k*v)=a+2^k*v:=by
 rw[Nat.or_comm,<- FM b,rM]
def OY{s t:Sl}{ws vs:bA Nat}(A:Ints E L s (ints ws))(D:Ints E L t (ints vs))(q:∀k∈ws,k<=62)(Q:c6 ws<=63)(hb:ws.length<1000)(hl:vs.length=ws.length)(C:∀u∈vs,u<9223372036854775808)(h:Sep E L w):
  Calls P CK #[Sv s,Sv t] w (cA λv w'=>(((∀(k y u:Nat),ws[k]?=some y->vs[k]?=some u->u<2^y)/\v=.tuple #[.int .u64 (jB ws vs:Nat),Iv 0])\/((¬ ∀(k y u:Nat),ws[k]?=some y->vs[k]?=some u->u<2^y)/\v=.tuple #[.int .u64 0,Iv 1]))/\w'=w):=by
 apply Yx;unfold MI qD qW qg qp zA zU;have hn:=A.1;have F:=D.1;rw[sY]at hn F;refine⟨λw'=>w'=w,use (OT A q bu hb h) ?_,?_⟩
 ·rintro _ G ⟨rfl,rfl⟩;exact⟨_,_,rfl,dG (iz (λf=>absurd (show((t.n:Nat):Int)=((s.n:Nat):Int) by omega) f) (λ_=>rfl))⟩
 ·rintro _ G rfl;refine⟨λx low i w'=>w'=G/\∃k:Nat,i=k/\k<=ws.length/\x=((jB (ws.take k) (vs.take k):Nat):Int)/\low=((c6 (ws.take k):Nat):Int)/\∀(j y u:Nat),j<k->ws[j]?=some y->vs[j]?=some u->u<2^y,λ_ _ i _=>(ws.length-i).toNat,
   ⟨rfl,0,rfl,e7 _,by simp[jB],rfl,λj _ _ g=>bu⟩,?_⟩
  rintro _ x low i w2 ⟨rfl,k,rfl,hk,rfl,rfl,b⟩;refine cX (λS=>?_) (λR=>?_)
  ·obtain⟨y,c⟩:∃y,ws[k]?=some y:=⟨_,dN⟩
   obtain⟨u,hu⟩:∃u,vs[k]?=some u:=⟨_,dN⟩
   have B:=q y (eH c);have M:c6 (ws.take (k+1))=c6 (ws.take k)+y:=by rw[fL c,u4];rfl
   have hle:=Dy ws (k+1);refine A.el h k rfl (u5 c) (D.el h k rfl (u5 hu) ?_);have T:=y9 y;have N:2^y<9223372036854775808:=FY (a:=2) (n:=63) bN bu;have bad:¬ u<2^y->¬ ∀(k y u:Nat),ws[k]?=some y->vs[k]?=some u->u<2^y:=λf b=>f (b k y u c hu);refine⟨λw'=>w'=w2/\u<2^y,cX (λf=>absurd f bu) (λ_=>use (OU B w2) ?_),?_⟩
   ·rintro _ O ⟨rfl,rfl⟩;refine⟨_,rfl,?_⟩;have J:=C u (eH hu);rw[ds (n:=u) bu];exact gn (λf=>⟨.inr ⟨bad bu,rfl⟩,rfl⟩) (λf=>⟨rfl,bu⟩)
   ·rintro _ O ⟨rfl,z⟩;have K:c6 (ws.take k)<64:=by have:=Dy ws k;omega
    have r:jB (ws.take k) (vs.take k)<2^c6 (ws.take k):=Dz (λj o m h1 h2=>by
     rw[o2]at h1 h2;split at h1;·next g=>rw[bL g]at h2;exact b j o m g h1 h2
     ·cases h1)
    have p:jB (ws.take (k+1)) (vs.take (k+1))<2^c6 (ws.take (k+1)):=Dz (λj o m h1 h2=>by
     rw[o2]at h1 h2;split at h1
     ·next g=>
      rw[bL g]at h2;rcases hN j k with e|e;·exact b j o m e h1 h2
      ·have:j=k:=by omega
       subst this;rw[c]at h1;rw[hu]at h2;rw[<- cU h1,<- cU h2];exact z
     ·cases h1)
    have d:jB (ws.take (k+1)) (vs.take (k+1))<18446744073709551616:=lG p (tu (n:=2) bN (show c6 (ws.take (k+1))<=64 by omega));have l:=OX c hu;have H:iU .u64 ((jB (ws.take k) (vs.take k):Nat):Int) (u64.wrap ((u64.wrap (u:Int))*2^(min ((c6 (ws.take k):Nat):Int).toNat 64)))=((jB (ws.take (k+1)) (vs.take (k+1)):Nat):Int):=by
     rw[show(min ((c6 (ws.take k):Nat):Int).toNat 64)=c6 (ws.take k) by rw[dz];omega,ds (n:=u) bu,p2,<- tF,wm,ds (by rw[l]at d;exact y3 (Nat.le_add_left _ _) d),uW (lG r (tu (n:=2) bN (show c6 (ws.take k)<=64 by omega))) (by rw[l]at d;exact y3 (Nat.le_add_left _ _) d),aKd r,<- l]
    have I:u64.wrap (((c6 (ws.take k):Nat):Int)+(u64.wrap (y:Int)))=((c6 (ws.take (k+1)):Nat):Int):=by
     rw[ds (n:=y) bu,<- Gl,ds,M]
    rw[H,I];refine⟨bu,⟨rfl,k+1,de,bu,rfl,rfl,λj o m g h1 h2=>?_⟩,by dsimp only;rw[de];omega⟩;rcases hN j k with e|e;·exact b j o m e h1 h2
    ·have:j=k:=by omega
     subst this;rw[c]at h1;rw[hu]at h2;rw[<- cU h1,<- cU h2];exact z
  ·have:k=ws.length:=by omega
   subst this;refine⟨.inl ⟨λk y u c hu=>b k y u (c4.1 c).1 c hu,?_⟩,rfl⟩;rw[gg,iq bu]
end Go.Mp
namespace Go.Mp
open Go Go.Vc Go.Sp Go.Proofs Go.Kc Go.Kv Go.Kw
variable{E:Env}{L:cv}{w W:bH}
def _root_.Go.Kw.En.vs(e:En):bA bE:=[Iv e.k,Iv e.id,.bool e.wr,.bool e.tc]
def wid:bA Nat:=[2,24,1,1]
def OZ(h:Sep E L w):Calls P B0 #[] w (cA λv w'=>∃p,v=.slice (some ⟨p,0,none⟩) 4 4/\Sep E (bC p (bD (ints wid))::L) w'):=by
 apply awU;unfold N2 qC;exact Al.i h (λp a h1=>⟨p,rfl,h1⟩)
def O0(b:Bool)(w:bH):Calls P CL #[.bool b] w (cA λv w'=>v=Iv (b.toNat:Int)/\w'=w):=by
 apply aAY;exact cw (λh=>by subst h;exact⟨rfl,rfl⟩) (λh=>by subst h;exact⟨rfl,rfl⟩)
def O1{e:En}(hk:e.k=1\/e.k=2)(h:Sep E L w):Calls P B1 #[.agg e.vs.toArray] w (cY E (.bool true) L):=by
 apply ax1;unfold N3 qL zn;refine Al.i h (λp a h1=>ld h1 0 rfl rfl (x:=(e.k:Int)) rfl ?_);refine bF (by rcases hk with hk|hk<;>rw[hk]<;>rfl) (ld h1 0 rfl rfl (x:=(e.k:Int)) rfl ?_);rcases hk with hk|hk;·exact bT (by rw[hk];rfl) ⟨rfl,h1.tail⟩
 ·exact bF (by rw[hk];rfl) (ld h1 0 rfl rfl (x:=(e.k:Int)) rfl ⟨by rw[hk];rfl,h1.tail⟩)
def aG5(e:En):jB wid [e.k,e.id,e.wr.toNat,e.tc.toNat]=e.enc:=by
 simp only[wid,jB,En.enc];omega
def yc{e:En}(h:e.ok):e.enc<268435456:=by
 obtain⟨hk,a⟩:=h;have:=na e.wr;have:=na e.tc;unfold En.enc;omega
def aIB{e:En}(hk:e.k=1\/e.k=2)(eQ:e.id<9223372036854775808)(h:Sep E L w):Calls P Jt #[.agg e.vs.toArray] w (cY E (if e.id<16777216 then .tuple #[.int .u64 (e.enc:Nat),Iv 0]else .tuple #[.int .u64 0,Iv 1]) L):=by
 apply azv;unfold Og qC qF qJ qQ zB zH za zn;refine Al.i h (λp o h1=>ld h1 0 rfl rfl (x:=(e.k:Int)) rfl (ld h1 0 rfl rfl (x:=(e.id:Int)) rfl (ld h1 0 rfl rfl (x:=e.wr) rfl (ld h1 0 rfl rfl (x:=e.tc) rfl ?_))));have h1:Sep E (bC p e.vs::L) o:=h1;refine use (O1 hk h1) ?_;rintro _ w2 ⟨rfl,h2⟩;refine⟨_,rfl,bF rfl (Dr.i h2 (λA f=>ld f 0 rfl rfl (x:=(e.k:Int)) rfl (ld f 0 rfl rfl (x:=(e.id:Int)) rfl (ld f 0 rfl rfl (x:=e.wr) rfl (ld f 0 rfl rfl (x:=e.tc) rfl (use (OZ f) ?_))))))⟩;rintro _ B ⟨q,rfl,d⟩;refine⟨⟨some ⟨q,0,none⟩,4,4⟩,rfl,ld d 1 rfl rfl (x:=e.tc) rfl ⟨rfl,ld d 1 rfl rfl (x:=e.wr) rfl ⟨rfl,ld d 1 rfl rfl (x:=(e.id:Int)) rfl ⟨rfl,ld d 1 rfl rfl (x:=(e.k:Int)) rfl ⟨rfl,use (O0 e.wr _) ?_⟩⟩⟩⟩⟩;rintro _ _ ⟨rfl,rfl⟩;refine⟨_,rfl,ld d 1 rfl rfl (x:=e.tc) rfl ⟨rfl,ld d 1 rfl rfl (x:=(e.id:Int)) rfl ⟨rfl,ld d 1 rfl rfl (x:=(e.k:Int)) rfl ⟨rfl,use (O0 e.tc _) ?_⟩⟩⟩⟩;rintro _ _ ⟨rfl,rfl⟩;refine⟨_,rfl,ld d 1 rfl rfl (x:=(e.id:Int)) rfl ⟨rfl,ld d 1 rfl rfl (x:=(e.k:Int)) rfl ⟨rfl,Al.i d (λr z g=>?_)⟩⟩⟩;have g:Sep E (bC r (bD (ints [e.k,e.id,e.wr.toNat,e.tc.toNat]))::bC q (bD (ints wid))::bC p e.vs::L) z:=g;have m:=OY (s:=⟨some ⟨q,0,none⟩,4,4⟩) (t:=⟨some ⟨r,0,none⟩,4,4⟩) (ws:=wid) (vs:=[e.k,e.id,e.wr.toNat,e.tc.toNat]) (Ints.jm (b:=q) (c:=4) (gs:=ints wid) (q:=1) rfl) (Ints.jm (b:=r) (c:=4) (gs:=ints [e.k,e.id,e.wr.toNat,e.tc.toNat]) (q:=0) rfl) bN bN bN rfl
  (λu hu=>by
   have:=na e.wr;have:=na e.tc;simp only[ey,tE,tJ]at hu;omega) g
 refine use m ?_;rintro _ C ⟨n,rfl⟩;rcases n with⟨l,rfl⟩|⟨j,rfl⟩
 ·refine⟨_,_,rfl,?_,g.tail.tail.tail⟩;have i:e.id<2^24:=l 1 24 e.id rfl rfl;rw[eJ,aG5]
 ·refine⟨_,_,rfl,?_,g.tail.tail.tail⟩;rw[bJ];intro i;apply j;have:=na e.wr;have:=na e.tc;intro k y u a hu
  match k,a,hu with
  |0,a,hu=>simp[wid]at a hu;subst a hu;omega
  |1,a,hu=>simp[wid]at a hu;subst a hu;omega
  |2,a,hu=>simp[wid]at a hu;subst a hu;omega
  |3,a,hu=>simp[wid]at a hu;subst a hu;omega
  |k+4,a,_=>simp[wid]at a
def aDG{e:En}(h:e.ok):fields wid e.enc= [e.k,e.id,e.wr.toNat,e.tc.toNat]:=by
 obtain⟨hk,a⟩:=h;have:=na e.wr;have:=na e.tc;simp only[wid,fields,En.enc];congr 1;·omega
 congr 1;·omega
 congr 1;·omega
 congr 1;omega
def O2{x k:Nat}(hx:x<18446744073709551616)(hk:k<64):bU .u64 (x:Int) ((2^k:Nat):Int)=((if x/2^k%2=1 then 2^k else 0:Nat):Int):=by
 have h2:(2:Nat)^k<18446744073709551616:=FY bN hk (n:=64);rw[sF hx h2];congr 1;apply vX;intro i;rw[Nat.testBit_and,rI];have e:(x.testBit k=true)↔x/2^k%2=1:=by rw[bc5,gE]
 by_cases b:k=i
 ·subst b;split;·next a=>rw[e.2 a,Nat.testBit_two_pow_self];simp
  ·next a=>
   have:x.testBit k=false:=by
    cases hb:x.testBit k with
    |false=>rfl
    |true=>exact absurd (e.1 hb) a
   rw[this];simp
 ·split;·rw[rI];simp[b]
  ·simp[b]
def aJB{e:En}(h:e.ok):(bU .u64 (e.enc:Int) 67108864 !=0)=e.wr:=by
 have hl:=yc h;have h1:=O2 (x:=e.enc) (k:=26) bu bN;have h1:bU .u64 (e.enc:Int) 67108864=((if e.enc/2^26%2=1 then 2^26 else 0:Nat):Int):=h1;obtain⟨hk,b⟩:=h;have:=na e.wr;have:=na e.tc;have a:e.enc/2^26%2=e.wr.toNat:=by unfold En.enc;omega
 rw[h1,a];cases e.wr<;>rfl
def aJA{e:En}(h:e.ok):(bU .u64 (e.enc:Int) 134217728 !=0)=e.tc:=by
 have hl:=yc h;have h1:=O2 (x:=e.enc) (k:=27) bu bN;have h1:bU .u64 (e.enc:Int) 134217728=((if e.enc/2^27%2=1 then 2^27 else 0:Nat):Int):=h1;obtain⟨hk,b⟩:=h;have:=na e.wr;have:=na e.tc;have a:e.enc/2^27%2=e.tc.toNat:=by unfold En.enc;omega
 rw[h1,a];cases e.tc<;>rfl
def O3{e:En}(ho:e.ok)(h:Sep E L w):Calls P BH #[.int .u64 (e.enc:Nat)] w (cY E (.tuple #[.agg e.vs.toArray,Iv 0]) L):=by
 apply Z7;unfold NP qD qF qJ qU qW zF zG zn zu;have hl:=yc ho;refine Al.i h (λp A h1=>use (OZ h1) ?_);rintro _ w2 ⟨q,rfl,h2⟩;have o:=OW (s:=⟨some ⟨q,0,none⟩,4,4⟩) (ws:=wid) (Ints.jm (b:=q) (c:=4) (gs:=ints wid) (q:=0) rfl) bN bN bN (x:=e.enc) bu h2;refine⟨⟨some ⟨q,0,none⟩,4,4⟩,rfl,use o ?_⟩;have u:c6 wid=28:=rfl;rw[u,aDG ho];rintro _ B (⟨_,t,rfl,l,m⟩|⟨k,_⟩)
 ·obtain⟨b,sp,hp,_,_,_,n⟩:=bw.ik m (by rw[l];decide);have g:t.n=4:=l;refine⟨t,_,rfl,bF rfl (Dr.i n (λC i=>⟨_,hp,⟨bN,by rw[g];decide⟩,ld i 0 rfl rfl (x:=(e.k:Int)) rfl ⟨_,hp,⟨bN,by rw[g];decide⟩,ld i 0 rfl rfl (x:=(e.id:Int)) rfl (Al.i i (λr D j=>?_))⟩⟩))⟩;refine ld j 1 rfl rfl (x:=(e.id:Int)) rfl ⟨rfl,ld j 1 rfl rfl (x:=(e.k:Int)) rfl ⟨rfl,ew _ j rfl (λy a=>?_)⟩⟩;rw[aJB ho,aJA ho]at a;have a:Sep E (bC r e.vs::bC b _::bC q _::bC p _::L) y:=a;refine ld a 0 rfl rfl (x:=(e.k:Int)) rfl (ld a 0 rfl rfl (x:=(e.id:Int)) rfl (ld a 0 rfl rfl (x:=e.wr) rfl (ld a 0 rfl rfl (x:=e.tc) rfl (use (O1 ho.1 a) ?_))));rintro _ F ⟨rfl,f⟩;refine⟨_,rfl,bF rfl (ld f 0 rfl rfl (x:=(e.k:Int)) rfl (ld f 0 rfl rfl (x:=(e.id:Int)) rfl (ld f 0 rfl rfl (x:=e.wr) rfl (ld f 0 rfl rfl (x:=e.tc) rfl (ew _ (f.fr 3 rfl) rfl (λz d=>?_))))))⟩;have d:Sep E (bC p e.vs::bC r e.vs::bC b _::bC q _::L) z:=d;exact ld d 0 rfl rfl (x:=(e.k:Int)) rfl (ld d 0 rfl rfl (x:=(e.id:Int)) rfl (ld d 0 rfl rfl (x:=e.wr) rfl (ld d 0 rfl rfl (x:=e.tc) rfl ⟨rfl,d.tail.tail.tail.tail⟩)))
 ·exact absurd bu k
def aIC{e:En}(ho:e.ok)(h:Sep E L w):Calls P Jc #[.int .u64 (e.enc:Nat)] w (cY E (.bool true) L):=by
 apply azw;unfold Od qL qU zt zu;refine use (O3 ho h) ?_;rintro _ b ⟨rfl,h1⟩;refine⟨_,_,_,_,_,rfl,Al.i h1 (λp w2 h2=>ew _ h2 rfl (λc a=>bT rfl (ld a 0 rfl rfl (x:=(e.k:Int)) rfl ⟨?_,a.tail⟩)))⟩;obtain⟨hk|hk,_⟩:=ho<;>rw[hk]<;>rfl
def _root_.Go.Kw.En.cy(e:En):En:={e with tc:=true}
def DA{e:En}(h:e.ok):iU .u64 (e.enc:Int) 134217728=(e.cy.enc:Int):=by
 have hl:=yc h;obtain⟨hk,i⟩:=h;have:=na e.wr;have h1:iU .u64 (e.enc:Int) ((2^27:Nat):Int)=((e.enc ||| 2^27:Nat):Int):=uW bu bN;have h1:iU .u64 (e.enc:Int) 134217728=((e.enc ||| 2^27:Nat):Int):=h1;rw[h1];congr 1;obtain⟨x,hx⟩:∃x,e.k+4*e.id+67108864*e.wr.toNat=x:=⟨_,rfl⟩
 have a:x<2^27:=by omega
 have d:e.cy.enc=x+134217728*true.toNat:=by rw[<- hx];rfl
 have g:e.enc=x+134217728*e.tc.toNat:=by rw[<- hx];rfl
 rw[Bool.toNat_true,fM]at d;rw[d,g];cases e.tc with
 |false=>
  rw[Bool.toNat_false,Nat.mul_zero,k1,Nat.or_comm];have c:=FM a 1;rw[fM]at c;have f:134217728+x=2^27 ||| x:=c;rw[rM];exact f.symm
 |true=>
  rw[Bool.toNat_true,fM];have b:=FM a 1;have b:134217728+x=134217728 ||| x:=b;rw[rM,b,Nat.or_comm,<- Nat.or_assoc,show 2^27 ||| 134217728=134217728 by decide]
def aGO{e:En}(ho:e.ok)(h:Sep E L w):Calls P IT #[.int .u64 (e.enc:Nat)] w (cY E (.int .u64 (e.cy.enc:Nat)) L):=by
 apply ax0;unfold NZ qF;refine use (aIC ho h) ?_;rintro _ a ⟨rfl,h1⟩;exact⟨_,rfl,bT rfl ⟨by rw[DA ho],h1⟩⟩
end Go.Mp
namespace Go.Kw
open Go Go.Kc Go.Kv
structure Tok(T:c5):Prop where
 cZ:T.Pairwise λx y=>x.1<y.1
 low:∀q∈T,q.1<65536/\q.2.ok
def nF(R:RT 3)(T:c5):Prop:=∀p:Nat,p<65536->RT.look 3 R p=(dJ T p).map En.enc
def sZ{p:Nat}{e:En}:∀ {T:c5},dJ T p=some e->(p,e)∈T
 |[],h=>by cases h
 |(q,f)::r,h=>by
  unfold dJ at h;split at h;·next a=>cases h;subst a;exact fz
  ·exact fT _ (sZ h)
def s0{p:Nat}{e:En}:∀ {T:c5},T.Pairwise (λx y=>x.1<y.1)->(p,e)∈T->dJ T p=some e
 |[],_,h=>by cases h
 |(q,f)::r,hr,h=>by
  obtain⟨h1,h2⟩:=g7.1 hr;unfold dJ;rcases ey.1 h with h|h;·cases h;rw[bL rfl]
  ·have:=h1 _ h;rw[bJ (by have:q<p:=this;omega)];exact s0 h2 h
def Tok.get{T:c5}(h:Tok T){p:Nat}{e:En}(a:dJ T p=some e):p<65536/\e.ok:=h.low _ (sZ a)
def Tok.filter{T:c5}(h:Tok T)(f:Nat×En->Bool):Tok (T.filter f):=⟨h.cZ.filter f,λq a=>h.low q (gq.1 a).1⟩
def DB{p:Nat}{e:En}{x:Nat×En}:∀ {T:c5},x∈eW T p e->x=(p,e)\/x∈T
 |[],h=>.inl (by simpa[eW]using h)
 |(q,f)::r,h=>by
  unfold eW at h;split at h
  ·rcases ey.1 h with h|h;·exact .inl h
   ·exact .inr h
  ·split at h
   ·rcases ey.1 h with h|h;·exact .inl h
    ·exact .inr (fT _ h)
   ·rcases ey.1 h with h|h;·exact .inr (h▸fz)
    ·exact(DB h).imp id (fT _)
def O4{p:Nat}{e:En}:∀ {T:c5},T.Pairwise (λx y=>x.1<y.1)->(eW T p e).Pairwise (λx y=>x.1<y.1)
 |[],_=>by simp[eW]
 |(q,f)::r,h=>by
  obtain⟨h1,h2⟩:=g7.1 h;unfold eW;split
  ·next b=>
   refine g7.2 ⟨λy a=>?_,h⟩;rcases ey.1 a with rfl|a;·exact b
   ·have c:q<y.1:=h1 y a;show p<y.1;omega
  ·split;·next hle he=>subst he;exact g7.2 ⟨h1,h2⟩
   ·next hle he=>
    refine g7.2 ⟨λy a=>?_,O4 h2⟩;rcases DB a with rfl|a;·show q<p;omega
    ·exact h1 y a
def Tok.set{T:c5}(h:Tok T){p:Nat}{e:En}(hp:p<65536)(he:e.ok):Tok (eW T p e):=
 ⟨O4 h.cZ,λq a=>(DB a).elim (λe=>by subst e;exact⟨hp,he⟩) (h.low q)⟩
def u6{p q:Nat}{e:En}:∀ {T:c5},T.Pairwise (λx y=>x.1<y.1)->dJ (eW T p e) q=if q=p then some e else dJ T q
 |[],_=>by
  show(if p=q then some e else none)=if q=p then some e else none
  by_cases h:p=q;·rw[bL h,bL h.symm]
  ·rw[bJ h,bJ λe=>h e.symm]
 |(k,f)::r,h=>by
  obtain⟨h1,h2⟩:=g7.1 h;unfold eW;split
  ·next a=>
   show(if p=q then some e else dJ ((k,f)::r) q)=_;by_cases h:p=q;·rw[bL h,bL h.symm]
   ·rw[bJ h,bJ λe=>h e.symm]
  ·split
   ·next hle he=>
    subst he;show(if p=q then some e else dJ r q)=if q=p then some e else if p=q then some f else dJ r q
    by_cases h:p=q;·rw[bL h,bL h.symm]
    ·rw[bJ h,bJ (λe=>h e.symm),bJ h]
   ·next hle he=>
    show(if k=q then some f else dJ (eW r p e) q)=if q=p then some e else if k=q then some f else dJ r q
    rw[u6 h2];by_cases h:k=q;·rw[bL h,bL h,cF]
    ·rw[bJ h,bJ h]
def DC{p q:Nat}:∀ {T:c5},dJ (T.filter λx=>x.1 !=p) q=if q=p then none else dJ T q
 |[]=>by simp[dJ]
 |(k,f)::r=>by
  rw[jD];by_cases hk:k=p
  ·subst hk;rw[bJ (by simp),DC];by_cases h:q=k;·rw[bL h,bL h]
   ·rw[bJ h,bJ h];show dJ r q=if k=q then some f else dJ r q;rw[bJ λe=>h e.symm]
  ·rw[bL (by simpa using hk)];show(if k=q then some f else dJ (r.filter λx=>x.1 !=p) q)=if q=p then none else if k=q then some f else dJ r q
   rw[DC];by_cases h:k=q;·subst h;rw[bL rfl,bJ hk,bL rfl]
   ·rw[bJ h,bJ h]
def O5:∀ {a b:bA Nat},a.Pairwise (· < ·)->b.Pairwise (· < ·)->(∀x,x∈a↔x∈b)->a=b
 |[],[],_,_,_=>rfl
 |[],y::b,_,_,h=>absurd ((h y).2 fz) (by simp)
 |x::a,[],_,_,h=>absurd ((h x).1 fz) (by simp)
 |x::a,y::b,i,hb,h=>by
  obtain⟨f,g⟩:=g7.1 i;obtain⟨b1,b2⟩:=g7.1 hb;have e:x=y:=by
   rcases ey.1 ((h x).1 fz)with e|e;·exact e
   ·rcases ey.1 ((h y).2 fz)with d|d;·exact d.symm
    ·have:=b1 x e;have:=f y d;omega
  subst e;congr 1;refine O5 g b2 λz=>⟨λc=>?_,λc=>?_⟩
  ·rcases ey.1 ((h z).1 (fT _ c))with e|e;·subst e;exact absurd (f z c) (tG _)
   ·exact e
  ·rcases ey.1 ((h z).2 (fT _ c))with e|e;·subst e;exact absurd (b1 z c) (tG _)
   ·exact e
end Go.Kw
namespace Go.Kv
def aFZ{t:RT 0}{p:Nat}:slot 0 t (p%16)=(RT.look 0 t p).isSome:=rfl
def yd:∀(n:Nat) (t:RT n) (a p:Nat),p∈kC n t a↔p/16^(n+1)=a/\(RT.look n t p).isSome=true
 |0,t,a,p=>by
  rw[rj,y7];have ho:∀d,p∈hQ 0 t a d↔slot 0 t d=true/\p=a*16+d:=by
   intro d;show p∈(if(List.getD (t:bA (bW Nat)) d none).isSome then[a*16+d]else[])↔(List.getD (t:bA (bW Nat)) d none).isSome=true/\_;split;·next h=>simp[h]
   ·next h=>simp[h]
  constructor
  ·rintro⟨d,b,h⟩;obtain⟨h1,rfl⟩:=(ho d).1 h;have b:=fV.1 b;refine⟨bu,?_⟩;rw[<- aFZ,show(a*16+d)%16=d by omega];exact h1
  ·rintro⟨h1,h2⟩;rw[Nat.pow_one]at h1;exact⟨p%16,fV.2 (kL _ bN),(ho _).2 ⟨h2,bu⟩⟩
 |n+1,t,a,p=>by
  rw[rj,y7];have ho:∀d,p∈hQ (n+1) t a d↔∃k s,Mp.gM t d=some (k,s)/\p∈kC n s (a*16+d):=by
   intro d;show p∈(match Mp.gM t d with|none=>[]|some (_,s)=>kC n s (a*16+d))↔_;cases Mp.gM t d with
   |none=>simp
   |some y=>exact⟨λh=>⟨y.1,y.2,rfl,h⟩,λ⟨k,s,e,h⟩=>by cases e;exact h⟩
  have c:p/16^(n+1+1)=p/16^(n+1)/16:=by rw[p3 16 (n+1),FR]
  constructor
  ·rintro⟨d,b,h⟩;have b:=fV.1 b;obtain⟨k,s,hk,h⟩:=(ho d).1 h;obtain⟨h1,h2⟩:=(yd n s _ p).1 h;refine⟨by rw[c,h1];omega,?_⟩;rw[Mp.nD,h1,show(a*16+d)%16=d by omega,hk];exact h2
  ·rintro⟨h1,h2⟩;rw[Mp.nD]at h2;cases hk:Mp.gM t (p/16^(n+1)%16)with
   |none=>rw[hk]at h2;cases h2
   |some y=>
    rw[hk]at h2;refine⟨p/16^(n+1)%16,fV.2 (kL _ bN),(ho _).2 ⟨y.1,y.2,hk,(yd n y.2 _ p).2 ⟨?_,h2⟩⟩⟩;rw[c]at h1;omega
def aHx:∀(n:Nat) (t:RT n) (a:Nat),(kC n t a).Pairwise (· < ·):=by
 intro n;have key:∀(n:Nat) (t:RT n) (a d x:Nat),d<16->x∈hQ n t a d->x/16^n=a*16+d:=by
  intro n t a d x b hx;cases n with
  |zero=>
   have hx:x∈(if(List.getD (t:bA (bW Nat)) d none).isSome then[a*16+d]else[]):=hx;split at hx;·simp at hx;rw[hx,zr,zE]
   ·cases hx
  |succ n=>
   have hx:x∈(match Mp.gM t d with|none=>[]|some (_,s)=>kC n s (a*16+d)):=hx;split at hx;·cases hx
   ·exact((yd n _ _ x).1 hx).1
 have sg:∀(n:Nat) (t:RT n) (a:Nat),(∀d,(hQ n t a d).Pairwise (· < ·))->(kC n t a).Pairwise (· < ·):=by
  intro n t a h1;rw[rj,List.pairwise_flatMap];refine⟨λd _=>h1 d,?_⟩;refine FO ?_ Td;intro d e b he i x hx y f;have j:=key n t a d x (fV.1 b) hx;have k:=key n t a e y (fV.1 he) f;rcases hN x y with h|h;·exact h
  ·have:=Nat.div_le_div_right (c:=16^n) h;omega
 induction n with
 |zero=>
  intro t a;refine sg 0 t a λd=>?_;show(if(List.getD (t:bA (bW Nat)) d none).isSome then[a*16+d]else[]).Pairwise (· < ·);split<;>simp
 |succ n g=>
  intro t a;refine sg (n+1) t a λd=>?_;show(match Mp.gM t d with|none=>[]|some (_,s)=>kC n s (a*16+d)).Pairwise (· < ·);split;·simp
  ·exact g _ _
end Go.Kv
namespace Go.Mp
open Go Go.Vc Go.Sp Go.Proofs Go.Kc Go.Kv Go.Kw
variable{E:Env}{L:cv}{w W:bH}
def aI9{R:RT 3}{T:c5}(b:Tok T)(hr:nF R T):kC 3 R 0=T.map Prod.fst:=by
 refine O5 (aHx 3 R 0) (kc.2 b.cZ) λx=>?_;rw[yd,fo];constructor
 ·rintro⟨h1,h2⟩;have hx:x<65536:=by
   have e:(16:Nat)^(3+1)=65536:=rfl;rw[e]at h1;omega
  rw[hr x hx]at h2;cases c:dJ T x with
  |none=>rw[c]at h2;cases h2
  |some e=>exact⟨_,sZ c,rfl⟩
 ·rintro⟨⟨q,e⟩,d,rfl⟩;have a:=(b.low _ d).1;have a:q<65536:=a;refine⟨?_,?_⟩
  ·have e:(16:Nat)^(3+1)=65536:=rfl;rw[e];show q/65536=0;omega
  ·show(RT.look 3 R q).isSome=true;rw[hr q a,s0 b.cZ d];rfl
def c0(t:Nat)(T:c5):Asn:=fe λR:RT 3=>cG (RT.ok 3 R/\nF R T) (cB (dH 3 t R))
def c0.open{t:Nat}{T:c5}(h:Sep E (c0 t T::L) w):∃R:RT 3,RT.ok 3 R/\nF R T/\Sep E (dH 3 t R++L) w:=by
 obtain⟨R,h⟩:=Sep.ex.1 h;obtain⟨⟨h1,h2⟩,h⟩:=Sep.cG.1 h;exact⟨R,h1,h2,Sep.cB.1 h⟩
def c0.mk{t:Nat}{T:c5}{R:RT 3}(h1:RT.ok 3 R)(h2:nF R T)(h:Sep E (dH 3 t R++L) w):Sep E (c0 t T::L) w:=Sep.ex.2 ⟨R,Sep.cG.2 ⟨⟨h1,h2⟩,Sep.cB.2 h⟩⟩
def O6(h:Sep E L w):Calls P xD #[] w (cA λv w'=>∃t:Nat,v=Pb t/\Sep E (c0 t []::L) w'):=by
 refine(aDB h).mono ?_;rintro e a ⟨v,rfl,t,rfl,h1⟩;exact⟨_,rfl,t,rfl,c0.mk (RT.lN 3) (λp _=>RT.jA 3 p) h1⟩
def O7{t:Nat}{T:c5}{bK:Int}(d:Tok T)(h:Sep E (c0 t T::L) w):Calls P so #[Pb t,Iv bK] w
  (cA λv w'=>((∃e:En,0<=bK/\dJ T bK.toNat=some e/\v=.tuple #[.int .u64 (e.enc:Nat),.bool true])\/((if 0<=bK then dJ T bK.toNat else none)=none/\v=.tuple #[.int .u64 0,.bool false]))/\Sep E (c0 t T::L) w'):=by
 obtain⟨R,h1,h2,b⟩:=c0.open h;refine(Du h1 b).mono ?_;rintro e f ⟨v,rfl,rfl,c⟩;refine⟨_,rfl,?_,c0.mk h1 h2 c⟩;unfold il;by_cases hp:0<=bK/\bK<65536
 ·rw[bL hp,bL hp.1,h2 _ bu];cases a:dJ T bK.toNat with
  |none=>exact .inr ⟨rfl,rfl⟩
  |some e=>exact .inl ⟨e,hp.1,rfl,rfl⟩
 ·rw[bJ hp];refine .inr ⟨?_,rfl⟩;split
  ·cases a:dJ T bK.toNat with
   |none=>rfl
   |some e=>exact absurd (d.get a).1 bu
  ·rfl
def DD{t:Nat}{T:c5}{p:Nat}{e:En}(g:Tok T)(hp:p<65536)(h:Sep E (c0 t T::L) w):Calls P uK #[Pb t,Iv (p:Nat),.int .u64 (e.enc:Nat)] w
  (cY E (Iv 0) (c0 t (eW T p e)::L)):=by
 obtain⟨R,h1,h2,b⟩:=c0.open h;refine(aJW h1 b).mono ?_;rintro e' j ⟨v,rfl,i|⟨_,rfl,R',c,d,f⟩⟩;·exact absurd bu i.1
 ·refine⟨_,rfl,rfl,c0.mk c (λq a=>?_) f⟩;rw[d q,dz,u6 g.cZ,h2 q a];have e:(16:Nat)^(3+1)=65536:=rfl;rw[e,mI a,mI hp];split<;>rfl
def aET{t:Nat}{T:c5}{p:Nat}(d:Tok T)(hp:p∈T.map Prod.fst)(h:Sep E (c0 t T::L) w):Calls P BM #[Pb t,Iv (p:Nat)] w
  (cY E (.bool true) (c0 t (T.filter λx=>x.1 !=p)::L)):=by
 obtain⟨R,h1,h2,g⟩:=c0.open h;obtain⟨⟨q,e⟩,c,rfl⟩:=fo.1 hp;have a:q<65536:=(d.low _ c).1;refine(aIP h1 a (by rw[h2 _ a,s0 d.cZ c];rfl) g).mono ?_;rintro e' l ⟨v,rfl,rfl,R',i,j,k⟩;refine⟨_,rfl,rfl,c0.mk i (λf b=>?_) k⟩;rw[j f,DC,h2 f b];have e:(16:Nat)^(3+1)=65536:=rfl;rw[e,mI b,mI a];split<;>rfl
def kS(T:c5):bA bE:=(T.map Prod.fst).map λp:Nat=>Iv (p:Nat)
def O8{t:Nat}{R:RT 3}{T:c5}(B:Tok T)(h1:RT.ok 3 R)(h2:nF R T):Dc P E nX (λy=> #[Pb t,y]) emp emp (cB (dH 3 t R)) (kS T):=by
 intro l J X A L W h;have u:=Sep.cB.1 (h.ro 3 [1,0] rfl);have hp:=aI9 B h2;have j:∀ {Z:Asn} {M:cv} {w:bH},Sep E (dH 3 t R++Z::M) w->Sep E (Z::cB (dH 3 t R)::M) w:=λq=>(Sep.cB.2 q).swap;have un:∀ {Z:Asn} {M:cv} {w:bH},Sep E (Z::cB (dH 3 t R)::M) w->Sep E (dH 3 t R++Z::M) w:=λq=>Sep.cB.1 q.swap;have em:∀ {Z S:Asn} {w:bH},Sep E (Z::S::L) w->Sep E (Z::S::emp::L) w:=λq=>(Sep.emp.2 q).ro 3 [1,2,0] rfl;refine Calls.mono (R:=cA λv d=>v=.tuple #[]/\(Sep E (J (kS T).length::cB (dH 3 t R)::L) d\/∃k,k<(kS T).length/\Sep E (X k::cB (dH 3 t R)::L) d)) ?_ (λe d he=>?_);rotate_left
 ·obtain⟨v,rfl,rfl,he⟩:=he;exact⟨⟨_,rfl⟩,he.imp em λ⟨k,hk,q⟩=>⟨k,hk,em q⟩⟩
 apply Z5;unfold Dn qF;have n:=aIJ (E:=E) 3 (b:=t) (a:=0) (k0:=0) (l:=l) (t:=R) (xs:=kS T) (J:=J) (X:=X) (L:=L) (w:=W) bu h1 bN
  (λi p o=>by rw[hp]at o;unfold kS;rw[fy,eI,o];rfl)
  (λk x r hx z=>by
   obtain⟨fn,tmps,m,body,g,c⟩:=A L k x r hx (j z);exact⟨fn,tmps,m,body,g,c.mono λe C he=>he.imp (λq=>⟨q.1,un q.2⟩) (λq=>⟨q.1,un q.2⟩)⟩) u
 have e0:((3-3:Nat):Int)=0:=rfl;rw[e0,fy,hp]at n;have s:(kS T).length=(T.map Prod.fst).length:=by unfold kS;rw[en]
 rw[s];refine⟨_,rfl,?_⟩;dsimp only;rw[cj];refine use n ?_;rintro _ w2 (⟨rfl,f⟩|⟨rfl,k,hk,f⟩);·exact⟨_,rfl,rfl,.inl (j f)⟩
 ·exact⟨_,rfl,rfl,.inr ⟨k,hk,j f⟩⟩
def O9{t:Nat}{T:c5}(g:Tok T):x4 P E nX (λy=> #[Pb t,y]) (c0 t T) (c0 t T) (kS T):=by
 intro l J X f L W h;obtain⟨R,h1,h2,c⟩:=c0.open h.swap;have a:∀ {Z:Asn} {w:bH},Sep E (Z::cB (dH 3 t R)::emp::L) w->Sep E (Z::c0 t T::L) w:=λq=>(c0.mk h1 h2 (Sep.cB.1 (q.ro 3 [1,0] rfl))).swap;refine(O8 g h1 h2 l J X (λM k x b hx d=>f _ k x b hx d) L W (((Sep.emp.2 (Sep.cB.2 c))).ro 3 [2,1,0] rfl)).mono λe i he=>⟨he.1,he.2.imp a λ⟨k,hk,q⟩=>⟨k,hk,a q⟩⟩
def gN{T:c5}(c:Tok T):T.length<=65536:=by
 have h1:∀(n:Nat) (l:bA Nat),l.Pairwise (· < ·)->(∀x∈l,x<n)->l.length<=n:=by
  intro n;induction n with
  |zero=>intro l _ hl;cases l with
   |nil=>simp
   |cons x l=>exact absurd (hl x fz) bu
  |succ n a=>
   intro l hp hl;have h2:=a (l.filter λx=>x !=n) (hp.filter _) (λx hx=>by
    have b:=gq.1 hx;have:=hl x b.1;have:x≠n:=by simpa using b.2
    omega)
   have g:l.length<=(l.filter λx=>x !=n).length+1:=by
    clear a h2 hl;induction l with
    |nil=>simp
    |cons x l a=>
     obtain⟨f,p2⟩:=g7.1 hp;rw[jD];by_cases hx:x=n
     ·subst hx;rw[bJ (by simp)];have:l.filter (λy=>y !=x)=l:=vZ.2 λy e=>by have:=f y e;simp;omega
      rw[this];simp
     ·rw[bL (by simpa using hx)];have:=a p2;simp;omega
   omega
 have h2:=h1 65536 (T.map Prod.fst) (kc.2 c.cZ) (λx hx=>by obtain⟨q,d,rfl⟩:=fo.1 hx;exact(c.low q d).1);rwa[en]at h2
def aJV{t:Nat}{T:c5}(a:Tok T)(h:Sep E (c0 t T::L) w):Calls P Ic #[Pb t] w (cY E (Iv (T.length:Nat)) (c0 t T::L)):=by
 apply ZE;unfold Nv qJ;have hx:kS T=((T.map Prod.fst).map Int.ofNat).map (Value.int .i64):=by unfold kS;rw[tI,tI,tI];rfl
 have hlen:=gN a;refine use (OI (fi:= #[Pb t]) (ca:= #[]) (λy=>by simp) cV (hx▸O9 a) (by rw[en,en];omega) h) ?_;rintro _ c ⟨s,rfl,b,h1⟩;refine⟨s,rfl,?_,h1.tail⟩;rw[b,en,en]
end Go.Mp
namespace Go.Kw
def walk(T:c5)(a b:Int):bR:=((T.map Prod.fst).filter (hj a b)).map Int.ofNat
end Go.Kw
namespace Go.Mp
open Go Go.Vc Go.Sp Go.Proofs Go.Kc Go.Kv Go.Kw
variable{E:Env}{L:cv}{w W:bH}
def jC(a:Int)(l:bA Nat):bR:=(l.filter λp:Nat=>decide (a<=(p:Int))).map Int.ofNat
def Pa{a b:Int}{l:bA Nat}(h:∀x∈l,(x:Int)<b):(l.filter (hj a b)).map Int.ofNat=jC a l:=by
 unfold jC;congr 1;refine wa λx hx=>?_;unfold hj;have:=h x hx;by_cases c:a<=(x:Int)
 ·rw[dE c,dE ⟨c,this⟩]
 ·rw[di c,di λe=>c e.1]
def aJd{a b:Int}{l:bA Nat}{k:Nat}(hr:l.Pairwise (· < ·))(h:∀x∈l.take k,(x:Int)<b)(hk:∀y,l[k]?=some y->b<=(y:Int)):(l.filter (hj a b)).map Int.ofNat=jC a (l.take k):=by
 have e:l.filter (hj a b)=(l.take k).filter (hj a b)++(l.drop k).filter (hj a b):=by rw[<- tx,fK]
 have g:(l.drop k).filter (hj a b)= []:=by
  rw[List.filter_eq_nil_iff];intro x hx;cases c:l[k]? with
  |none=>rw[List.drop_eq_nil_of_le (by rw[FN]at c;exact c)]at hx;cases hx
  |some y=>
   have j:=hk y c;have d:=(c4.1 c).1;rw[lD d]at hx;have i:l[k]=y:=by rw[dL d]at c;exact cU c
   have:(y:Int)<=x:=by
    rcases ey.1 hx with rfl|hx;·omega
    ·have f:(l.drop k).Pairwise (· < ·):=List.Pairwise.drop hr;rw[lD d]at f;have:=(g7.1 f).1 x hx;omega
   unfold hj;simp;omega
 rw[e,g,hs];exact Pa h
def wJ(c d e:Nat)(a b:Int)(xs:bA Nat)(k:Nat):Asn:=
 fe λs:Sl=>cG (s.n=(jC a (xs.take k)).length) (cB [bC e [Sv s],bw s 1 (bD (jC a (xs.take k))),bC c [Iv a],bC d [Iv b]])
def Pc{t:Nat}{T:c5}{a b:Int}(X:Tok T)(h:Sep E (c0 t T::L) w):Calls P xx #[Pb t,Iv a,Iv b] w
  (cA λv w'=>∃s:Sl,v=Sv s/\s.n=(walk T a b).length/\Sep E (bw s 1 (bD (walk T a b))::c0 t T::L) w'):=by
 obtain⟨xs,G⟩:∃xs,T.map Prod.fst=xs:=⟨_,rfl⟩
 have N:xs.Pairwise (· < ·):=by rw[<- G];exact kc.2 X.cZ
 have hlen:xs.length<=65536:=by rw[<- G,en];exact gN X
 have hw:walk T a b=(xs.filter (hj a b)).map Int.ofNat:=by unfold walk;rw[G]
 have Q:kS T=xs.map λp:Nat=>Iv (p:Nat):=by unfold kS;rw[G]
 have aa:∀k,(jC a (xs.take k)).length<=65536:=by
  intro k;unfold jC;rw[en];have h1:=l0 (λp:Nat=>decide (a<=(p:Int))) (xs.take k);have h2:=List.length_take_le k xs;rw[hJ]at h1;omega
 apply ZH;unfold Dl qC qc;refine Al.i h (λi ai h1=>Al.i h1 (λj w2 h2=>Al.i h2 (λn ae A=>?_)));have I:Sep E (cG (∀x∈xs.take 0,(x:Int)<b) (wJ i j n a b xs 0)::c0 t T::L) ae:=by
  refine Sep.cG.2 ⟨by simp,Sep.ex.2 ⟨⟨none,0,0⟩,Sep.cG.2 ⟨rfl,Sep.cB.2 ?_⟩⟩⟩;exact(bw.none_ (m:=1) A).ro 4 [1,0,3,2] rfl
 refine iy.iO (fi:= #[Pb t]) (ca:= #[]) (λy=>by simp) (τ:=fF) (ρ:=gL) (cz:=cz) (An:=sR) (yl:=Dm) mixed bN bN ZJ cV (O9 X)
  (λk=>cG (∀x∈xs.take k,(x:Int)<b) (wJ i j n a b xs k)) (λk=>cG ((∀x∈xs.take k,(x:Int)<b)/\∀y,xs[k]?=some y->b<=(y:Int)) (wJ i j n a b xs k)) ?_ I ?_ ?_
 ·intro l r L' k x W R u D hx J O U;obtain⟨y,Y,rfl⟩:∃y:Nat,xs[k]?=some y/\x=Iv (y:Nat):=by
   rw[Q,eI]at hx;cases hk:xs[k]? with
   |none=>rw[hk]at hx;cases hx
   |some y=>rw[hk]at hx;exact⟨y,rfl,(cU hx).symm⟩
  have ah:=(c4.1 Y).1;have F:xs.take (k+1)=xs.take k++[y]:=by rw[mF,Y];rfl
  refine(ZI (some ⟨t,0,none⟩) a b ⟨i,0,none⟩ ⟨j,0,none⟩ ⟨n,0,none⟩ (y:Nat) l W R).mpr ?_;unfold NK qC qD qc;refine lf.i J u (λaf g=>?_);obtain⟨f,g⟩:=Sep.cG.1 g.swap;obtain⟨s,g⟩:=Sep.ex.1 g;obtain⟨hn,g⟩:=Sep.cG.1 g;have g:=Sep.cB.1 g;have g:Sep E (bC n [Sv s]::bw s 1 (bD (jC a (xs.take k)))::bC i [Iv a]::bC j [Iv b]::c8 l (.loop {r with state:=.busy})::L') af:=g;have back:∀ {s':Sl} {k':Nat} {o:Obj} {w:bH},s'.n=(jC a (xs.take k')).length->Sep E (c8 l o::bC n [.slice s'.p s'.n s'.c]::bw s' 1 (bD (jC a (xs.take k')))::bC i [Iv a]::bC j [Iv b]::L') w->Sep E (wJ i j n a b xs k'::c8 l o::L') w:=by
   intro s' k' o w C q;exact Sep.ex.2 ⟨s',Sep.cG.2 ⟨C,Sep.cB.2 (q.ro 5 [1,2,3,4,0] rfl)⟩⟩
  refine⟨b,g.cellAt 3 rfl 0,hD (λK=>?_) (λM=>⟨a,g.cellAt 2 rfl 0,hD (λK=>⟨s,g.cell 0,Al.i g (λq aj ab=>?_)⟩) (λV=>?_)⟩)⟩
  ·refine e2.i (g.ro 5 [4,0,1,2,3] rfl) (λag S=>U ag (Sep.swap (Sep.cG.2 ⟨⟨f,λz d=>?_⟩,back hn S⟩)));rw[Y]at d;cases d;exact K
  ·refine sV hn (by have:=aa k;omega) (ab.ro 3 [0,2,1] rfl) (λs' ak C S=>?_);refine St.i S.swap (by show 0<1;decide) (λal ad=>?_);refine e2.i (ad.ro 5 [4,0,1,2,3] rfl) (λZ B=>?_);have e:({ {r with state:=.busy} with state:=if(none:bW Code).isNone then .ready else .done,pending:=none} :Loop)=r:=by
    cases r;simp only at u D;subst u D;rfl
   rw[e]at B;have es:jC a (xs.take (k+1))=jC a (xs.take k)++[(y:Int)]:=by
    unfold jC;rw[F,tx,kK];congr 1;rw[jD,bL (by simpa using K)];rfl
   rw[<- es]at B C;refine O Z (Sep.swap (Sep.cG.2 ⟨λz d=>?_,back C B⟩));rw[F]at d;rcases gF.1 d with d|d;·exact f z d
   ·rw[h8]at d;subst d;exact M
  ·refine e2.i (g.ro 5 [4,0,1,2,3] rfl) (λZ B=>?_);have e:({ {r with state:=.busy} with state:=if(none:bW Code).isNone then .ready else .done,pending:=none} :Loop)=r:=by
    cases r;simp only at u D;subst u D;rfl
   rw[e]at B;have es:jC a (xs.take (k+1))=jC a (xs.take k):=by
    unfold jC;rw[F,tx,kK,jD,bJ (by simpa using V)];simp
   rw[<- es]at B hn;refine O Z (Sep.swap (Sep.cG.2 ⟨λz d=>?_,back hn B⟩));rw[F]at d;rcases gF.1 d with d|d;·exact f z d
   ·rw[h8]at d;subst d;exact M
 ·intro c W J;obtain⟨f,h2⟩:=Sep.cG.1 J.swap;obtain⟨s,h2⟩:=Sep.ex.1 h2;obtain⟨hn,h2⟩:=Sep.cG.1 h2;have h2:=Sep.cB.1 h2;have el:(kS T).length=xs.length:=by rw[Q,en]
  rw[el,gg]at hn h2 f;have h2:Sep E (bC n [Sv s]::bw s 1 (bD (jC a xs))::bC i [Iv a]::bC j [Iv b]::c8 c (.deferred (some []))::c0 t T::L) W:=h2;have A:=h2.ro 6 [4,0,1,5,2,3] rfl;have I:=(A.putObj (o':=.deferred none)).tail;have H:walk T a b=jC a xs:=by rw[hw];exact Pa f
  refine⟨s,h2.cell 0,A.dk,s,rfl,by rw[H];exact hn,?_⟩;rw[H];exact(I.ro 5 [1,2] rfl)
 ·intro c k W _ J;obtain⟨⟨f,hk⟩,h2⟩:=Sep.cG.1 J.swap;obtain⟨s,h2⟩:=Sep.ex.1 h2;obtain⟨hn,h2⟩:=Sep.cG.1 h2;have h2:=Sep.cB.1 h2;have h2:Sep E (bC n [Sv s]::bw s 1 (bD (jC a (xs.take k)))::bC i [Iv a]::bC j [Iv b]::c8 c (.deferred (some []))::c0 t T::L) W:=h2;have A:=h2.ro 6 [4,0,1,5,2,3] rfl;have I:=(A.putObj (o':=.deferred none)).tail;have H:walk T a b=jC a (xs.take k):=by rw[hw];exact aJd N f hk
  refine⟨s,h2.cell 0,A.dk,s,rfl,by rw[H];exact hn,?_⟩;rw[H];exact(I.ro 5 [1,2] rfl)
end Go.Mp
namespace Go.Kw
def Pd{p:Nat}{e:En}:∀ {T:c5},(∀q∈T,q.1<p)->eW T p e=T++[(p,e)]
 |[],_=>rfl
 |(q,f)::r,h=>by
  have h1:q<p:=h _ fz;unfold eW;rw[cF,cF,Pd λx hx=>h x (fT _ hx)];rfl
def Tok.take{T:c5}(h:Tok T)(k:Nat):Tok (T.take k):=⟨h.cZ.take,λq a=>h.low q (m8 a)⟩
end Go.Kw
namespace Go.Mp
open Go Go.Vc Go.Sp Go.Proofs Go.Kc Go.Kv Go.Kw
variable{E:Env}{L:cv}{w W:bH}
def aGV{t:Nat}{T:c5}(o:Tok T)(h:Sep E (c0 t T::L) w):Calls P BU #[Pb t] w
  (cA λv w'=>∃c:Nat,v=Pb c/\Sep E (c0 c T::c0 t T::L) w'):=by
 obtain⟨R,H,I,F⟩:=c0.open h;have F:=Sep.cB.2 F;have V:∀ {M:cv} {w:bH},Sep E (cB (dH 3 t R)::M) w->Sep E (c0 t T::M) w:=λq=>c0.mk H I (Sep.cB.1 q);apply ap0;unfold Dp qR qb;refine Al.i F (λa ab h1=>use (O6 h1) ?_);rintro _ w2 ⟨c,rfl,h2⟩;refine⟨_,rfl,Al.i h2 (λd ad f=>St.i f (by show 0<1;decide) (λN i=>⟨some ⟨t,0,none⟩,i.cellAt 2 rfl 0,?_⟩))⟩;have i:Sep E (bC d [Pb c]::c0 c []::bC a [Pb t]::cB (dH 3 t R)::L) N:=i;have G:Sep E (cB [bC a [Pb t],bC d [Pb c],c0 c (T.take 0)]::cB (dH 3 t R)::emp::L) N:=
  Sep.cB.2 (Sep.ro (Sep.emp.2 i) 5 [3,1,2,4,0] rfl)
 have C:kS T=(T.map λq=>Iv (q.1:Nat)):=by unfold kS;rw[tI];rfl
 refine iy.Dd (fi:= #[Pb t]) (ca:= #[]) (λy=>by simp) (τ:=fF) (ρ:=gL) (cz:=cz) (An:=sS) (yl:=Ds) mixed bN bN aoZ cV (O8 o H I)
  (λk=>cB [bC a [Pb t],bC d [Pb c],c0 c (T.take k)]) (λ_=>cG False emp) ?_ G ?_ ?_
 ·intro l r L' k x W R' n D hx j K _;obtain⟨⟨y,e⟩,p,rfl⟩:∃q,T[k]?=some q/\x=Iv (q.1:Nat):=by
   rw[C,eI]at hx;cases hk:T[k]? with
   |none=>rw[hk]at hx;cases hx
   |some y=>rw[hk]at hx;exact⟨y,rfl,(cU hx).symm⟩
  have m:(y,e)∈T:=eH p;have s:y<65536:=(o.low _ m).1;refine(ao0 (some ⟨t,0,none⟩) ⟨a,0,none⟩ (some ⟨c,0,none⟩) ⟨d,0,none⟩ (some ⟨t,0,none⟩) (y:Nat) l W R').mpr ?_;unfold Ol qQ qb zh;refine lf.i j n (λX Q=>?_);have u:=Sep.cB.1 Q.swap;have u:Sep E (bC a [Pb t]::bC d [Pb c]::c0 c (T.take k)::c8 l (.loop {r with state:=.busy})::cB (dH 3 t R)::L') X:=u;refine⟨_,u.cell 0,?_⟩;have J:=Du (bK:=(y:Nat)) H (Sep.cB.1 (u.ro 5 [4,0,1,2,3] rfl));have O:il R (y:Int)=some e.enc:=by unfold il;rw[eJ,dz,I y s,s0 o.cZ m];rfl
  rw[O]at J;refine use J ?_;rintro _ Y ⟨rfl,S⟩;have z:=Sep.cB.2 S;have z:Sep E (cB (dH 3 t R)::bC a [Pb t]::bC d [Pb c]::c0 c (T.take k)::c8 l (.loop {r with state:=.busy})::L') Y:=z;refine⟨_,_,rfl,_,z.cellAt 2 rfl 0,use (DD (o.take k) s (z.ro 5 [3,0,1,2,4] rfl)) ?_⟩;rintro _ Z ⟨rfl,g⟩;have es:eW (T.take k) y e=T.take (k+1):=by
   rw[mF,p];refine Pd λq U=>?_;have hr:=o.cZ;have B:=(c4.1 p).1;rw[<- fK k T,lD B]at hr;have f:=(jv.1 hr).2.2 q U T[k] fz;rw[dL B]at p;rw[cU p]at f;exact f
  rw[es]at g;have g:Sep E (c0 c (T.take (k+1))::cB (dH 3 t R)::bC a [Pb t]::bC d [Pb c]::c8 l (.loop {r with state:=.busy})::L') Z:=g;refine⟨_,rfl,e2.i (g.ro 5 [4,2,3,0,1] rfl) (λaa A=>?_)⟩;have er:({ {r with state:=.busy} with state:=if(none:bW Code).isNone then .ready else .done,pending:=none} :Loop)=r:=by
   cases r;simp only at n D;subst n D;rfl
  rw[er]at A;exact K aa (Sep.swap (Sep.cB.2 (A.ro 5 [1,2,3,0,4] rfl)))
 ·intro b W j;have el:(kS T).length=T.length:=by rw[C,en]
  rw[el,gg]at j;have h2:=Sep.cB.1 j.swap;have h2:Sep E (bC a [Pb t]::bC d [Pb c]::c0 c T::c8 b (.deferred (some []))::cB (dH 3 t R)::emp::L) W:=h2;have f:=h2.ro 6 [3,2,4,0,1,5] rfl;have i:=(f.putObj (o':=.deferred none)).tail;refine⟨_,h2.cellAt 1 rfl 0,f.dk,c,rfl,?_⟩;have G:=V (i.ro 5 [1,0] rfl);exact G.swap
 ·intro b k W _ j;exact(Sep.cG.1 j.swap).1.elim
end Go.Mp
namespace Go.Sp
open Go Go.Vc
structure jR(w:bH)(s:Sl)(l:bR):Prop where
 n:s.n=l.length
 rd:∀(i:Nat) x,l[i]?=some x->∃a,s.p=some a/\w.cell? (a.add i)=some (Iv x)
variable{E:Env}{L:cv}{w W:bH}{P:cP}
def jR.grow{s:Sl}{l:bR}(h:jR W s l)(g:Grow W w):jR w s l:=⟨h.n,λi x hx=>let ⟨a,h1,h2⟩:=h.rd i x hx;⟨a,h1,g.cell h2⟩⟩
def jR.el{s:Sl}{l:bR}{i:Int}{F:Int->Prop}(h:jR w s l)(k:Nat)(d:i=k){x:Int}(hx:l[k]?=some x)(f:F x):cM s.p s.n i 1 λa=>∃v:Int,w.cell? a=some (Iv v)/\F v:=by
 have c:=(c4.1 hx).1;obtain⟨a,hp,b⟩:=h.rd k x hx;have:=h.n;refine⟨a,hp,⟨bu,bu⟩,x,?_,f⟩;have e:i.toNat=k:=by omega
 rw[e,fM];exact b
def jR.row{s:Sl}{l:bR}{q:Nat}(h:Sep E L w)(c:L[q]?=some (bw s 1 (bD l)))(hn:s.n=l.length):jR w s l:=by
 refine⟨hn,λi x hx=>?_⟩;have a:=(c4.1 hx).1;have h1:=h.fr q c;obtain⟨b,spare,hp,d,e,f,h2⟩:=bw.ik h1 bu;refine⟨_,hp,?_⟩;rw[cj,fy,bw.cell h2 (by rw[YY];exact a),x5,hx];rfl
def oO{g:bE}{args:cb bE}{K:bg1}{R:Ending->bg0}(h:eY P g args w (cA K))(k:∀v w',K v w'->R (.returned v) w'):eY P g args w R:=by
 obtain⟨f,ca,b,ho,a⟩:=h;exact⟨f,ca,b,ho,a.mono λe w' he=>by obtain⟨v,rfl,c⟩:=he;exact k v w' c⟩
end Go.Sp
namespace Go.Mp
open Go Go.Vc Go.Sp Go.Proofs Go.Kt
variable{E:Env}{L:cv}{w W:bH}
def DE{s:Sl}{l:bR}(b:jR w s l)(hb:l.length<4611686018427387904)(v:Int):Calls P py #[Sv s,Iv v] w (cA λr w'=>r=.bool (l.contains v)/\w'=w):=by
 apply C4;unfold x1 qQ;have key:Calls P uP #[Sv s,Iv v] w (cA λr w'=>(∃x:Int,r=Iv x/\decide (x≥0)=l.contains v)/\w'=w):=by
  apply C9;unfold x2 qD qO qW;have hn:=b.n;refine⟨λi w'=>w'=w/\∃k:Nat,i=k/\k<=l.length/\(l.take k).contains v=false,λi _=>(l.length-i).toNat,⟨rfl,0,rfl,e7 _,by simp⟩,?_⟩;rintro _ i d ⟨rfl,k,rfl,hk,a⟩;refine cX (λg=>?_) (λf=>?_)
  ·obtain⟨x,hx⟩:∃x,l[k]?=some x:=⟨_,dN⟩
   refine b.el k rfl hx ?_;refine eX (λe=>?_) (λc=>?_)
   ·subst e;refine⟨⟨_,rfl,?_⟩,rfl⟩;rw[dE bu];exact(kX.2 (eH hx)).symm
   ·refine⟨⟨rfl,k+1,de,bu,?_⟩,by rw[de];dsimp only;omega⟩;rw[fL hx,List.contains_eq_any_beq,Gm,<- List.contains_eq_any_beq,a];simpa using c
  ·refine⟨⟨_,rfl,?_⟩,rfl⟩;have:k=l.length:=by omega
   subst this;rw[gg]at a;rw[a];rfl
 refine use key ?_;rintro _ d ⟨⟨x,rfl,hx⟩,rfl⟩;refine⟨x,rfl,?_,rfl⟩;rw[hx]
def Pe{b:Nat}{l:bA G}{A:Asn}{is:bE}{isB:Nat->Bool}(hw:WF l)(o:∀i x,l[i]?=some x->∀L w,Sep E (dR b l::A::L) w->eY P is #[Iv (i:Nat)] w (cY E (.bool (isB i)) (dR b l::A::L)))(h:Sep E (dR b l::A::L) w):Calls P Ca #[Pb b,is] w (cA λv w'=>∃s:Sl,v=Sv s/\s.n=(nP l isB).length/\Sep E (bw s 1 (bD (nP l isB))::dR b l::A::L) w'):=by
 apply Xd;unfold Lw qC qK qW qf qh qy;obtain⟨C,I,t⟩:=dR.get h;refine⟨_,rfl,C,t.cell 0,?_⟩;let part:Nat->bR:=λk=>((List.range k).filter λi:Nat=>dt l (i:Int)&&isB i).map Int.ofNat;have z:=hw.e8;have r:∀k,k<=l.length->(part k).length<=64:=λk hk=>by
  have:=l0 (λi:Nat=>dt l (i:Int)&&isB i) (List.range k);simp only[part,en];rw[Gc]at this;omega
 refine⟨λs i w'=>∃k:Nat,i=k/\k<=l.length/\s.n=(part k).length/\Sep E (bw s 1 (bD (part k))::dR b l::A::L) w',λ_ i _=>(l.length-i).toNat,⟨0,rfl,e7 _,rfl,bw.none_ h⟩,?_⟩;rintro _ s i D ⟨k,rfl,hk,hn,h1⟩;have j:part (k+1)=part k++(if(dt l (k:Int)&&isB k)=true then[Int.ofNat k]else[]):=by
  simp only[part];rw[Gj,tx,kK];congr 1;rw[jD];split<;>rfl
 refine cX (λH=>?_) (λF=>?_)
 ·have a:k<l.length:=by omega
  obtain⟨x,hx⟩:∃x,l[k]?=some x:=⟨_,dL a⟩
  have c:dt l (k:Int)=x.live:=by unfold dt;rw[dz,hx,dE bu];rfl
  refine⟨λy w'=>y=(dt l (k:Int)&&isB k)/\Sep E (bw s 1 (bD (part k))::dR b l::A::L) w',?_,?_⟩
  ·obtain⟨s1,p,h2⟩:=dR.get (h1.fr 1 rfl);refine⟨_,rfl,s1,h2.cell 0,sU 1 h2 rfl p rfl hx (λJ _ u=>⟨x.live,?_,?_⟩)⟩;·rw[cj];exact u 1 bN
   ·refine cw (λd=>?_) (λd=>?_)
    ·refine oO (o k x hx (bw s 1 (bD (part k))::L) D (h1.ro 3 [1,2,0] rfl)) ?_;rintro _ w2 ⟨rfl,m⟩;refine⟨_,rfl,?_,m.ro 3 [2,0,1] rfl⟩;rw[c,d];rfl
    ·refine⟨?_,h1⟩;rw[c,d];rfl
  ·rintro _ y w2 ⟨f,h2⟩;refine cw (λB=>?_) (λhf=>?_)
   ·rw[B]at f;refine Al.i h2 (λq K m=>?_);refine sV hn (by have:=r k hk;omega) m (λs' M g n=>?_);have e:part (k+1)=part k++[(k:Int)]:=by rw[j,bL f.symm];rfl
    rw[<- e]at g n;exact⟨⟨k+1,de,a,g,n⟩,by rw[de];dsimp only;omega⟩
   ·rw[hf]at f;have e:part (k+1)=part k:=by rw[j,bJ (by rw[<- f];decide),hs]
    rw[<- e]at hn h2;exact⟨⟨k+1,de,a,hn,h2⟩,by rw[de];dsimp only;omega⟩
 ·have:k=l.length:=by omega
  subst this;exact⟨s,rfl,hn,h1⟩
def u7{b:Nat}{l:bA G}{g:Int}(hw:WF l)(h:Sep E (dR b l::L) w):Calls P ss #[Pb b,Iv g] w (cA λv w'=>∃s:Sl,v=Sv s/\s.n=(ia l g).length/\
  Sep E (bw s 1 (bD (ia l g))::dR b l::L) w'):=by
 apply Wu;unfold KV qC qD qF qJ qb;refine Al.i h (λj r h1=>Al.i h1 (λk w2 h2=>?_));refine⟨_,h2.cellAt 1 rfl 0,_,h2.cell 0,?_⟩;refine use (kB (q:=2) h2 rfl) ?_;rintro _ p ⟨rfl,rfl⟩;refine⟨_,rfl,cw (λf=>?_) (λf=>?_)⟩
 ·have:dt l g=false:=by simpa using f
  have e:ia l g= []:=by unfold ia;rw[this];rfl
  rw[e];exact⟨⟨none,0,0⟩,rfl,rfl,bw.none_ (h2.ro 3 [2] rfl)⟩
 ·have hl:dt l g=true:=by simpa using f
  refine⟨_,h2.cellAt 1 rfl 0,?_⟩;have n:Sep E (dR b l::star (bC j [Pb b]) (bC k [Iv g])::L) p:=(Sep.star.2 (h2.ro 3 [1,0,2] rfl)).swap;refine use (Pe (isB:=λi=>(dp l i).contains g) hw ?_ n) ?_
  ·intro i x hx L' m a;refine⟨Cb,_,rfl,by kernel_rfl,?_⟩;show Calls P Cb #[Iv (i:Nat),Pb j,Pb k] m _;apply Xe;unfold Lx qD qF qJ qb zG;have o:Sep E (bC j [Pb b]::bC k [Iv g]::dR b l::L') m:=Sep.star.1 a.swap;refine Dr.i o (λt c=>?_);refine⟨_,c.cell 0,_,c.cellAt 1 rfl 0,?_⟩;refine use (sW hw (c.fr 2 rfl)) ?_;rintro _ u ⟨s,rfl,hn,d⟩;refine⟨s,rfl,_,d.cellAt 3 rfl 0,rfl,?_⟩;refine use (DE (jR.row (q:=0) d rfl hn) (by have:=pG hw i;omega) g) ?_;rintro _ y ⟨rfl,rfl⟩;refine⟨_,rfl,rfl,?_⟩;exact(Sep.star.2 (d.ro 4 [2,3,1] rfl)).swap
  ·rintro _ m ⟨s,rfl,hn,a⟩;have e:ia l g=nP l (λi=>(dp l i).contains g):=by unfold ia;rw[bL hl]
   rw[e];exact⟨s,rfl,s,rfl,hn,a.ro 3 [0,1] rfl⟩
def aJH{b:Nat}{l:bA G}{g:Int}(hw:WF l)(h:Sep E (dR b l::L) w):Calls P IZ #[Pb b,Iv g] w (cA λv w'=>∃s:Sl,v=Sv s/\s.n=(kg l g).length/\
  Sep E (bw s 1 (bD (kg l g))::dR b l::L) w'):=by
 apply W3;unfold Lm qC qD qF qJ qb;refine Al.i h (λf y h1=>Al.i h1 (λj w2 h2=>?_));refine⟨_,h2.cellAt 1 rfl 0,_,h2.cell 0,?_⟩;refine use (kB (q:=2) h2 rfl) ?_;rintro _ t ⟨rfl,rfl⟩;refine⟨_,rfl,cw (λd=>?_) (λd=>?_)⟩
 ·have:dt l g=false:=by simpa using d
  have e:kg l g= []:=by unfold kg;rw[this];rfl
  rw[e];exact⟨⟨none,0,0⟩,rfl,rfl,bw.none_ (h2.ro 3 [2] rfl)⟩
 ·have hl:dt l g=true:=by simpa using d
  refine⟨_,h2.cellAt 1 rfl 0,?_⟩;have o:Sep E (dR b l::star (bC f [Pb b]) (bC j [Iv g])::L) t:=(Sep.star.2 (h2.ro 3 [1,0,2] rfl)).swap;refine use (Pe (isB:=λi=>((l[i]?).map G.up).getD (-1)==g) hw ?_ o) ?_
  ·intro i x hx L' k c;refine⟨Ct,_,rfl,by kernel_rfl,?_⟩;show Calls P Ct #[Iv (i:Nat),Pb f,Pb j] k _;apply XK;unfold L2 qD qK qL qW qb;have p:Sep E (bC f [Pb b]::bC j [Iv g]::dR b l::L') k:=Sep.star.1 c.swap;refine Dr.i p (λz a=>?_);obtain⟨s1,n,m⟩:=dR.get (a.fr 2 rfl);refine⟨_,a.cell 0,⟨_,rfl,s1,m.cell 0,sU 1 m rfl n rfl hx (λu _ r=>⟨x.up,?_,_,a.cellAt 1 rfl 0,?_,?_⟩)⟩⟩;·rw[cj];exact r 0 bN
   ·rw[hx];rfl
   ·exact(Sep.star.2 a).swap
  ·rintro _ k ⟨s,rfl,hn,c⟩;have e:kg l g=nP l (λi=>((l[i]?).map G.up).getD (-1)==g):=by unfold kg;rw[bL hl]
   rw[e];exact⟨s,rfl,s,rfl,hn,c.ro 3 [0,1] rfl⟩
def Pf:hi P Vn=some (16,2,[Iv 0,.bool false]):=by kernel_rfl
def DF{b:Nat}{l:bA G}{p:Int}(hw:WF l)(h:Sep E (dR b l::L) w):Calls P ID #[Pb b,Iv p] w (cY E (.tuple #[Iv (gi l p).2.1,Iv (gi l p).2.2]) (dR b (gi l p).1::L)):=by
 apply Wm;unfold KN qF qK qQ;have x:=hw.e8;refine use (kB (q:=0) h rfl) ?_;rintro _ D ⟨rfl,rfl⟩;refine⟨_,rfl,cw (λj=>?_) (λj=>?_)⟩
 ·have:dt l p=false:=by simpa using j
  unfold gi;rw[bL this];exact⟨rfl,h⟩
 have hl:¬ dt l p=false:=by simpa using j
 refine use (aIq hw h) ?_;rintro _ w2 ⟨rfl,h2⟩;refine⟨_,rfl,hD (λd=>?_) (λC=>?_)⟩;·unfold gi;rw[bJ hl,bL d];exact⟨rfl,h2⟩
 obtain⟨s,hn,g⟩:=dR.get h2;refine⟨_,rfl,s,g.cell 0,hD (λd=>?_) (λy=>?_)⟩;·unfold gi;rw[bJ hl,cF,eJ];exact⟨rfl,h2⟩
 refine⟨_,rfl,s,g.cell 0,Al.i g (λq F k=>?_)⟩;have z:=Src.bC (n:=1) (c:=1) k (i:=0) rfl Pf rfl (λu hu=>by simp at hu;rcases hu with rfl|rfl<;>rfl);refine bw.append (k.ro 3 [2,0,1] rfl) Pf rfl z bu bu (λs' A f r=>?_);have t:Sep E (bC b [Sv s]::bw s' 2 (bP G.vs (l++[⟨p,true⟩]))::L) A:=by
  have e:bP G.vs (l++[⟨p,true⟩])=bP G.vs l++[Iv p,.bool true]:=by rw[m4,oL];rfl
  rw[e];exact r.ro 3 [2,0] rfl
 refine⟨_,rfl,St.i t (by show 0<1;decide) (λB a=>?_)⟩;have a:Sep E (bC b [.slice s'.p s'.n s'.c]::bw s' 2 (bP G.vs (l++[⟨p,true⟩]))::L) B:=a;refine⟨_,rfl,s',a.cell 0,?_⟩;have m:gi l p=(l++[⟨p,true⟩],(l.length:Int),0):=by unfold gi;rw[bJ hl,cF,cF]
 rw[m];refine⟨?_,dR.mk (by rw[f,hn];simp) a⟩;have o:i64.wrap (((s'.n:Nat):Int)-1)=(l.length:Int):=by rw[f,hn,cR bu bu];omega
 rw[o]
def nG{b:Nat}{l:bA G}{g:Int}(hw:WF l)(h:Sep E (dR b l::L) w):Calls P IF #[Pb b,Iv g] w (cY E (Iv (iT l g).2) (dR b (iT l g).1::L)):=by
 apply Wo;unfold KP qF qJ qK qW;refine eX (λa=>?_) (λa=>?_);·unfold iT;rw[bL a];exact⟨rfl,h⟩
 refine use (kB (q:=0) h rfl) ?_;rintro _ y ⟨rfl,rfl⟩;refine⟨_,rfl,cw (λi=>?_) (λi=>?_)⟩
 ·have:dt l g=false:=by simpa using i
  unfold iT;rw[bJ a,bL this];exact⟨rfl,h⟩
 have hl:dt l g=true:=by simpa using i
 have c:¬ dt l g=false:=by rw[hl];decide
 refine use (aJH hw h) ?_;rintro _ w2 ⟨s,rfl,hn,h2⟩;refine⟨s,rfl,gn (λr=>?_) (λhle=>?_)⟩
 ·have:kg l g≠ []:=λe=>by rw[e]at hn;simp at hn;omega
  unfold iT;rw[bJ a,bJ c,bL this];exact⟨rfl,h2.tail⟩
 have hk:¬ kg l g≠ []:=λk=>k (tr bu);obtain⟨n,rfl,x,hx,t⟩:=iR.1 hl;obtain⟨s1,d,f⟩:=dR.get h2.tail;have m:iT l (n:Int)=(l.set n ⟨x.up,false⟩,0):=by
  unfold iT;rw[bJ a,bJ c,bJ hk,dz,hx];rfl
 rw[m];refine⟨_,rfl,s1,f.cell 0,sU 1 f rfl d rfl hx (λu j _=>?_)⟩;have o:=f.swap;rw[cj];refine sM G.kR (a':=⟨x.up,false⟩) o j hx bN rfl (λz p=>⟨rfl,dR.mk ?_ p.swap⟩);rw[dM];exact d
end Go.Mp
namespace Go.Kw
def Rg.vs(x:Rg):bA bE:=[Iv x.a,Iv x.b,Iv x.kind,Iv x.file,Iv x.idx,.bool x.wr]
def Rg.s3(x:Rg):x.vs.length=6:=rfl
def Ph:∀ {l:bA Rg} {a:Int},fc a l=true->0<=a->l= []\/a+l.length<=65536
 |[],_,_,_=>.inl rfl
 |x::r,a,h,d=>by
  right;simp only[fc,dA,gE,Rg.valid]at h;obtain⟨⟨⟨h1,_⟩,h2⟩,b⟩:=h;rcases Ph b (bu)with rfl|c;·simp;omega
  ·simp;omega
def ye{l:bA Rg}(h:fc 0 l=true):l.length<=65536:=by
 rcases Ph h (g3 0)with rfl|a;·simp
 ·omega
def yf:∀ {l:bA Rg} {a:Int},fc a l=true->∀x∈l,x.valid=true
 |x::r,a,h,y,b=>by
  simp only[fc,dA]at h;rcases ey.1 b with rfl|b;·exact h.1.1
  ·exact yf h.2 y b
def DG(q:Rg->Bool):∀l:bA Rg,fN q l<=l.length
 |[]=>ep _
 |x::r=>by unfold fN;have:=DG q r;split<;>simp;omega
def DH{q:Rg->Bool}:∀ {l:bA Rg} {k:Nat} {x:Rg},l[k]?=some x->q x=true->(∀j y,j<k->l[j]?=some y->q y=false)->fN q l=k
 |y::r,0,x,h,b,_=>by simp at h;subst h;unfold fN;rw[bL b]
 |y::r,k+1,x,h,b,a=>by
  unfold fN;rw[bJ (by rw[a 0 y bu rfl];decide),DH (l:=r) (k:=k) (by simpa using h) b λj z d c=>a (j+1) z bu (by simpa using c)]
def Pj{q:Rg->Bool}:∀ {l:bA Rg},(∀(j:Nat) y,l[j]?=some y->q y=false)->fN q l=l.length
 |[],_=>rfl
 |y::r,h=>by
  unfold fN;rw[bJ (by rw[h 0 y rfl];decide),Pj (l:=r) λj z a=>h (j+1) z (by simpa using a)];rfl
def yg{q:Rg->Bool}:∀ {l:bA Rg} {x:Rg},l[fN q l]?=some x->q x=true
 |y::r,x,h=>by
  unfold fN at h;split at h;·next a=>simp at h;subst h;exact a
  ·exact yg (l:=r) (by simpa using h)
end Go.Kw
namespace Go.Mp
open Go Go.Vc Go.Sp Go.Proofs Go.Kc Go.Kv Go.Kw
variable{E:Env}{L:cv}{w W:bH}
def cQ(s:Sl)(l:bA Rg):Asn:=bw s 6 (bP Rg.vs l)
def gz{b i:Nat}{x:Rg}{F:Int->Int->Int->Int->Int->Bool->Prop}(h:Sep E L w)(a:L[i]?=some (bC b x.vs))(k:F x.a x.b x.kind x.file x.idx x.wr):
  ∃c:Int,w.cell? ((⟨b,0,none⟩:Addr).add 0)=some (Iv c)/\∃d:Int,w.cell? ((⟨b,0,none⟩:Addr).add 1)=some (Iv d)/\∃e:Int,w.cell? ((⟨b,0,none⟩:Addr).add 2)=some (Iv e)/\∃f:Int,w.cell? ((⟨b,0,none⟩:Addr).add 3)=some (Iv f)/\∃g:Int,w.cell? ((⟨b,0,none⟩:Addr).add 4)=some (Iv g)/\∃j:Bool,w.cell? ((⟨b,0,none⟩:Addr).add 5)=some (.bool j)/\F c d e f g j:=
 ld h i rfl a rfl (ld h i rfl a rfl (ld h i rfl a rfl (ld h i rfl a rfl (ld h i rfl a rfl (ld h i rfl a rfl k)))))
def oP{s:Sl}{l:bA Rg}{i:Int}{k:Nat}{x:Rg}{F:Addr->Int->Int->Int->Int->Int->Bool->Prop}(q:Nat)(h:Sep E L w)(o:L[q]?=some (cQ s l))(hn:s.n=l.length)(n:i=k)(hx:l[k]?=some x)(p:∀a,F a x.a x.b x.kind x.file x.idx x.wr):
  cM s.p s.n i 6 λa=>∃d:Int,w.cell? (a.add 0)=some (Iv d)/\∃e:Int,w.cell? (a.add 1)=some (Iv e)/\∃f:Int,w.cell? (a.add 2)=some (Iv f)/\∃g:Int,w.cell? (a.add 3)=some (Iv g)/\∃j:Int,w.cell? (a.add 4)=some (Iv j)/\∃m:Bool,w.cell? (a.add 5)=some (.bool m)/\F a d e f g j m:=
 lR Rg.s3 q h o hn n hx (λb _ c=>⟨_,by rw[cj];exact c 0 _ rfl,_,by rw[cj];exact c 1 _ rfl,_,by rw[cj];exact c 2 _ rfl,_,by rw[cj];exact c 3 _ rfl,_,by rw[cj];exact c 4 _ rfl,_,by rw[cj];exact c 5 _ rfl,p _⟩)
def Pk(x:Rg)(h:Sep E L w):Calls P Cf #[.agg x.vs.toArray] w (cY E (.bool x.valid) L):=by
 apply aw1;unfold N5 qL qg zY;refine Al.i h (λp d h1=>?_);have h1:Sep E (bC p x.vs::L) d:=h1;have bad:¬ (0<=x.a/\x.a<x.b/\x.b<=65536)->x.valid=false:=λa=>by unfold Rg.valid;rw[di a];rfl
 refine⟨λw'=>(0<=x.a/\x.a<x.b/\x.b<=65536)/\w'=d,ld h1 0 rfl rfl rfl (cX (λa=>⟨by rw[bad bu],h1.tail⟩) (λh2=>ld h1 0 rfl rfl rfl (ld h1 0 rfl rfl rfl (h4 (λa=>⟨by rw[bad bu],h1.tail⟩) (λf=>ld h1 0 rfl rfl rfl (gn (λa=>⟨by rw[bad bu],h1.tail⟩) (λg=>⟨⟨h2,f,g⟩,rfl⟩))))))),?_⟩;rintro _ _ ⟨ho,rfl⟩;have i:x.valid=(if x.kind=1 then decide (x.file=0/\x.idx=0)else if x.kind=2 then decide (0<=x.file/\x.file<=1048576/\0<=x.idx/\x.idx<=2097152-(x.b-x.a))else false):=by unfold Rg.valid;rw[dE ho,l4]
 rw[i];refine ld h1 0 rfl rfl rfl (eX (λhk=>?_) (λhk=>eX (λb=>?_) (λb=>?_)))
 ·rw[bL hk];refine ld h1 0 rfl rfl rfl (eX (λhf=>ld h1 0 rfl rfl rfl ⟨?_,h1.tail⟩) (λhf=>⟨?_,h1.tail⟩))
  ·congr 1;by_cases c:x.idx=0;·rw[dE ⟨hf,c⟩,c];rfl
   ·rw[di λe=>c e.2];exact beq_false_of_ne c
  ·rw[di λe=>hf e.1]
 ·rw[bJ hk,bL b];refine ld h1 0 rfl rfl rfl (h4 (λf1=>ld h1 0 rfl rfl rfl (h4 (λf2=>ld h1 0 rfl rfl rfl (h4 (λf3=>ld h1 0 rfl rfl rfl (ld h1 0 rfl rfl rfl (ld h1 0 rfl rfl rfl ⟨?_,h1.tail⟩))) (λa=>⟨?_,h1.tail⟩))) (λa=>⟨?_,h1.tail⟩))) (λa=>⟨?_,h1.tail⟩))
  ·rw[cR (n:=x.b-x.a) bu bu,cR bu bu];exact eK Value.bool (tD.2 ⟨λe=>⟨f1,f2,f3,e⟩,λe=>e.2.2.2⟩)
  ·rw[di λe=>bu]
  ·rw[di λe=>bu]
  ·rw[di λe=>bu]
 ·rw[bJ hk,bJ b];exact⟨rfl,h1.tail⟩
def DI{s:Sl}{l:bA Rg}(hn:s.n=l.length)(hb:l.length<1000000)(h:Sep E (cQ s l::L) w):Calls P xK #[Sv s] w (cY E (.bool (fc 0 l)) (cQ s l::L)):=by
 apply aw0;unfold N4 qF qI qL qU qW zR zg;refine⟨λa i w'=>∃k:Nat,i=k/\k<=l.length/\fc a (l.drop k)=fc 0 l/\Sep E (cQ s l::L) w',λ_ i _=>(l.length-i).toNat,⟨0,rfl,e7 _,rfl,h⟩,?_⟩;rintro _ a _ o ⟨k,rfl,hk,hr,h1⟩;refine cX (λn=>?_) (λm=>?_)
 ·obtain⟨x,hx⟩:∃x,l[k]?=some x:=⟨_,dN⟩
  have f:l.drop k=x::l.drop (k+1):=by
   have e:=(c4.1 hx).1;rw[lD e];rw[dL e]at hx;rw[cU hx]
  rw[f]at hr;simp only[fc]at hr;refine oP 0 h1 rfl hn rfl hx (λ_=>Al.i h1 (λp w2 h2=>ew _ h2 rfl (λj d=>?_)));have d:Sep E (bC p x.vs::cQ s l::L) j:=d;refine gz d (i:=0) rfl (use (Pk x d) ?_);rintro _ q ⟨rfl,c⟩;refine⟨_,rfl,cw (λb=>?_) (λb=>ld c 0 rfl rfl rfl (cX (λg=>?_) (λg=>ld c 0 rfl rfl rfl ⟨⟨k+1,de,bu,?_,c.tail⟩,?_⟩)))⟩
  ·have b:x.valid=false:=by simpa using b
   rw[b]at hr;exact⟨by rw[<- hr];rfl,c.tail⟩
  ·rw[di bu,rL,wi]at hr;exact⟨by rw[<- hr],c.tail⟩
  ·have b:x.valid=true:=by simpa using b
   rw[b,dE bu]at hr;exact hr
  ·rw[de];dsimp only;omega
 ·have:k=l.length:=by omega
  subst this;rw[we]at hr;exact⟨by rw[<- hr];rfl,h1⟩
def Pm{s:Sl}{l:bA Rg}{f:bE}{q:Rg->Bool}{A:Asn}(m:∀x w,Sep E (A::cQ s l::L) w->eY P f #[.agg x.vs.toArray] w (cY E (.bool (q x)) (A::cQ s l::L)))(hn:s.n=l.length)(hb:l.length<1000000)(h:Sep E (A::cQ s l::L) w):
  Calls P Cg #[Sv s,f] w (cY E (Iv (if fN q l<l.length then(fN q l:Int)else -1)) (A::cQ s l::L)):=by
 apply Xu;unfold LH qO qW zR;refine⟨λi w'=>∃k:Nat,i=k/\k<=l.length/\(∀j y,j<k->l[j]?=some y->q y=false)/\Sep E (A::cQ s l::L) w',λi _=>(l.length-i).toNat,⟨0,rfl,e7 _,λj y d=>absurd d bu,h⟩,?_⟩;rintro _ _ n ⟨k,rfl,hk,a,h1⟩;refine cX (λp=>?_) (λo=>?_)
 ·obtain⟨x,hx⟩:∃x,l[k]?=some x:=⟨_,dN⟩
  refine oP 1 h1 rfl hn rfl hx (λ_=>oO (m x n h1) ?_);rintro _ w2 ⟨rfl,h2⟩;refine⟨_,rfl,cw (λc=>⟨?_,h2⟩) (λc=>⟨⟨k+1,de,bu,λj y d b=>?_,h2⟩,?_⟩)⟩;·rw[DH hx c a,eJ]
  ·rcases hN j k with e|e;·exact a j y e b
   ·have:j=k:=by omega
    subst this;rw[hx]at b;cases b;exact c
  ·rw[de];dsimp only;omega
 ·have g:k=l.length:=by omega
  subst g;refine⟨?_,h1⟩;rw[Pj λj y b=>a j y (c4.1 b).1 b,cF]
end Go.Mp
namespace Go.Sp
open Go Go.Vc
variable{E:Env}{L:cv}{w:bH}{P:cP}{s:Sl}{m:Nat}{vs:bA bE}
def aKb{n c:Nat}(a:c<n):Builtin.nextslicecap n c<=4*n:=by
 unfold Builtin.nextslicecap;split;·omega
 ·split;·omega
  ·have go:∀r c,c<=n+(n+768)/4->Builtin.growBy n r c<=n+(n+768)/4:=by
    intro r;induction r with
    |zero=>intro c a;exact a
    |succ r b=>
     intro c a;unfold Builtin.growBy;split;·exact a
     ·exact b _ bu
   have:=go 4 c bu;omega
def bw.pre{x:bE}{k j:Nat}{news:bA bE}{st D ty:cf}{dd:Nat}{zs:bA bE}(h:Sep E (bw s m vs::L) w)(A:hi P st=some (dd,m,zs))(B:zs.length=m)(r:Src P m D x j news w)(y:0<j)(hk:k<=s.n)(q:4*(k+j)*dd<=281474976710656)(N:k+j<4611686018427387904){G:Sl->bg0}(g:∀s' d,s'.n=k+j->Sep E (bw s' m (vs.take (k*m)++news)::bw s m vs::L) d->G s' d):
  ∃C:Sl,∃d,Sem.run P (Builtin.append_ #[st,D] ty #[.slice (gj s.p 0 k m) (k-0) (k-0),x]) w=.ok (Sv C) d/\G C d:=by
 have l:=r.newsLen;have f:∀c,c<k+j->Builtin.nextslicecap (k+j) c*dd<=281474976710656:=λc K=>mJ (kY _ (aKb K)) q;rw[Gw];have F:=h;unfold bw at h;split at h
 ·next hp=>
  obtain⟨⟨h1,h2,u⟩,h⟩:=Sep.cG.1 h;have z:k=0:=by omega
  subst z;have e:gj s.p 0 0 m=none:=by unfold gj;rw[bL rfl,hp]
  rw[e];rw[fy]at g f;refine jx.i F A r y bu (f 0 y) (λt c' d i n=>g _ d rfl ?_);rw[oh,wj,l3];refine bw.make (spare:=(Builtin.zeroCells zs.toArray (c'-j)).toList) n l ?_ i;rw[sI];simp only[l,Gb,B,<- ke];congr 1;omega
 ·next a p=>
  obtain⟨spare,h⟩:=Sep.ex.1 h;obtain⟨⟨h1,h2,u,n,H⟩,h⟩:=Sep.cG.1 h;obtain⟨b,o,sp⟩:=a;simp only at h1 h2;subst h1 h2;have e:gj s.p 0 k m=some ⟨b,0,none⟩:=by
   unfold gj;split;·exact p
   ·rw[p];show some (Addr.add ⟨b,0,none⟩ (0*m))=_;rw[cj,oh]
  rw[e];have O:k*m<=s.n*m:=kY _ hk;refine append.i h A r (by simp;omega) (λM=>bu) bu (f _) (λM=>bu) (λ_ t c' d i v=>g _ d rfl ?_);have e:((vs++spare).drop 0).take (k*m)=vs.take (k*m):=by rw[rK,rD bu]
  rw[e]at v;have I:Sep E (bC t (vs.take (k*m)++news++(Builtin.zeroCells zs.toArray (c'-(k+j))).toList)::bw s m vs::L) d:=by
   refine Sep.swap ?_;unfold bw;rw[p];exact Sep.ex.2 ⟨spare,Sep.cG.2 ⟨⟨rfl,rfl,u,n,H⟩,v.swap⟩⟩
  have Q:(k+j)*m=k*m+j*m:=ke _ _ _;refine bw.make (spare:=(Builtin.zeroCells zs.toArray (c'-(k+j))).toList) I (by simp;omega) ?_ i;rw[sI];have J:(vs.take (k*m)++news).length=(k+j)*m:=by simp;omega
  rw[J,Gb,B,<- ke];congr 1;omega
end Go.Sp
namespace Go.Mp
open Go Go.Vc Go.Sp Go.Proofs Go.Kc Go.Kv Go.Kw
variable{E:Env}{L:cv}{w W:bH}
def pH:hi P Vo=some (48,6,[Iv 0,Iv 0,Iv 0,Iv 0,Iv 0,.bool false]):=by kernel_rfl
def DJ(x:Rg):∀u∈x.vs,u.oneCell'=true:=by
 intro u hu;simp only[Rg.vs,ey,tE,tJ]at hu;rcases hu with rfl|rfl|rfl|rfl|rfl|rfl<;>rfl
def Pn(l:bA Rg):∀u∈bP Rg.vs l,u.oneCell'=true:=by
 intro u hu;obtain⟨c,a,hu⟩:=List.mem_flatten.1 hu;obtain⟨x,_,rfl⟩:=fo.1 a;exact DJ x u hu
def aJO{s:Sl}{l:bA Rg}(x:Rg)(hn:s.n=l.length)(hb:l.length<1000000)(h:Sep E (cQ s l::L) w):
  Calls P IL #[Sv s,.agg x.vs.toArray] w (cA λv w'=>∃s':Sl,v=.tuple #[.slice s'.p s'.n s'.c,Iv (eC l x).2]/\
   (((eC l x).2≠0/\(eC l x).1=l/\Sep E (cQ s l::L) w')\/((eC l x).2=0/\s'.n=(eC l x).1.length/\Sep E (cQ s' (eC l x).1::L) w'))):=by
 obtain⟨n,k⟩:∃n,fN (λy=>decide (x.a<y.b)) l=n:=⟨_,rfl⟩
 have V:n<=l.length:=by rw[<- k];exact DG _ _
 obtain⟨K,hK⟩:∃K:bg1,K= λv w'=>∃s':Sl,v=.tuple #[.slice s'.p s'.n s'.c,Iv (eC l x).2]/\
   (((eC l x).2≠0/\(eC l x).1=l/\Sep E (cQ s l::L) w')\/((eC l x).2=0/\s'.n=(eC l x).1.length/\Sep E (cQ s' (eC l x).1::L) w')):=⟨_,rfl⟩
 rw[<- hK];have bad:∀w',(fc 0 l=false\/x.valid=false\/64<=l.length)->Sep E (cQ s l::L) w'->K (.tuple #[aN8,Iv 1]) w':=by
  intro w' j q;have e:eC l x=(l,1):=by unfold eC;rw[bL j]
  rw[hK,e];exact⟨⟨none,0,0⟩,rfl,.inl ⟨by show(1:Int)≠0;decide,rfl,q⟩⟩
 apply azy;unfold NQ q9 qF qL qQ qW qg zR zY;refine Al.i h (λp Q h1=>?_);have h1:Sep E (bC p x.vs::cQ s l::L) Q:=h1;refine⟨λw'=>(fc 0 l=true/\x.valid=true/\l.length<64)/\Sep E (bC p x.vs::cQ s l::L) w',use (DI hn hb h1.swap) ?_,?_⟩
 ·rintro _ w2 ⟨rfl,h2⟩;refine⟨_,rfl,cw (λhr=>bad _ (.inl (by simpa using hr)) (h2.fr 0 rfl |>.ro 2 [0] rfl)) (λhr=>gz h2.swap (i:=0) rfl (use (Pk x h2.swap) ?_))⟩;rintro _ C ⟨rfl,d⟩;refine⟨_,rfl,cw (λm=>bad _ (.inr (.inl (by simpa using m))) d.tail) (λm=>hD (λj=>bad _ (.inr (.inr bu)) d.tail) (λj=>⟨⟨by simpa using hr,by simpa using m,bu⟩,d⟩))⟩
 rintro _ w2 ⟨⟨hr,m,O⟩,h2⟩;have a:eC l x=(match l[n]? with|some y=>if y.a<x.b then(l,4)else(l.take n++x::l.drop n,0)|none=>(l.take n++x::l.drop n,0)):=by
  unfold eC;rw[bJ (by rw[hr,m];rintro(e|e|e)<;>first|cases e|omega),k];rfl
 refine use (Pm (q:=λy=>decide (x.a<y.b)) (λy C d=>⟨_,_,rfl,by kernel_rfl,?_⟩) hn hb h2) ?_
 ·show Calls P I8 #[.agg y.vs.toArray,Pb p] C _;apply awY;unfold N6 qL zY;refine Al.i d (λr M g=>?_);have g:Sep E (bC r y.vs::bC p x.vs::cQ s l::L) M:=g;exact ld g 0 rfl rfl rfl (ld g 1 rfl rfl rfl ⟨rfl,g.tail⟩)
 rintro _ C ⟨rfl,d⟩;rw[k];refine⟨_,rfl,λi w'=>i=n/\Sep E (bC p x.vs::cQ s l::L) w',cX (λj=>⟨?_,d⟩) (λj=>⟨?_,d⟩),?_⟩;·split at j<;>omega
 ·split at j;·next e=>rw[bL e]
  ·omega
 rintro _ _ M ⟨rfl,g⟩;refine⟨λw'=>(eC l x=(l.take n++x::l.drop n,0))/\Sep E (bC p x.vs::cQ s l::L) w',Dr.i g (λR f=>cX (λU=>?_) (λT=>⟨?_,f⟩)),?_⟩
 ·obtain⟨y,I⟩:∃y,l[n]?=some y:=⟨_,dN⟩
  rw[I]at a;dsimp only at a;refine lR Rg.s3 1 f rfl hn rfl I (λb _ t=>⟨y.a,by rw[cj];exact t 0 _ rfl,?_⟩);refine ld f 0 rfl rfl rfl (cX (λt=>?_) (λt=>⟨?_,f⟩))
  ·rw[bL t]at a;rw[hK,a];exact⟨⟨none,0,0⟩,rfl,.inl ⟨by show(4:Int)≠0;decide,rfl,f.tail⟩⟩
  ·rw[cF]at a;exact a
 ·rw[g2 bu]at a;exact a
 rintro _ R ⟨A,f⟩;have N:=bw.cap f.tail;refine Dr.i f (λW D=>⟨⟨bu,bu⟩,⟨bu,bu⟩,gz D (i:=0) rfl ⟨⟨bu,bu⟩,Al.i D (λq S o=>?_)⟩⟩);have o:Sep E (bC q x.vs::bC p x.vs::cQ s l::L) S:=o;rw[dz];have G:=Src.bC (n:=1) (c:=1) o (i:=0) rfl pH rfl (DJ x);refine bw.pre (o.ro 3 [2,0,1] rfl) pH rfl G bu bu bu bu (λs' X u z=>?_);rw[Di Rg.s3]at z;have H:=Src.sub (l:=n) (n':=s.n-n) (c':=s.c-n) z (q:=1) rfl pH bu (Pn l);refine bw.app z pH rfl H (by rw[u];omega) (λJ Y B F=>?_);rw[Y1 Rg.s3,Di Rg.s3 (l.drop n),iq (l:=l.drop n) (by rw[nO,hn];exact ep _)]at F;rw[hK,A];refine⟨J,rfl,.inr ⟨rfl,?_,?_⟩⟩;·rw[B,u,hn];simp;omega
 ·have e:bP Rg.vs (l.take n++x::l.drop n)=bP Rg.vs (l.take n)++x.vs++bP Rg.vs (l.drop n):=by
   rw[m4];show _++bP Rg.vs ([x]++l.drop n)=_;rw[m4,oL,dm]
  unfold cQ;rw[e];exact F.ro 4 [0] rfl
end Go.Mp
namespace Go.Kw
def Rg.fits(x:Rg):Prop:=(0<=x.a/\x.a<x.b/\x.b<=65536)/\0<=x.idx/\x.idx<=2097152
def Rg.fh{x:Rg}(h:x.valid=true):x.fits:=by
 unfold Rg.valid at h;simp only[dA,gE]at h;refine⟨h.1,?_⟩;obtain⟨h1,h2⟩:=h;split at h2;·simp at h2;omega
 ·split at h2;·simp at h2;omega
  ·cases h2
end Go.Kw
namespace Go.Mp
open Go Go.Vc Go.Sp Go.Proofs Go.Kc Go.Kv Go.Kw
variable{E:Env}{L:cv}{w W:bH}
def aIF{x:Rg}{a b:Int}(hx:x.fits)(s:0<=a/\a<=131072)(h:Sep E L w):Calls P I9 #[.agg x.vs.toArray,Iv a,Iv b] w (cY E (.agg (prt x a b).vs.toArray) L):=by
 apply ax6;unfold N8 qL qU qg zR zY zg;refine Al.i h (λp t h1=>Al.i h1 (λq w2 h2=>?_));have h2:Sep E (bC q [Iv 0,Iv 0,Iv 0,Iv 0,Iv 0,.bool false]::bC p x.vs::L) w2:=h2;obtain⟨y,g⟩:∃y:Rg,y= {x with idx:=if x.kind=2 then x.idx+(a-x.a)else x.idx} :=⟨_,rfl⟩
 refine⟨λw'=>Sep E (bC p y.vs::bC q [Iv 0,Iv 0,Iv 0,Iv 0,Iv 0,.bool false]::L) w',ld h2 1 rfl rfl rfl (eX (λhk=>ld h2 1 rfl rfl rfl (ld h2 1 rfl rfl rfl ?_)) (λhk=>?_)),?_⟩
 ·obtain⟨o,r⟩:=hx;rw[cR (n:=a-x.a) bu bu,cR bu bu];refine St.i h2.swap (by show 4<6;decide) (λk f=>?_);have e:(x.vs.set 4 (Iv (x.idx+(a-x.a))))=y.vs:=by rw[g];show _= [_,_,_,_,Value.int .i64 (if x.kind=2 then x.idx+(a-x.a)else x.idx),_];rw[bL hk];rfl
  exact e▸f
 ·have e:y=x:=by rw[g,bJ hk]
  rw[e];exact h2.swap
 rintro _ k f;refine St.i f (by show 0<6;decide) (λu j=>St.i j (by show 1<6;decide) (λl c=>?_));have e:((y.vs.set 0 (Iv a)).set 1 (Iv b))=(prt x a b).vs:=by rw[g];rfl
 have c:Sep E (bC p (prt x a b).vs::bC q [Iv 0,Iv 0,Iv 0,Iv 0,Iv 0,.bool false]::L) l:=e▸c;refine gz c (i:=0) rfl (ew _ c.swap rfl (λm d=>?_));have d:Sep E (bC q (prt x a b).vs::bC p (prt x a b).vs::L) m:=d;exact gz d (i:=0) rfl ⟨rfl,d.tail.tail⟩
def DK{x:Rg}{a b:Int}{o:Nat}{s:Sl}{l:bA Rg}(hx:x.fits)(m:0<=a/\a<=131072)(hn:s.n=l.length)(hb:l.length<1000000)(h:Sep E (bC o [Sv s]::cQ s l::L) w):
  Calls P xL #[.agg x.vs.toArray,Iv a,Iv b,Pb o] w (cA λv w'=>v=.tuple #[]/\∃s':Sl,s'.n=(l++fD x a b).length/\Sep E (bC o [.slice s'.p s'.n s'.c]::cQ s' (l++fD x a b)::L) w'):=by
 apply awZ;unfold N7 qc zR zY zf;refine Al.i h (λp t h1=>cX (λf=>?_) (λy=>⟨rfl,s,?_⟩))
 ·have h1:Sep E (bC p x.vs::bC o [Sv s]::cQ s l::L) t:=h1;refine Dr.i h1 (λw2 h2=>⟨s,h2.cellAt 1 rfl 0,gz h2 (i:=0) rfl (use (aIF hx m h2) ?_)⟩);rintro _ z ⟨rfl,e⟩;refine⟨_,_,_,_,_,_,rfl,s,e.cellAt 1 rfl 0,rfl,Al.i e (λq u d=>⟨s,d.cellAt 2 rfl 0,rfl,?_⟩)⟩;have d:Sep E (bC q (prt x a b).vs::bC p x.vs::bC o [Sv s]::cQ s l::L) u:=d;have r:=Src.bC (n:=1) (c:=1) d (i:=0) rfl pH rfl (DJ (prt x a b));refine bw.append (d.ro 4 [3,0,1,2] rfl) pH rfl r bu (by rw[hn];omega) (λs' A g j=>?_);refine St.i (j.ro 4 [3,0] rfl) (by show 0<1;decide) (λB k=>⟨rfl,s',?_⟩);have hk:fD x a b= [prt x a b]:=bL f;rw[hk];refine⟨by rw[g,hn];simp,?_⟩;unfold cQ;rw[m4,oL];exact k
 ·have hk:fD x a b= []:=cF;rw[hk,hs];exact⟨hn,h1.tail⟩
def aJP{s:Sl}{l:bA Rg}{a b:Int}(Q:0<=a/\a<=65536)(K:0<=b/\b<=131072)(hn:s.n=l.length)(hb:l.length<400000)(h:Sep E (cQ s l::L) w):
  Calls P IN #[Sv s,Iv a,Iv b] w (cA λv w'=>∃s':Sl,v=.slice s'.p s'.n s'.c/\s'.n=(gW l a b).length/\Sep E (cQ s' (gW l a b)::cQ s l::L) w'):=by
 apply azz;unfold NS qE qF qO qU qW qc zR zZ zg;refine use (DI hn bu h) ?_;rintro _ S ⟨rfl,h1⟩;refine⟨_,rfl,cw (λhr=>⟨⟨none,0,0⟩,rfl,?_⟩) (λhr=>?_)⟩
 ·have hr:fc 0 l=false:=by simpa using hr
  have e:gW l a b= []:=by unfold gW;rw[hr];rfl
  rw[e];exact⟨rfl,bw.none_ h1⟩
 have hr:fc 0 l=true:=by simpa using hr
 have e:gW l a b=l.flatMap (fw a b):=by unfold gW;rw[bL hr]
 rw[e];have hlen:∀k,((l.take k).flatMap (fw a b)).length<=2*k:=by
  intro k;induction k with
  |zero=>simp
  |succ k R=>
   rw[mF,F3,dg];have:(l[k]?.toList.flatMap (fw a b)).length<=2:=by
    cases l[k]? with
    |none=>simp
    |some x=>
     simp only[Option.toList_some,nN,List.flatMap_nil,hs];unfold fw fD;split;·split<;>simp
     ·rw[dg];split<;>split<;>simp
   omega
 refine Al.i h1 (λo w2 h2=>⟨λi w'=>∃k:Nat,i=k/\k<=l.length/\∃s':Sl,s'.n=((l.take k).flatMap (fw a b)).length/\Sep E (bC o [.slice s'.p s'.n s'.c]::cQ s' ((l.take k).flatMap (fw a b))::cQ s l::L) w',λi _=>(l.length-i).toNat,
  ⟨0,rfl,e7 _,⟨none,0,0⟩,rfl,(bw.none_ (m:=6) h2).swap⟩,?_⟩)
 rintro _ _ T ⟨k,rfl,hk,s',j,r⟩;refine cX (λO=>?_) (λz=>?_)
 ·obtain⟨x,hx⟩:∃x,l[k]?=some x:=⟨_,dN⟩
  have A:=Rg.fh (yf hr x (eH hx));have N:=hlen k;have c:(l.take (k+1)).flatMap (fw a b)=(l.take k).flatMap (fw a b)++fw a b x:=by rw[mF,hx,F3];simp
  obtain⟨t,u⟩:=A;refine oP 2 r rfl hn rfl hx (λ_=>Al.i r (λp U F=>ew _ F rfl (λJ d=>?_)));have d:Sep E (bC p x.vs::bC o [.slice s'.p s'.n s'.c]::cQ s' ((l.take k).flatMap (fw a b))::cQ s l::L) J:=d;have g:((l.length:Int)-((k+1:Nat):Int)).toNat<((l.length:Int)-(k:Int)).toNat:=by omega
  have em:∀p q:Int,min1 p q=min p q:=λp q=>by unfold min1;split<;>omega
  have D:∀p q:Int,ea p q=max p q:=λp q=>by unfold ea;split<;>omega
  simp only[em,D];refine hD (λz=>gz d (i:=0) rfl (ld d 0 rfl rfl rfl (ld d 0 rfl rfl rfl (use (DK ⟨t,u⟩ bu j bu (d.ro 3 [1,2,0] rfl)) ?_)))) (λH=>gz d (i:=0) rfl (ld d 0 rfl rfl rfl (ld d 0 rfl rfl rfl (use (DK ⟨t,u⟩ bu j bu (d.ro 3 [1,2,0] rfl)) ?_))))
  ·rintro _ C ⟨rfl,s2,y,f⟩;have n:fw a b x=fD x x.a x.b:=bL z;refine⟨rfl,⟨k+1,de,bu,s2,?_,?_⟩,?_⟩;·rw[c,n];exact y
   ·rw[c,n];exact f.ro 4 [0,1,3] rfl
   ·rw[de];exact g
  ·rintro _ C ⟨rfl,s2,y,f⟩;have n:fw a b x=fD x x.a (min x.b a)++fD x (max x.a b) x.b:=cF;have M:(fD x x.a (min x.b a)).length<=1:=by unfold fD;split<;>simp
   have f:Sep E (bC o [Sv s2]::cQ s2 ((l.take k).flatMap (fw a b)++fD x x.a (min x.b a))::bC p x.vs::cQ s l::L) C:=f;refine⟨rfl,gz f (i:=2) rfl (ld f 2 rfl rfl rfl (ld f 2 rfl rfl rfl (use (DK ⟨t,u⟩ bu y (by rw[dg];omega) f) ?_)))⟩;rintro _ V ⟨rfl,I,B,G⟩;refine⟨rfl,⟨k+1,de,bu,I,?_,?_⟩,?_⟩;·rw[c,n,<- dm];exact B
   ·rw[c,n,<- dm];exact G.ro 4 [0,1,3] rfl
   ·rw[de];exact g
 ·have:k=l.length:=by omega
  subst this;rw[gg]at j r;exact⟨s',r.cell 0,s',rfl,j,r.tail⟩
def s5(o:bW Rg):bE:=match o with
 |some x=>.tuple #[.agg x.vs.toArray,.bool true]
 |none=>.tuple #[.agg (Rg.vs ⟨0,0,0,0,0,false⟩).toArray,.bool false]
def aIE{s:Sl}{l:bA Rg}{p:Int}(hn:s.n=l.length)(hb:l.length<1000000)(h:Sep E (cQ s l::L) w):Calls P Ja #[Sv s,Iv p] w (cY E (s5 (jL l p)) (cQ s l::L)):=by
 apply ax5;unfold N9 qC qF qQ qU qW zR zg;refine Al.i h (λq J h1=>Al.i h1 (λr w2 h2=>?_));have h2:Sep E (bC r (Rg.vs ⟨0,0,0,0,0,false⟩)::bC q [Iv p]::cQ s l::L) w2:=h2;refine use (Pm (A:=bC q [Iv p]) (L:=bC r (Rg.vs ⟨0,0,0,0,0,false⟩)::L) (q:=λx=>x.has p) (λy k d=>⟨_,_,rfl,by kernel_rfl,?_⟩) hn hb (h2.ro 3 [1,2,0] rfl)) ?_
 ·show Calls P Jp #[.agg y.vs.toArray,Pb q] k _;apply avz;unfold Oe qD qL zY;refine Al.i d (λt m a=>?_);have a:Sep E (bC t y.vs::bC q [Iv p]::cQ s l::bC r (Rg.vs ⟨0,0,0,0,0,false⟩)::L) m:=a;refine ld a 0 rfl rfl rfl (ld a 1 rfl rfl rfl (h4 (λg=>ld a 1 rfl rfl rfl (ld a 0 rfl rfl rfl ⟨?_,a.tail⟩)) (λg=>⟨?_,a.tail⟩)));·exact eK Value.bool (tD.2 ⟨λe=>⟨g,e⟩,λe=>e.2⟩)
  ·exact eK Value.bool (di λe=>bu).symm
 rintro _ k ⟨rfl,d⟩;have d:Sep E (bC q [Iv p]::cQ s l::bC r (Rg.vs ⟨0,0,0,0,0,false⟩)::L) k:=d;have hle:=DG (λx=>x.has p) l;obtain⟨n,j⟩:∃n,fN (λx=>x.has p) l=n:=⟨_,rfl⟩
 have hf:jL l p=if fc 0 l then l[n]? else none:=by unfold jL;rw[j]
 rw[j]at hle ⊢;have zero:∀ {w:bH},jL l p=none->Sep E (bC q [Iv p]::cQ s l::bC r (Rg.vs ⟨0,0,0,0,0,false⟩)::L) w->kM (Rg.vs ⟨0,0,0,0,0,false⟩) ⟨r,0,none⟩ (λb=>∃z:Int,b.cell? ((⟨r,0,none⟩:Addr).add 0)=some (Iv z)/\∃B:Int,b.cell? ((⟨r,0,none⟩:Addr).add 1)=some (Iv B)/\∃C:Int,b.cell? ((⟨r,0,none⟩:Addr).add 2)=some (Iv C)/\∃D:Int,b.cell? ((⟨r,0,none⟩:Addr).add 3)=some (Iv D)/\∃F:Int,b.cell? ((⟨r,0,none⟩:Addr).add 4)=some (Iv F)/\∃G:Bool,b.cell? ((⟨r,0,none⟩:Addr).add 5)=some (.bool G)/\
   Value.tuple #[.agg #[Iv z,Iv B,Iv C,Iv D,Iv F,.bool G],.bool false]=s5 (jL l p)/\Sep E (cQ s l::L) b) w:=by
  intro w g H;refine ew _ (H.ro 3 [2,0,1] rfl) rfl (λb o=>gz o (i:=0) rfl ⟨by rw[g];rfl,o.ro 3 [2] rfl⟩)
 refine⟨_,rfl,cX (λc=>zero ?_ d) (λu=>use (DI hn hb (d.ro 3 [1,0,2] rfl)) ?_)⟩
 ·rw[hf];split at c;·omega
  ·rw[g2 bu];split<;>rfl
 rintro _ m ⟨rfl,a⟩;have a:Sep E (cQ s l::bC q [Iv p]::bC r (Rg.vs ⟨0,0,0,0,0,false⟩)::L) m:=a;have c:n<l.length:=by
  rcases hN n l.length with e|e;·exact e
  ·rw[cF]at u;omega
 rw[bL c];refine⟨_,rfl,cw (λhr=>zero ?_ (a.ro 3 [1,0,2] rfl)) (λhr=>?_)⟩
 ·have hr:fc 0 l=false:=by simpa using hr
  rw[hf,hr];rfl
 ·have hr:fc 0 l=true:=by simpa using hr
  obtain⟨x,hx⟩:∃x,l[n]?=some x:=⟨_,dL c⟩
  refine oP 0 a rfl hn rfl hx (λ_=>ew _ (a.ro 3 [2,0,1] rfl) rfl (λI f=>?_));have f:Sep E (bC r x.vs::cQ s l::bC q [Iv p]::L) I:=f;refine gz f (i:=0) rfl ⟨?_,f.ro 3 [1] rfl⟩;rw[hf,hr,bL rfl,hx];rfl
def aJQ{x:Rg}{p:Int}(hx:x.fits)(hp:0<=p/\p<65536)(h:Sep E L w):Calls P IQ #[.agg x.vs.toArray,Iv p] w (cY E (.agg #[Iv (fg x p).1,Iv (fg x p).2]) L):=by
 apply azA;unfold NW qL qU zY zZ;refine Al.i h (λq f h1=>Al.i h1 (λr w2 h2=>?_));have h2:Sep E (bC r [Iv 0,Iv 0]::bC q x.vs::L) w2:=h2;obtain⟨c,d⟩:=hx;refine ld h2 1 rfl rfl rfl (eX (λhk=>ld h2 1 rfl rfl rfl (ld h2 1 rfl rfl rfl (ld h2 1 rfl rfl rfl (ew _ h2 rfl (λb a=>?_))))) (λhk=>ew _ h2 rfl (λb a=>?_)))
 ·rw[cR (n:=x.idx+p) bu bu,cR bu bu]at a;have e:fg x p=(x.file,x.idx+p-x.a):=bL hk;rw[e];exact ld a 0 rfl rfl rfl (ld a 0 rfl rfl rfl ⟨rfl,a.tail.tail⟩)
 ·have e:fg x p=(-1,p):=bJ hk;rw[e];exact ld a 0 rfl rfl rfl (ld a 0 rfl rfl rfl ⟨rfl,a.tail.tail⟩)
end Go.Mp
namespace Go.Kw
structure fC(s:Sp):Prop where
 cI:Tok s.cI
 g5:fc 0 s.dq=true
def fC.new:fC Sp.new:=⟨⟨List.Pairwise.nil,λ_ h=>by cases h⟩,rfl⟩
def u9:∀ {l r:bA Rg} {a:Int},fc a (l++r)=true↔fc a l=true/\fc ((l.getLast?.map Rg.b).getD a) r=true
 |[],r,a=>by simp[fc]
 |[x],r,a=>by simp[fc]
 |x::y::l,r,a=>by
  have:=u9 (l:=y::l) (r:=r) (a:=x.b);have e:((y::l).getLast?.map Rg.b).getD x.b=((y::l).getLast?.map Rg.b).getD a:=by
   rw[List.getLast?_cons];rfl
  rw[e]at this;rw[List.getLast?_cons_cons];show((x.valid&&decide (a<=x.a))&&fc x.b (y::l++r))=true↔((x.valid&&decide (a<=x.a))&&fc x.b (y::l))=true/\_;generalize (x.valid&&decide (a<=x.a))=c;rw[dA,dA,this,and_assoc]
def DL{l:bA Rg}{a b:Int}(h:fc a l=true)(hb:∀x,l[0]?=some x->b<=x.a):fc b l=true:=by
 cases l with
 |nil=>rfl
 |cons x l=>
  simp only[fc,dA,gE]at h ⊢;exact⟨⟨h.1.1,hb x rfl⟩,h.2⟩
def Po{q:Rg->Bool}:∀ {l:bA Rg} {j:Nat} {y:Rg},j<fN q l->l[j]?=some y->q y=false
 |x::r,0,y,h,a=>by
  simp at a;subst a;unfold fN at h;split at h;·omega
  ·next b=>simpa using b
 |x::r,j+1,y,h,a=>by
  unfold fN at h;split at h;·omega
  ·exact Po (l:=r) (j:=j) bu (by simpa using a)
def Pp{l:bA Rg}{x:Rg}(h:fc 0 l=true):fc 0 (eC l x).1=true:=by
 unfold eC;split;·exact h
 next d=>
 rw[om,om]at d;have f:x.valid=true:=by cases hx:x.valid with|true=>rfl|false=>exact absurd hx d.2.1
 have g:=(Rg.fh f).1;dsimp only;generalize hn:fN (λy=>decide (x.a<y.b)) l=n;have key:(∀y,l[n]?=some y->x.b<=y.a)->fc 0 (l.take n++x::l.drop n)=true:=by
  intro b;rw[<- fK n l]at h;obtain⟨h1,h2⟩:=u9.1 h;refine u9.2 ⟨h1,?_⟩;simp only[fc,dA,gE];refine⟨⟨f,?_⟩,DL h2 (λy i=>b y ?_)⟩
  ·cases k:(l.take n).getLast? with
   |none=>exact g.1
   |some z=>
    show z.b<=x.a;have a:=Tf k;obtain⟨j,c⟩:=FZ a;rw[o2]at c;split at c
    ·next e=>
     have:=Po (by rw[hn];exact e) c;simpa using this
    ·cases c
  ·rwa[pY,k1]at i
 split
 ·next y b=>
  split;·exact h
  ·next m=>exact key λz a=>by rw[b]at a;cases a;omega
 ·next b=>exact key λz a=>by rw[b]at a;cases a
def fC.map{s:Sp}(h:fC s)(x:Rg):fC (s.map x).1:=⟨h.cI,Pp h.g5⟩
end Go.Kw
namespace Go.Mp
open Go Go.Vc Go.Sp Go.Proofs Go.Kc Go.Kv Go.Kw
variable{E:Env}{L:cv}{w W:bH}{s:Kw.Sp}{p:Nat}
def dW(p:Nat)(s:Kw.Sp):Asn:=fe λq:Sl×Nat=>cG (q.1.n=s.dq.length) (cB [bC p [.slice q.1.p q.1.n q.1.c,Pb q.2],cQ q.1 s.dq,c0 q.2 s.cI])
def dW.open(h:Sep E (dW p s::L) w):∃(r:Sl) (t:Nat),r.n=s.dq.length/\Sep E (bC p [Sv r,Pb t]::cQ r s.dq::c0 t s.cI::L) w:=by
 obtain⟨⟨r,t⟩,h⟩:=Sep.ex.1 h;obtain⟨hn,h⟩:=Sep.cG.1 h;exact⟨r,t,hn,Sep.cB.1 h⟩
def dW.mk{r:Sl}{t:Nat}(hn:r.n=s.dq.length)(h:Sep E (bC p [Sv r,Pb t]::cQ r s.dq::c0 t s.cI::L) w):Sep E (dW p s::L) w:=
 Sep.ex.2 ⟨(r,t),Sep.cG.2 ⟨hn,Sep.cB.2 h⟩⟩
def aIM(h:Sep E L w):Calls P Im #[] w (cA λv w'=>∃p:Nat,v=Pb p/\Sep E (dW p Sp.new::L) w'):=by
 apply ZM;unfold Ny qR;refine use (O6 h) ?_;rintro _ a ⟨t,rfl,h1⟩;refine⟨_,rfl,Al.i h1 (λp w2 h2=>⟨p,rfl,dW.mk (r:=⟨none,0,0⟩) (t:=t) rfl ?_⟩)⟩;exact(bw.none_ (m:=6) h2).swap
def aIL(x:Rg)(j:fC s)(h:Sep E (dW p s::L) w):Calls P xB #[Pb p,.agg x.vs.toArray] w (cY E (Iv (s.map x).2) (dW p (s.map x).1::L)):=by
 obtain⟨r,t,hn,h⟩:=dW.open h;have hlen:=ye j.g5;apply ZP;unfold NB qK zF zR zY;refine Al.i h (λq l h1=>Dr.i h1 (λw2 h2=>⟨_,rfl,?_⟩));have h2:Sep E (bC q x.vs::bC p [Sv r,Pb t]::cQ r s.dq::c0 t s.cI::L) w2:=h2;refine⟨r,h2.cellAt 1 rfl 0,gz h2 (i:=0) rfl (use (aJO x hn bu (h2.ro 4 [2,0,1,3] rfl)) ?_)⟩;rintro _ k ⟨s',rfl,g⟩;have c:(s.map x).2=(eC s.dq x).2:=rfl;rcases g with⟨a,hr,b⟩|⟨a,d,b⟩
 ·refine⟨s',_,rfl,eX (λe=>absurd e a) (λ_=>⟨by rw[c],dW.mk (r:=r) (t:=t) ?_ ?_⟩)⟩
  ·show r.n=(eC s.dq x).1.length;rw[hr];exact hn
  ·show Sep E (_::cQ r (eC s.dq x).1::c0 t s.cI::L) k;rw[hr];exact b.ro 4 [2,0,3] rfl
 ·refine⟨s',_,rfl,eX (λ_=>⟨_,rfl,?_⟩) (λe=>absurd a e)⟩;refine St.i (b.ro 4 [2,0,3] rfl) (by show 0<2;decide) (λm f=>⟨by rw[c],dW.mk (r:=s') (t:=t) d f⟩)
def Pq(bK:Int)(c:fC s)(h:Sep E (dW p s::L) w):Calls P BN #[Pb p,Iv bK] w (cY E (s5 (s.cD bK)) (dW p s::L)):=by
 obtain⟨r,t,hn,h⟩:=dW.open h;have hlen:=ye c.g5;apply ap4;unfold NT qK qU zR zg zm;refine Al.i h (λq e h1=>⟨_,rfl,r,h1.cellAt 1 rfl 0,use (aIE hn bu (h1.ro 4 [2,0,1,3] rfl)) ?_⟩);rintro _ w2 ⟨rfl,h2⟩;have hw:s.cD bK=jL s.dq bK:=rfl;have h2:Sep E (cQ r s.dq::bC q (Rg.vs ⟨0,0,0,0,0,false⟩)::bC p [Sv r,Pb t]::c0 t s.cI::L) w2:=h2;rw[hw];obtain⟨x,b,hx⟩:∃(x:Rg) (b:Bool),s5 (jL s.dq bK)=.tuple #[.agg x.vs.toArray,.bool b]:=by
  cases jL s.dq bK with
  |some x=>exact⟨x,true,rfl⟩
  |none=>exact⟨⟨0,0,0,0,0,false⟩,false,rfl⟩
 rw[hx];refine⟨x.a,x.b,x.kind,x.file,x.idx,x.wr,b,rfl,ew _ (h2.ro 4 [1,0,2,3] rfl) rfl (λd a=>?_)⟩;have a:Sep E (bC q x.vs::cQ r s.dq::bC p [Sv r,Pb t]::c0 t s.cI::L) d:=a;exact gz a (i:=0) rfl ⟨rfl,dW.mk hn (a.ro 4 [2,1,3] rfl)⟩
def va:bA bE:=[Iv 0,Iv 0,.bool false,.bool false]
def Pt(o:bW En):bE:=match o with
 |some e=>.tuple #[.agg e.vs.toArray,.bool true]
 |none=>.tuple #[.agg va.toArray,.bool false]
def rl{b i:Nat}{e:En}{F:Int->Int->Bool->Bool->Prop}(h:Sep E L w)(a:L[i]?=some (bC b e.vs))(k:F e.k e.id e.wr e.tc):
  ∃c:Int,w.cell? ((⟨b,0,none⟩:Addr).add 0)=some (Iv c)/\∃d:Int,w.cell? ((⟨b,0,none⟩:Addr).add 1)=some (Iv d)/\∃f:Bool,w.cell? ((⟨b,0,none⟩:Addr).add 2)=some (.bool f)/\∃g:Bool,w.cell? ((⟨b,0,none⟩:Addr).add 3)=some (.bool g)/\F c d f g:=
 ld h i rfl a rfl (ld h i rfl a rfl (ld h i rfl a rfl (ld h i rfl a rfl k)))
def vb(bK:Int)(f:fC s)(h:Sep E (dW p s::L) w):Calls P sn #[Pb p,Iv bK] w (cY E (Pt (s.entry bK)) (dW p s::L)):=by
 obtain⟨r,t,hn,h⟩:=dW.open h;apply ZK;unfold Nw qU qZ zh zn zt zu;refine Al.i h (λq o h1=>⟨_,rfl,_,h1.cellAt 1 rfl 1,use (O7 f.cI (h1.ro 4 [3,0,1,2] rfl)) ?_⟩);rintro _ w2 ⟨k,h2⟩;have h2:Sep E (c0 t s.cI::bC q va::bC p [Sv r,Pb t]::cQ r s.dq::L) w2:=h2;have he:s.entry bK=if 0<=bK then dJ s.cI bK.toNat else none:=rfl
 rcases k with⟨e,g,d,rfl⟩|⟨d,rfl⟩
 ·rw[he,bL g,d];have ho:=(f.cI.get d).2;refine⟨_,_,rfl,bF rfl (use (O3 ho h2) ?_)⟩;rintro _ l ⟨rfl,a⟩;refine⟨_,_,_,_,_,rfl,Al.i a (λz u j=>ew _ j rfl (λm b=>?_))⟩;have b:Sep E (bC z e.vs::c0 t s.cI::bC q va::bC p [Sv r,Pb t]::cQ r s.dq::L) m:=b;refine rl b (i:=0) rfl (ew _ (b.ro 5 [2,0,1,3,4] rfl) rfl (λn c=>?_));have c:Sep E (bC q e.vs::bC z e.vs::c0 t s.cI::bC p [Sv r,Pb t]::cQ r s.dq::L) n:=c;exact rl c (i:=0) rfl ⟨rfl,dW.mk hn (c.ro 5 [3,4,2] rfl)⟩
 ·rw[he,d];refine⟨_,_,rfl,bT rfl (ew _ (h2.ro 4 [1,0,2,3] rfl) rfl (λl a=>?_))⟩;exact ld a 0 rfl rfl rfl (ld a 0 rfl rfl rfl (ld a 0 rfl rfl rfl (ld a 0 rfl rfl rfl ⟨rfl,dW.mk hn (a.ro 4 [2,3,1] rfl)⟩)))
def aIN{bK id:Int}{k:Nat}{wr:Bool}(hk:k=1\/k=2)(eQ:0<=id/\id<9223372036854775808)(d:fC s)(h:Sep E (dW p s::L) w):
  Calls P Jb #[Pb p,Iv bK,.agg #[Iv (k:Int),Iv id,.bool wr,.bool false]] w (cA λv w'=>(∃r:Int,v=Iv r)/\Sep E (dW p (s.enter bK id k wr)::L) w'):=by
 obtain⟨n,rfl⟩:∃n:Nat,id=n:=⟨id.toNat,bu⟩
 obtain⟨e,he⟩:∃e:En,e=⟨k,n,wr,false⟩:=⟨_,rfl⟩
 have A:e.vs= [Iv (k:Int),Iv (n:Int),.bool wr,.bool false]:=by rw[he];rfl
 apply asi;unfold Oc qL qQ qU qZ qg zB zg zm zn;refine Al.i h (λq F h1=>?_);have h1:Sep E (bC q e.vs::dW p s::L) F:=by rw[A];exact h1
 refine use (Pq bK d h1.swap) ?_;rintro _ w2 ⟨rfl,h2⟩;obtain⟨x,hx⟩:∃(x:Rg),s5 (s.cD bK)=.tuple #[.agg x.vs.toArray,.bool (s.cD bK).isSome]:=by
  cases s.cD bK with
  |some x=>exact⟨x,rfl⟩
  |none=>exact⟨⟨0,0,0,0,0,false⟩,rfl⟩
 rw[hx];refine⟨x.a,x.b,x.kind,x.file,x.idx,x.wr,_,rfl,Al.i h2 (λz J D=>ew _ D rfl (λG b=>?_))⟩;have b:Sep E (bC z x.vs::dW p s::bC q e.vs::L) G:=b;have j:s.enter bK n k wr=if(s.cD bK).isSome/\0<=(n:Int)/\(n:Int)<16777216 then {s with cI:=eW s.cI bK.toNat ⟨k,n,wr,false⟩} else s:=by unfold Sp.enter;rw[dz]
 rw[j];cases hw:s.cD bK with
 |none=>
  rw[bJ (by rintro⟨B,_⟩;cases B)];exact bT rfl ⟨⟨_,rfl⟩,b.ro 3 [1] rfl⟩
 |some y=>
  have C:0<=bK/\bK<65536:=by
   have hf:jL s.dq bK=some y:=hw;unfold jL at hf;rw[d.g5,bL rfl]at hf;have a:=yg hf;have m:=(Rg.fh (yf d.g5 y (eH hf))).1;unfold Rg.has at a;simp only[gE]at a;omega
  have g:e.k=1\/e.k=2:=by rw[he];exact hk
  have f:e.id=n:=by rw[he]
  refine bF rfl (rl b (i:=2) rfl (use (aIB g (by rw[f];omega) (b.ro 3 [0,2,1] rfl)) ?_));rintro _ H ⟨rfl,a⟩;have a:Sep E (bC z x.vs::bC q e.vs::dW p s::L) H:=a;rw[f];by_cases c:n<16777216
  ·rw[bL c,bL ⟨rfl,bu,bu⟩];refine⟨_,_,rfl,λw'=>Sep E (bC z x.vs::bC q e.vs::dW p s::L) w',bF rfl (ld a 1 rfl rfl rfl (bF ?_ a)),?_⟩;·rcases g with h|h<;>rw[h]<;>rfl
   rintro _ I m;obtain⟨r,t,hn,o⟩:=dW.open (m.ro 3 [2] rfl);obtain⟨l,rfl⟩:∃l:Nat,bK=l:=⟨bK.toNat,bu⟩
   refine⟨_,rfl,_,o.cell 1,use (DD (p:=l) (e:=e) d.cI bu (o.ro 3 [2,0,1] rfl)) ?_⟩;rintro _ K ⟨rfl,u⟩;rw[he]at u;exact⟨_,rfl,⟨_,rfl⟩,dW.mk hn (u.ro 3 [1,2,0] rfl)⟩
  ·rw[bJ c,bJ (by rintro⟨_,_,B⟩;omega)];exact⟨_,_,rfl,λ_=>False,bT rfl ⟨⟨_,rfl⟩,a.ro 3 [2] rfl⟩,λ_ I hf=>hf.elim⟩
end Go.Mp
namespace Go.Kw
def lT(T:c5)(a b:Int):walk T a b=(T.filter λq=>hj a b q.1).map λq=>(q.1:Int):=by
 unfold walk;rw[List.filter_map,tI];rfl
def DM{x:Rg}{a b:Int}(hx:x.valid=true)(i:x.a<=a)(hb:b<=x.b):∀y∈fD x a b,y.valid=true/\a<=y.a/\y.b<=b:=by
 intro y d;unfold fD at d;split at d
 ·next g=>
  rw[h8]at d;subst d;have hf:=Rg.fh hx;obtain⟨h1,h2⟩:=hf;refine⟨?_,g3 _,g3 _⟩;unfold Rg.valid at hx ⊢;simp only[dA,gE]at hx ⊢;obtain⟨h,c⟩:=hx;refine⟨by show 0<=a/\a<b/\b<=65536;omega,?_⟩;show(if x.kind=1 then decide (x.file=0/\(if x.kind=2 then x.idx+(a-x.a)else x.idx)=0)else if x.kind=2 then decide (0<=x.file/\x.file<=1048576/\0<=(if x.kind=2 then x.idx+(a-x.a)else x.idx)/\(if x.kind=2 then x.idx+(a-x.a)else x.idx)<=2097152-(b-a))else false)=true;by_cases f:x.kind=1
  ·rw[bL f]at c ⊢;rw[cF];exact c
  ·rw[bJ f]at c ⊢;by_cases e:x.kind=2
   ·rw[bL e]at c ⊢;rw[bL e];simp only[gE]at c ⊢;omega
   ·rw[bJ e]at c;cases c
 ·cases d
def DN{x:Rg}{a b:Int}:(fD x a b).length<=1:=by unfold fD;split<;>simp
def DO{l:bA Rg}{a:Int}(h1:l.length<=1)(h:∀y∈l,y.valid=true/\a<=y.a):fc a l=true:=by
 match l,h1,h with
 |[],_,_=>rfl
 |[x],_,h=>simp[fc,(h x fz).1,(h x fz).2]
def aIU{x:Rg}{a b:Int}(hx:x.valid=true):fc x.a (fw a b x)=true/\∀y∈fw a b x,y.valid=true/\x.a<=y.a/\y.b<=x.b:=by
 have hf:=(Rg.fh hx).1;unfold fw;split
 ·have h:=DM hx (g3 x.a) (g3 x.b);exact⟨DO DN λy c=>⟨(h y c).1,(h y c).2.1⟩,h⟩
 ·next e=>
  have h1:=DM (a:=x.a) (b:=min x.b a) hx (g3 _) bu;have h2:=DM (a:=max x.a b) (b:=x.b) hx bu (g3 _);refine⟨u9.2 ⟨DO DN λy c=>⟨(h1 y c).1,(h1 y c).2.1⟩,DO DN λy c=>⟨(h2 y c).1,?_⟩⟩,λy c=>?_⟩
  ·have f:=(h2 y c).2.1;cases d:(fD x x.a (min x.b a)).getLast? with
   |none=>show x.a<=y.a;omega
   |some z=>
    have:=(h1 z (Tf d)).2.2;show z.b<=y.a;omega
  ·rcases gF.1 c with c|c;·have:=h1 y c;exact⟨this.1,this.2.1,bu⟩
   ·have:=h2 y c;exact⟨this.1,bu,this.2.2⟩
def Pu:∀ {l:bA Rg} {p a b:Int},fc p l=true->fc p (l.flatMap (fw a b))=true
 |[],_,_,_,_=>rfl
 |x::r,p,a,b,h=>by
  simp only[fc,dA,gE]at h;obtain⟨⟨h1,h2⟩,i⟩:=h;have d:=aIU (a:=a) (b:=b) h1;have hr:=Pu (a:=a) (b:=b) i;rw[nN];refine u9.2 ⟨DL d.1 λy e=>?_,?_⟩;·have:=(d.2 y (eH e)).2.1;omega
  ·refine DL hr λy e=>?_;have f:∀ {l:bA Rg} {p:Int} {y:Rg},fc p l=true->l[0]?=some y->p<=y.a:=by
    intro l p y g c;cases l with
    |nil=>simp at c
    |cons z l=>
     simp at c;subst c;simp only[fc,dA,gE]at g;exact g.1.2
   have k:=f hr e;cases j:(fw a b x).getLast? with
   |none=>show p<=y.a;have:=(Rg.fh h1).1;omega
   |some z=>show z.b<=y.a;have:=(d.2 z (Tf j)).2.2;omega
def fC.cut{s:Sp}(h:fC s)(a b:Int):fC (s.cut a b).1:=by
 refine⟨h.cI.filter _,?_⟩;show fc 0 (gW s.dq a b)=true;unfold gW;rw[bL h.g5];exact Pu h.g5
def fC.entry{s:Sp}(h:fC s){p:Int}{e:En}(he:s.entry p=some e):0<=p/\p<65536/\e.ok/\dJ s.cI p.toNat=some e:=by
 unfold Sp.entry at he;split at he;·next hp=>have:=h.cI.get he;exact⟨hp,bu,this.2,he⟩
 ·cases he
def fC.cy{s:Sp}(h:fC s)(p:Int):fC (s.cy p):=by
 unfold Sp.cy;split
 ·next e he=>
  obtain⟨h1,h2,a,b⟩:=h.entry he;exact⟨h.cI.set bu a,h.g5⟩
 ·exact h
def s6{s:Sp}(h:fC s){p:Int}{x:Rg}(hw:s.cD p=some x):0<=p/\p<65536/\x.valid=true/\x.a<=p/\p<x.b:=by
 unfold Sp.cD jL at hw;rw[h.g5,bL rfl]at hw;have a:=yg hw;have b:=yf h.g5 x (eH hw);have c:=(Rg.fh b).1;unfold Rg.has at a;simp only[gE]at a;exact⟨bu,bu,b,a⟩
def fC.enter{s:Sp}(h:fC s){p id:Int}{k:Nat}{wr:Bool}(hk:k=1\/k=2):fC (s.enter p id k wr):=by
 unfold Sp.enter;split
 ·next a=>
  obtain⟨hw,b,h1⟩:=a;obtain⟨x,hx⟩:=kJ.1 hw;have hp:=s6 h hx;exact⟨h.cI.set bu ⟨hk,by show id.toNat<_;omega⟩,h.g5⟩
 ·exact h
end Go.Kw
namespace Go.Mp
open Go Go.Vc Go.Sp Go.Proofs Go.Kc Go.Kv Go.Kw
variable{E:Env}{L:cv}{w W:bH}{s:Kw.Sp}{p:Nat}
def yh(c:fC s)(a b:Int):(s.ids a b).length<=65536:=by
 unfold Sp.ids;rw[en];exact mJ (l0 _ _) (gN c.cI)
def Pw(a b:Int)(f:fC s)(h:Sep E (dW p s::L) w):Calls P Bo #[Pb p,Iv a,Iv b] w
  (cA λv w'=>∃q:Sl,v=Sv q/\q.n=(s.ids a b).length/\Sep E (bw q 1 (bD (s.ids a b))::dW p s::L) w'):=by
 obtain⟨F,m⟩:∃F,s.cI.filter (λq=>hj a b q.1)=F:=⟨_,rfl⟩
 have d:s.ids a b=F.map λq=>(q.2.id:Int):=by rw[<- m];rfl
 have B:walk s.cI a b=F.map λq=>(q.1:Int):=by rw[lT,m]
 have hlen:=yh f a b;rw[d,en]at hlen;rw[d];apply Zp;unfold Ng qC qD qJ qL qU qW qZ qf zu zy;obtain⟨r,t,hn,h⟩:=dW.open h;refine⟨_,rfl,_,h.cell 1,use (Pc (a:=a) (b:=b) f.cI (h.ro 3 [2,0,1] rfl)) ?_⟩;rintro _ K ⟨y,rfl,n,h1⟩;rw[B]at n h1;have h1:Sep E (bw y 1 (bD (F.map λq=>(q.1:Int)))::c0 t s.cI::bC p [Sv r,Pb t]::cQ r s.dq::L) K:=h1;have h2:=(dW.mk (s:=s) (p:=p) (r:=r) (t:=t) hn (h1.ro 4 [2,3,1,0] rfl)).swap;refine⟨y,rfl,λl i w'=>∃k:Nat,i=k/\k<=F.length/\l.n=((F.take k).map λq=>(q.2.id:Int)).length/\Sep E (bw l 1 (bD ((F.take k).map λq=>(q.2.id:Int)))::bw y 1 (bD (F.map λq=>(q.1:Int)))::dW p s::L) w',λ_ i _=>(y.n-i).toNat,⟨0,rfl,e7 _,rfl,bw.none_ h2⟩,?_⟩;rw[en]at n;rintro _ l _ R ⟨k,rfl,hk,hl,e⟩;refine cX (λQ=>?_) (λO=>?_)
 ·obtain⟨x,hx⟩:∃x,F[k]?=some x:=⟨_,dN⟩
  have D:x∈s.cI:=by
   have:=eH hx;rw[<- m]at this;exact(gq.1 this).1
  have C:s.entry (x.1:Int)=some x.2:=by
   unfold Sp.entry;rw[eJ,dz];exact s0 f.cI.cZ D
  refine mu 1 e rfl (by rw[en];exact n) bu (by rw[en];omega) (λc A=>?_);have J:(F.map λq=>(q.1:Int)).getD ((k:Int)).toNat 0=(x.1:Int):=by
   rw[dz,dT,eI,hx];rfl
  rw[J]at A;refine⟨_,A,use (vb (x.1:Int) f (e.ro 3 [2,0,1] rfl)) ?_⟩;rintro _ S ⟨rfl,H⟩;rw[C];refine⟨_,_,_,_,_,rfl,Al.i H (λz T I=>ew _ I rfl (λU o=>ld o 0 rfl rfl (x:=(x.2.id:Int)) rfl (Al.i o (λN M j=>?_))))⟩;have j:Sep E (bC N [Iv (x.2.id:Int)]::bC z x.2.vs::dW p s::bw l 1 (bD ((F.take k).map λq=>(q.2.id:Int)))::bw y 1 (bD (F.map λq=>(q.1:Int)))::L) M:=j;refine sV hl (by rw[en,hJ];omega) (j.ro 5 [0,3,4,2] rfl) (λs' V g u=>?_);have G:(F.take (k+1)).map (λq=>(q.2.id:Int))=(F.take k).map (λq=>(q.2.id:Int))++[(x.2.id:Int)]:=by rw[fL hx,kK];rfl
  rw[<- G]at g u;exact⟨⟨k+1,de,bu,g,u⟩,by rw[de];dsimp only;omega⟩
 ·have:k=F.length:=by omega
  subst this;rw[gg]at hl e;exact⟨l,rfl,hl,e.ro 3 [0,2] rfl⟩
def aIK(b:fC s)(h:Sep E (dW p s::L) w):Calls P H7 #[Pb p] w
  (cA λv w'=>∃q:Sl,v=Sv q/\q.n=(s.ids 0 65536).length/\Sep E (bw q 1 (bD (s.ids 0 65536))::dW p s::L) w'):=by
 apply Zk;unfold Nc qJ;refine use (Pw 0 65536 b h) ?_;rintro _ c ⟨q,rfl,a,h1⟩;exact⟨q,rfl,q,rfl,a,h1⟩
def aGU(a:fC s)(h:Sep E (dW p s::L) w):Calls P Ib #[Pb p] w (cY E (Iv (s.cI.length:Nat)) (dW p s::L)):=by
 obtain⟨r,t,hn,h⟩:=dW.open h;apply Zo;unfold Nf qQ qZ;refine⟨_,rfl,_,h.cell 1,use (aJV a.cI (h.ro 3 [2,0,1] rfl)) ?_⟩;rintro _ b ⟨rfl,h1⟩;exact⟨_,rfl,rfl,dW.mk hn (h1.ro 3 [1,2,0] rfl)⟩
def Px(bK:Int)(f:fC s)(h:Sep E (dW p s::L) w):Calls P BG #[Pb p,Iv bK] w (cA λv w'=>(∃b:Bool,v=.bool b)/\Sep E (dW p (s.cy bK)::L) w'):=by
 obtain⟨r,t,hn,h⟩:=dW.open h;have he:s.entry bK=if 0<=bK then dJ s.cI bK.toNat else none:=rfl
 apply ZU;unfold NH qG qQ qZ zU zh;refine⟨_,rfl,_,h.cell 1,use (O7 f.cI (h.ro 3 [2,0,1] rfl)) ?_⟩;rintro _ m ⟨l,h1⟩;have h1:Sep E (c0 t s.cI::bC p [Sv r,Pb t]::cQ r s.dq::L) m:=h1;rcases l with⟨e,j,d,rfl⟩|⟨d,rfl⟩
 ·have a:s.entry bK=some e:=by rw[he,bL j,d]
  obtain⟨_,n,ho,_⟩:=f.entry a;have c:s.cy bK= {s with cI:=eW s.cI bK.toNat e.cy} :=by unfold Sp.cy;rw[a];rfl
  rw[c];obtain⟨g,rfl⟩:∃g:Nat,bK=g:=⟨bK.toNat,bu⟩
  rw[dz];refine⟨_,_,rfl,bT rfl (Dr.i h1 (λw2 h2=>⟨_,rfl,_,h2.cellAt 1 rfl 1,use (aGO ho h2) ?_⟩))⟩;rintro _ o ⟨rfl,i⟩;refine⟨_,rfl,_,i.cellAt 1 rfl 1,rfl,use (DD (p:=g) (e:=e.cy) f.cI bu i) ?_⟩;rintro _ q ⟨rfl,k⟩;exact⟨_,rfl,⟨_,rfl⟩,dW.mk hn (k.ro 3 [1,2,0] rfl)⟩
 ·have a:s.entry bK=none:=by rw[he,d]
  have c:s.cy bK=s:=by unfold Sp.cy;rw[a]
  rw[c];exact⟨_,_,rfl,bF rfl ⟨⟨_,rfl⟩,dW.mk hn (h1.ro 3 [1,2,0] rfl)⟩⟩
def Py{a b:Int}(U:0<=a/\a<=65536)(hb:0<=b/\b<=131072)(l:fC s)(h:Sep E (dW p s::L) w):Calls P BC #[Pb p,Iv a,Iv b] w
  (cA λv w'=>∃q:Sl,v=Sv q/\q.n=(s.cut a b).2.length/\Sep E (bw q 1 (bD (s.cut a b).2)::dW p (s.cut a b).1::L) w'):=by
 obtain⟨F,j⟩:∃F,s.cI.filter (λq=>hj a b q.1)=F:=⟨_,rfl⟩
 have O:walk s.cI a b=F.map λq=>(q.1:Int):=by rw[lT,j]
 have K:F.Pairwise λx y=>x.1<y.1:=by rw[<- j];exact l.cI.cZ.filter _
 have aa:F.length<=65536:=by rw[<- j];exact mJ (l0 _ _) (gN l.cI)
 have H:s.cut a b=(⟨gW s.dq a b,s.cI.filter λq=> !hj a b q.1⟩,s.ids a b):=rfl;rw[H];dsimp only;apply ZQ;unfold NC qD qF qJ qK qO qW qZ;refine use (Pw a b l h) ?_;rintro _ ae ⟨q,rfl,W,h1⟩;obtain⟨r,t,hn,h2⟩:=dW.open h1.swap;refine⟨q,rfl,_,rfl,_,h2.cell 1,use (Pc (a:=a) (b:=b) l.cI (h2.ro 4 [2,0,1,3] rfl)) ?_⟩;rintro _ X ⟨y,rfl,I,B⟩;rw[O]at I B;rw[en]at I;obtain⟨d,e⟩:∃d:Nat->c5,d= λk=>s.cI.filter λx=> !((F.take k).map Prod.fst).contains x.1:=⟨_,rfl⟩
 have R:d 0=s.cI:=by rw[e];exact vZ.2 λx _=>by simp
 have B:Sep E (bC p [Sv r,Pb t]::cQ r s.dq::c0 t (d 0)::bw y 1 (bD (F.map λq=>(q.1:Int)))::bw q 1 (bD (s.ids a b))::L) X:=by rw[R];exact B.ro 5 [2,3,1,0,4] rfl
 refine⟨y,rfl,λi w'=>∃k:Nat,i=k/\k<=F.length/\Sep E (bC p [Sv r,Pb t]::cQ r s.dq::c0 t (d k)::bw y 1 (bD (F.map λq=>(q.1:Int)))::bw q 1 (bD (s.ids a b))::L) w',λi _=>(y.n-i).toNat,⟨0,rfl,e7 _,B⟩,?_⟩;rintro _ _ af ⟨k,rfl,hk,g⟩;refine cX (λo=>?_) (λab=>?_)
 ·obtain⟨x,hx⟩:∃x,F[k]?=some x:=⟨_,dN⟩
  refine mu 3 g rfl (by rw[en];exact I) bu (by rw[en];omega) (λc C=>?_);have V:(F.map λq=>(q.1:Int)).getD ((k:Int)).toNat 0=(x.1:Int):=by
   rw[dz,dT,eI,hx];rfl
  rw[V]at C;have Q:x∈d k:=by
   rw[e];have f:=eH hx;rw[<- j]at f;refine gq.2 ⟨(gq.1 f).1,?_⟩;have A:¬ x.1∈(F.take k).map Prod.fst:=by
    intro n;obtain⟨z,J,ad⟩:=fo.1 n;have o:=(c4.1 hx).1;have hr:=K;rw[<- fK k F,lD o]at hr;have m:=(jv.1 hr).2.2 z J F[k] fz;rw[dL o]at hx;rw[cU hx]at m;omega
   simpa using A
  have G:Tok (d k):=by rw[e];exact l.cI.filter _
  refine⟨_,C,_,rfl,_,g.cell 1,use (aET (p:=x.1) G (fo.2 ⟨x,Q,rfl⟩) (g.ro 5 [2,0,1,3,4] rfl)) ?_⟩;rintro _ Y ⟨rfl,f⟩;have T:(d k).filter (λz=>z.1 !=x.1)=d (k+1):=by
   rw[e];dsimp only;rw[List.filter_filter];refine wa λz _=>?_;rw[fL hx,kK];show((z.1 !=x.1)&& !((F.take k).map Prod.fst).contains z.1)= !((F.take k).map Prod.fst++[x.1]).contains z.1;rw[Tg];by_cases n:z.1=x.1<;>simp[n,Bool.and_comm]
  rw[T]at f;exact⟨_,rfl,⟨k+1,de,bu,f.ro 5 [1,2,0,3,4] rfl⟩,by rw[de];dsimp only;omega⟩
 ·have:k=F.length:=by omega
  subst this;have S:d F.length=s.cI.filter λq=> !hj a b q.1:=by
   rw[e];dsimp only;refine wa λz J=>?_;congr 1;rw[gg];cases D:hj a b z.1 with
   |true=>exact kX.2 (fo.2 ⟨z,by rw[<- j];exact gq.2 ⟨J,D⟩,rfl⟩)
   |false=>
    have A:¬ z.1∈F.map Prod.fst:=by
     intro n;obtain⟨u,hu,N⟩:=fo.1 n;rw[<- j]at hu;have:=(gq.1 hu).2;rw[N,D]at this;cases this
    cases C:(F.map Prod.fst).contains z.1 with
    |false=>rfl
    |true=>exact absurd (kX.1 C) A
  rw[S]at g;refine⟨_,rfl,r,g.cell 0,use (aJP U hb hn (by have:=ye l.g5;omega) (g.ro 5 [1,0,2,3,4] rfl)) ?_⟩;rintro _ Y ⟨r',rfl,M,f⟩;refine⟨r',rfl,_,rfl,St.i (f.ro 6 [2,0,3,5] rfl) (by show 0<2;decide) (λZ m=>⟨q,rfl,W,?_⟩)⟩;have m:Sep E (bC p [.slice r'.p r'.n r'.c,Pb t]::cQ r' (gW s.dq a b)::c0 t (s.cI.filter λq=> !hj a b q.1)::bw q 1 (bD (s.ids a b))::L) Z:=m;exact(dW.mk (s:=⟨gW s.dq a b,s.cI.filter λq=> !hj a b q.1⟩) M m).swap
def vd{r:Sl}{m:Nat}{vs:bA bE}(h:Sep E (bw r m vs::L) w)(c:Nat):gj r.p 0 c m=r.p:=by
 unfold gj;split;·rfl
 ·unfold bw at h;split at h;·next hp=>rw[hp];rfl
  ·next a d=>
   obtain⟨spare,h⟩:=Sep.ex.1 h;obtain⟨⟨h1,h2,_⟩,_⟩:=Sep.cG.1 h;obtain⟨b,o,q⟩:=a;simp only at h1 h2;subst h1 h2;rw[d];show some (Addr.add ⟨b,0,none⟩ (0*m))=_;rw[cj,oh]
def aGP{r:Sl}{l:bA Rg}(hn:r.n=l.length)(hb:l.length<1000000)(h:Sep E (cQ r l::L) w):
  Calls P IX #[Sv r] w (cA λv w'=>∃r':Sl,v=.slice r'.p r'.n r'.c/\r'.n=l.length/\Sep E (cQ r' l::cQ r l::L) w'):=by
 apply WN;unfold Lc zY;refine cw (λc=>⟨⟨none,0,0⟩,rfl,?_⟩) (λg=>Al.i h (λq i h1=>?_))
 ·have a:=h;unfold cQ bw at a;have hp:r.p=none:=Tb.1 c;rw[hp]at a;obtain⟨⟨h1,_,b⟩,_⟩:=Sep.cG.1 a;have hl:l= []:=tr bu;subst hl;exact⟨rfl,bw.none_ h⟩
 ·have h2:Sep E (bw ⟨some ⟨q,0,none⟩,0,0⟩ 6 []::cQ r l::L) i:=bw.make (vs:=[]) (spare:=[]) h1 rfl rfl (ep 0);have f:=Src.sub (l:=0) (n':=r.n) (c':=r.c) h2 (q:=1) rfl pH bu (Pn l);rw[vd (h2.swap) r.c]at f;refine bw.app h2 pH rfl f (by rw[hn];show(0+l.length)*_<=_;omega) (λr' w2 d b=>⟨r',rfl,by rw[d,hn];exact fy _,?_⟩);have e: []++((bP Rg.vs l).drop (0*6)).take (r.n*6)=bP Rg.vs l:=by
   rw[oh,rK,l3,Di Rg.s3,iq bu]
  rw[e]at b;exact b
def aES(d:fC s)(h:Sep E (dW p s::L) w):Calls P Iz #[Pb p] w (cA λv w'=>∃c:Nat,v=Pb c/\Sep E (dW c s::dW p s::L) w'):=by
 obtain⟨r,t,hn,h⟩:=dW.open h;apply Z1;unfold NM qG qJ qK qR qZ;refine Dr.i h (λi h1=>⟨_,rfl,r,h1.cell 0,_,rfl,_,h1.cell 1,use (aGP hn (by have:=ye d.g5;omega) (h1.ro 3 [1,0,2] rfl)) ?_⟩);rintro _ w2 ⟨r',rfl,b,h2⟩;refine⟨r',rfl,_,h2.cellAt 2 rfl 1,rfl,use (aGV d.cI (h2.ro 4 [3,0,1,2] rfl)) ?_⟩;rintro _ j ⟨c,rfl,e⟩;refine⟨_,rfl,Al.i e (λq g a=>⟨q,rfl,?_⟩)⟩;have a:Sep E (bC q [.slice r'.p r'.n r'.c,Pb c]::c0 c s.cI::c0 t s.cI::cQ r' s.dq::cQ r s.dq::bC p [Sv r,Pb t]::L) g:=a;have f:=dW.mk (s:=s) (p:=p) hn (a.ro 6 [5,4,2,0,3,1] rfl);exact dW.mk (s:=s) (p:=q) b (f.ro 4 [1,2,3,0] rfl)
end Go.Mp
namespace Go.Mp
open Go Go.Vc
def Pz:dO:={quiet:=λd=>[20,24,27,30,33,36,39,41,43,46,49,50,51,54,56,58,61,65,66,68,72,74,76,77,80,83,85,87,89,92,93,96,100,101,103,107,109,111,112,115,118,120,122,124,126,128,131,132,134].contains d,head:=λr=>(bif r==6 then 8 else 0),loop:=λr=>(bif r==17 then[(15,.int .u64),(16,.int .u64)]else bif r==24 then[(16,.int .u64),(18,.int .u64)]else[]),join:=λr=>(bif r==3 then some []else bif r==5 then some []else bif r==18 then some []else bif r==21 then some [(15,.int .u64)]else bif r==25 then some []else bif r==28 then some [(18,.int .u64)]else none)}
def DP(h f y:Int)(K:bg1)(E:bA PanicEntry->bg0)(w:bH):Prop:=
 ∃C:bg0,(bif(y==0)then(∃H:bE,w.cell? (⟨0,0,none⟩:Addr)=some H/\(match H with | .iface t v=>E [pe (.iface t v)] w|_=>False))else(C w))/\
  (∀S:Nat->bE,∀w2:bH,C w2->∃D:bg0,(bif(decide (y<=h))then(∃I:bE,w2.cell? (⟨1,0,none⟩:Addr)=some I/\(match I with
  |.iface t v=>E [pe (.iface t v)] w2|_=>False))else(D w2))/\(∀T:Nat->bE,∀B:bH,D B->bif(h==0)then(Dr (λR=>y≠0/\y≠0/\K (.tuple
  #[(.int .u64 (u64.wrap (f.tdiv y))),(.int .u64 (f.tmod y))]) R) B)else(Calls P Vt #[(.int .u64 y)] B λF G=>∃a:Int,F=
  .returned (Iv a)/\0<=(u64.wrap a)/\0<=(32:Int)/\0<=(u64.wrap a)/\0<=(u64.wrap (64-(u64.wrap a)))/\0<=
  (u64.wrap a)/\0<=(32:Int)/\((u64.wrap (y*2^(min (u64.wrap a).toNat 64))).fdiv (2^(min (32:Int).toNat 64)))≠0/\∃p:Int->bH->
  Prop,(∃(n:Int->Int->bg0) (u:Int->Int->bH->Nat),n (u64.wrap ((iU .u64 (u64.wrap (h*2^(min (u64.wrap a).toNat 64)))
  (f.fdiv (2^(min (u64.wrap (64-(u64.wrap a))).toNat 64)))).tdiv ((u64.wrap (y*2^(min (u64.wrap a).toNat 64))).fdiv (2^(min (32:
  Int).toNat 64))))) (u64.wrap ((iU .u64 (u64.wrap (h*2^(min (u64.wrap a).toNat 64))) (f.fdiv (2^(min (u64.wrap (64-(u64.wrap
  a))).toNat 64))))-(u64.wrap ((u64.wrap ((iU .u64 (u64.wrap (h*2^(min (u64.wrap a).toNat 64))) (f.fdiv (2^(min (u64.wrap
  (64-(u64.wrap a))).toNat 64)))).tdiv ((u64.wrap (y*2^(min (u64.wrap a).toNat 64))).fdiv (2^(min (32:Int).toNat 64)))))*((u64.wrap
  (y*2^(min (u64.wrap a).toNat 64))).fdiv (2^(min (32:Int).toNat 64))))))) G/\∀L:Nat->bE,∀e:Int,∀b:Int,∀i:bH,n e
  b i->∃q:bg0,(bif(decide (e≥4294967296))then(q i)else(bif(decide ((u64.wrap (e*(bU .u64 (u64.wrap (y*2^(min
  (u64.wrap a).toNat 64))) 4294967295)))>(u64.wrap ((u64.wrap (4294967296*b))+((u64.wrap (f*2^(min (u64.wrap a).toNat
  64))).fdiv (2^(min (32:Int).toNat 64)))))))then(q i)else(p e i)))/\(∀M:Nat->bE,∀l:bH,q l->bif(decide ((u64.wrap (b+
  ((u64.wrap (y*2^(min (u64.wrap a).toNat 64))).fdiv (2^(min (32:Int).toNat 64)))))≥4294967296))then(p (u64.wrap (e-1)) l)else
  ((n (u64.wrap (e-1)) (u64.wrap (b+((u64.wrap (y*2^(min (u64.wrap a).toNat 64))).fdiv (2^(min (32:Int).toNat 64))))) l/\
  u (u64.wrap (e-1)) (u64.wrap (b+((u64.wrap (y*2^(min (u64.wrap a).toNat 64))).fdiv (2^(min (32:Int).toNat 64))))) l<
  u e b i))))/\(∀J:Nat->bE,∀g z,p g z->((u64.wrap (y*2^(min (u64.wrap a).toNat 64))).fdiv (2^(min
  (32:Int).toNat 64)))≠0/\∃r:Int->bg0,(∃(o:Int->Int->bg0) (x:Int->Int->bH->Nat),o (u64.wrap ((u64.wrap
  ((u64.wrap ((u64.wrap ((iU .u64 (u64.wrap (h*2^(min (u64.wrap a).toNat 64))) (f.fdiv (2^(min (u64.wrap (64-(u64.wrap
  a))).toNat 64))))*4294967296))+((u64.wrap (f*2^(min (u64.wrap a).toNat 64))).fdiv (2^(min (32:Int).toNat 64)))))-(u64.wrap (g*
  (u64.wrap (y*2^(min (u64.wrap a).toNat 64)))))))-(u64.wrap ((u64.wrap ((u64.wrap ((u64.wrap ((u64.wrap ((iU .u64
  (u64.wrap (h*2^(min (u64.wrap a).toNat 64))) (f.fdiv (2^(min (u64.wrap (64-(u64.wrap a))).toNat 64))))*4294967296))+
  ((u64.wrap (f*2^(min (u64.wrap a).toNat 64))).fdiv (2^(min (32:Int).toNat 64)))))-(u64.wrap (g*(u64.wrap (y*2^(min
  (u64.wrap a).toNat 64))))))).tdiv ((u64.wrap (y*2^(min (u64.wrap a).toNat 64))).fdiv (2^(min (32:Int).toNat 64)))))*((u64.wrap (y*
  2^(min (u64.wrap a).toNat 64))).fdiv (2^(min (32:Int).toNat 64))))))) (u64.wrap ((u64.wrap ((u64.wrap ((u64.wrap ((iU .u64
  (u64.wrap (h*2^(min (u64.wrap a).toNat 64))) (f.fdiv (2^(min (u64.wrap (64-(u64.wrap a))).toNat 64))))*4294967296))+
  ((u64.wrap (f*2^(min (u64.wrap a).toNat 64))).fdiv (2^(min (32:Int).toNat 64)))))-(u64.wrap (g*(u64.wrap (y*2^(min
  (u64.wrap a).toNat 64))))))).tdiv ((u64.wrap (y*2^(min (u64.wrap a).toNat 64))).fdiv (2^(min (32:Int).toNat 64))))) z/\∀O:Nat->
  bE,∀c:Int,∀d:Int,∀j:bH,o c d j->∃s:bg0,(bif(decide (d≥4294967296))then(s j)else(bif(decide
  ((u64.wrap (d*(bU .u64 (u64.wrap (y*2^(min (u64.wrap a).toNat 64))) 4294967295)))>(u64.wrap ((u64.wrap (4294967296*
  c))+(bU .u64 (u64.wrap (f*2^(min (u64.wrap a).toNat 64))) 4294967295)))))then(s j)else(r d j)))/\(∀Q:Nat->bE,∀m:
  bH,s m->bif(decide ((u64.wrap (c+((u64.wrap (y*2^(min (u64.wrap a).toNat 64))).fdiv (2^(min (32:Int).toNat 64)))))≥
  4294967296))then(r (u64.wrap (d-1)) m)else((o (u64.wrap (c+((u64.wrap (y*2^(min (u64.wrap a).toNat 64))).fdiv (2 ^
  (min (32:Int).toNat 64))))) (u64.wrap (d-1)) m/\x (u64.wrap (c+((u64.wrap (y*2^(min (u64.wrap a).toNat 64))).fdiv (2 ^
  (min (32:Int).toNat 64))))) (u64.wrap (d-1)) m<x c d j))))/\(∀N:Nat->bE,∀k A,r k A->0<=
  (u64.wrap a)/\K (.tuple #[(.int .u64 (u64.wrap ((u64.wrap (g*4294967296))+k))),(.int .u64 ((u64.wrap ((u64.wrap
  ((u64.wrap ((u64.wrap ((u64.wrap ((u64.wrap ((iU .u64 (u64.wrap (h*2^(min (u64.wrap a).toNat 64))) (f.fdiv (2^(min
  (u64.wrap (64-(u64.wrap a))).toNat 64))))*4294967296))+((u64.wrap (f*2^(min (u64.wrap a).toNat 64))).fdiv (2^(min (32:
  Int).toNat 64)))))-(u64.wrap (g*(u64.wrap (y*2^(min (u64.wrap a).toNat 64)))))))*4294967296))+(bU .u64 (u64.wrap (f*2 ^
  (min (u64.wrap a).toNat 64))) 4294967295)))-(u64.wrap (k*(u64.wrap (y*2^(min (u64.wrap a).toNat 64))))))).fdiv (2^(min
  (u64.wrap a).toNat 64))))]) A)))))
def as9(b c y:Int)(K:bg1)(a:bA PanicEntry->bg0)(w:bH):km P fF gL cz Pz f245 #[(.int .u64 b),(.int .u64 c),(.int .u64 y)] K a w=DP b c y K a w:=by kernel_rfl
def asB:k5 P Pz f245 3=true:=by kernel_rfl
def ar2(b c y:Int){K:bg1}{a:bA PanicEntry->bg0}{w:bH}(h:DP b c y K a w):Calls P uQ #[(.int .u64 b),(.int .u64 c),(.int .u64 y)] w (qs K a):=Hf mixed func245 asB (by rw[as9];exact h)
end Go.Mp
namespace Go.Mp
open Go Go.Vc Go.Sp Go.Proofs Go.Kc
def aIt{x y:Nat}(hx:x<4294967296)(i:y<4294967296)(w:bH):Calls P xP #[.int .u64 (x:Nat),.int .u64 (y:Nat)] w (cA λv w'=>v=.tuple #[.int .u64 0,.int .u64 ((x*y:Nat):Int)]/\w'=w):=by
 apply Mv;unfold C7;have c:x*y<18446744073709551616:=by
  have:x*y<=4294967295*4294967295:=Gr bu bu;omega
 have f:(x:Int).fdiv (2^(min (32:Int).toNat 64))=((0:Nat):Int):=by
  rw[show(x:Int).fdiv (2^(min (32:Int).toNat 64))=((x/2^32:Nat):Int)from sh x 32,y8 bu]
 have g:(y:Int).fdiv (2^(min (32:Int).toNat 64))=((0:Nat):Int):=by
  rw[show(y:Int).fdiv (2^(min (32:Int).toNat 64))=((y/2^32:Nat):Int)from sh y 32,y8 bu]
 have m:∀ {z:Nat},z<18446744073709551616->bU .u64 (z:Int) 4294967295=((z%4294967296:Nat):Int):=by
  intro z j;have h:=sF (a:=z) (b:=4294967295) j bu;have e:z &&& 4294967295=z%4294967296:=tq z 32;rw[e]at h;exact h
 rw[f,g,m bu,m bu,mI hx,mI i];have d:∀a:Int,((0:Nat):Int)*a=((0:Nat):Int):=λa=>by simp
 have k:∀a:Int,a*((0:Nat):Int)=((0:Nat):Int):=λa=>by simp
 rw[d,d,k,ds (n:=0) bu,<- tF,ds c];rw[show((x*y:Nat):Int).fdiv (2^(min (32:Int).toNat 64))=((x*y/4294967296:Nat):Int)from sh _ 32];rw[show((0:Nat):Int)+((x*y/4294967296:Nat):Int)=((x*y/4294967296:Nat):Int) by omega,ds (n:=x*y/4294967296) bu];rw[show((x*y/4294967296:Nat):Int).fdiv (2^(min (32:Int).toNat 64))=((x*y/4294967296/4294967296:Nat):Int)from sh _ 32];rw[m bu,show x*y/4294967296/4294967296=0 by omega,mI bu];rw[show((x*y/4294967296:Nat):Int)+((0:Nat):Int)=((x*y/4294967296:Nat):Int) by omega,ds (n:=x*y/4294967296) bu];rw[show((x*y/4294967296:Nat):Int).fdiv (2^(min (32:Int).toNat 64))=((x*y/4294967296/4294967296:Nat):Int)from sh _ 32,show x*y/4294967296/4294967296=0 by omega];refine⟨bN,bN,bN,bN,bN,?_,rfl⟩;simp[nA]
def PC{E:Env}{L:cv}{x s:Nat}(hx:x<18446744073709551616)(g:s≠0){w:bH}(h:Sep E L w):Calls P uQ #[.int .u64 0,.int .u64 (x:Nat),.int .u64 (s:Nat)] w (cY E (.tuple #[.int .u64 ((x/s:Nat):Int),.int .u64 ((x%s:Nat):Int)]) L):=by
 have key:Calls P uQ #[.int .u64 0,.int .u64 (x:Nat),.int .u64 (s:Nat)] w (qs (λv w'=>v=.tuple #[.int .u64 ((x/s:Nat):Int),.int .u64 ((x%s:Nat):Int)]/\Sep E L w') (λ_ _=>False)):=by
  apply ar2;unfold DP;refine⟨λw'=>w'=w,eX (λe=>absurd e bu) (λ_=>rfl),?_⟩;rintro _ d rfl;refine⟨λw'=>w'=d,h4 (λe=>absurd e bu) (λ_=>rfl),?_⟩;rintro _ w2 rfl;refine bT rfl (Dr.i h (λi c=>⟨bu,bu,?_,c⟩));have a:((x:Int)).tdiv (s:Int)=((x/s:Nat):Int):=by rw[Int.tdiv_eq_ediv_of_nonneg bu];exact(Int.natCast_ediv x s).symm
  have b:((x:Int)).tmod (s:Int)=((x%s:Nat):Int):=by rw[Int.tmod_eq_emod_of_nonneg bu];exact(Int.natCast_emod x s).symm
  have:=Gk x s;rw[a,b,ds]
 refine key.mono λe w' he=>?_;rcases he with he|⟨f,_,hf⟩
 ·exact he
 ·exact hf.elim
end Go.Mp
namespace Go.Kc
open Go.Kt
def PD:∀ {l:bA eA} {n i:Nat} {x:eA},gG n l=true->l[i]?=some x->((n+i=0/\x.parent= -1)\/(0<=x.parent/\x.parent<((n+i:Nat):Int)))/\gS x.use=true/\gS x.own=true
 |[],_,_,_,_,h=>by simp at h
 |y::l,n,0,x,h,hx=>by
  simp only[lE,fU]at hx;subst hx;unfold gG at h;simp only[dA,jE,gE]at h;exact⟨by simpa using h.1.1.1,h.1.1.2,h.1.2⟩
 |y::l,n,i+1,x,h,hx=>by
  unfold gG at h;rw[dA]at h;have:=PD h.2 (i:=i) (by simpa using hx);rw[show n+(i+1)=n+1+i by omega];exact this
def PE:∀ {l:bA eA} {n k:Nat},gG n l=true->gG n (l.take k)=true
 |[],n,k,h=>by simp[gG]
 |y::l,n,0,h=>by simp[gG]
 |y::l,n,k+1,h=>by
  unfold gG at h;rw[dA]at h;show gG n (y::l.take k)=true;unfold gG;rw[dA];exact⟨h.1,PE h.2⟩
def PF:∀ {l:bA eA} {n:Nat} {x:eA},gG n (l++[x])=(gG n l&&gG (n+l.length) [x])
 |[],n,x=>by simp[gG]
 |y::l,n,x=>by
  obtain⟨c,a⟩:∃c,∀r:bA eA,gG n (y::r)=(c&&gG (n+1) r):=⟨_,λr=>rfl⟩
  rw[o4,a,a,PF (l:=l),hI,show n+(l.length+1)=n+1+l.length by omega,Bool.and_assoc]
def ve{n:Nat}{x:eA}:gG n [x]=(((decide (n=0)&&decide (x.parent= -1))||(decide (0<=x.parent)&&decide (x.parent<(n:Int))))&&gS x.use&&gS x.own):=by
 unfold gG;unfold gG;rw[Bool.and_true]
variable{l:bA eA}{t:Int}
def oQ(h:hZ l=true){i:Nat}{x:eA}(hx:l[i]?=some x):((i=0/\x.parent= -1)\/(0<=x.parent/\x.parent<(i:Int)))/\(0<=x.use/\x.use<=top)/\0<=x.own/\x.own<=top:=by
 unfold hZ at h;rw[dA]at h;have:=PD h.1 hx;rw[fy,wV,wV]at this;exact this
def aGe(h:hZ l=true):l.length<=64:=by
 unfold hZ at h;rw[dA,gE]at h;exact h.2
def vf{i:Nat}{x:eA}(hx:l[i]?=some x):ns l (i:Int)=x:=by unfold ns;rw[dz,dT,hx];rfl
def PG(h:hZ l=true):∀(f f':Nat) (x:Int),x<l.length->(x+1).toNat<f->(x+1).toNat<f'->lI l t f x=lI l t f' x
 |0,_,_,_,h1,_=>bu
 |_,0,_,_,_,h1=>bu
 |f+1,f'+1,x,hx,h1,h2=>by
  unfold lI;split;·rfl
  ·split;·rfl
   ·next b c=>
    obtain⟨n,rfl⟩:∃n:Nat,x=n:=⟨x.toNat,bu⟩
    obtain⟨y,a⟩:∃y,l[n]?=some y:=⟨_,dN⟩
    rw[vf a];have d:=(oQ h a).1;rw[PG h f f' y.parent bu bu bu]
def yi{f:Nat}{x:Int}(a:x≠t):lI l t (f+1) x=x::(if x<0 then[]else lI l t f (ns l x).parent):=by
 rw[lI,bJ a];split<;>rfl
def PH(h:hZ l=true):∀(f:Nat) (g:Int),g<l.length->∀x∈lI l t f g,x<l.length
 |0,_,_,x,hx=>by simp[lI]at hx
 |f+1,g,c,x,hx=>by
  by_cases a:g=t;·rw[lI,bL a]at hx;cases hx
  ·rw[yi a]at hx;rcases ey.1 hx with rfl|hx;·exact c
   ·split at hx;·cases hx
    ·next d=>
     obtain⟨n,rfl⟩:∃n:Nat,g=n:=⟨g.toNat,bu⟩
     obtain⟨y,b⟩:∃y,l[n]?=some y:=⟨_,dN⟩
     rw[vf b]at hx;have e:=(oQ h b).1;exact PH h f y.parent bu x hx
def az8(h:hZ l=true)(c:0<=t){i:Nat}{x:eA}(hx:l[i]?=some x)(hb:mP l i t=true)(a:(i:Int)≠t):0<=x.parent/\x.parent<(i:Int):=by
 have b:=(c4.1 hx).1;rcases(oQ h hx).1 with⟨rfl,hp⟩|hp
 ·exfalso;unfold mP h0 at hb;rw[yi a,cF,vf hx,hp]at hb;obtain⟨m,hm⟩:∃m,l.length=m+1:=⟨l.length-1,bu⟩
  rw[hm,yi bu]at hb;simp at hb
 ·exact hp
def PI(l:bA eA)(t:Int):∀(a b:bA eA) (out:bR),lJ l t (a++b) out=lJ l t b (lJ l t a out)
 |[],b,out=>rfl
 |x::a,b,out=>by
  show lJ l t (a++b) _=lJ l t b (lJ l t a _);rw[PI l t a b]
def PJ(l:bA eA)(t:Int):∀(a:bA eA) (out:bR),(lJ l t a out).length=out.length+a.length
 |[],out=>rfl
 |x::a,out=>by
  show(lJ l t a _).length=_;rw[PJ l t a,dg];simp;omega
def gb(l:bA eA)(t:Int)(k:Nat):bR:=lJ l t (l.take k) []
def DQ{k:Nat}(hk:k<=l.length):(gb l t k).length=k:=by
 unfold gb;rw[PJ,hJ];simp;omega
def DR{k:Nat}{x:eA}(hx:l[k]?=some x):gb l t (k+1)=gb l t k++[mR l t (gb l t k) k x]:=by
 have a:=(c4.1 hx).1;have hl:=DQ (l:=l) (t:=t) (k:=k) bu;have:l.take (k+1)=l.take k++[x]:=by rw[mF,hx];rfl
 unfold gb at hl ⊢;rw[this,PI];show lJ l t (l.take k) []++[mR l t _ (lJ l t (l.take k) []).length x]=_;rw[hl]
def vg{x:eA}(hu:0<=x.use/\x.use<=top)(ho:0<=x.own/\x.own<=top):0<=x.eV/\x.eV<=x.use:=by unfold eA.eV;omega
def aG4{x:eA}(hx:0<=x.eV){out:bR}(a:∀y∈out,0<=y)(i:Nat):0<=mR l t out i x/\mR l t out i x<=x.eV:=by
 unfold mR;split;·exact⟨g3 _,hx⟩
 ·split
  ·next h=>
   have b:0<=out.getD x.parent.toNat 0:=by
    rw[dT];cases c:out[x.parent.toNat]? with
    |none=>exact g3 _
    |some y=>exact a y (eH c)
   have d:0<sumOf l x.parent:=by omega
   refine⟨zc (zd hx b) bu,?_⟩;have h1:x.eV*out.getD x.parent.toNat 0<=x.eV*sumOf l x.parent:=be1 bu hx;have h2:=Int.ediv_le_ediv d h1;rw[Int.mul_ediv_cancel _ bu]at h2;exact h2
  ·exact⟨hx,g3 _⟩
def DS(h:hZ l=true):∀(k:Nat),k<=l.length->∀(i:Nat) (y:Int),(gb l t k)[i]?=some y->0<=y/\∃x,l[i]?=some x/\y<=x.eV
 |0,_,i,y,a=>by simp[gb,lJ]at a
 |k+1,hk,i,y,a=>by
  obtain⟨x,hx⟩:∃x,l[k]?=some x:=⟨_,dN⟩
  rw[DR hx]at a;have hl:=DQ (l:=l) (t:=t) (k:=k) bu;rcases hN i k with d|d
  ·rw[eN bu]at a;exact DS h k bu i y a
  ·rw[fR bu,hl]at a;have b:i-k=0:=by
    rcases kZ (i-k)with e|e;·exact e
    ·rw[g2 (by simp;omega)]at a;cases a
   rw[b]at a;simp only[lE,fU]at a;have b:i=k:=by omega
   subst b;have c:=oQ h hx;have:=aG4 (l:=l) (t:=t) (x:=x) (vg c.2.1 c.2.2).1 (out:=gb l t i) (λy a=>by
    obtain⟨j,f,rfl⟩:=jb.1 a;exact(DS h i bu j _ (dL f)).1) i
   rw[a]at this;exact⟨this.1,x,hx,this.2⟩
def m5(l:bA eA)(k:Nat)(p:Int):Int:=(((l.drop 1).take k).filter λx=>x.parent==p).foldl (λs x=>s+x.eV) 0
def PK{k:Nat}{x:eA}(hx:(l.drop 1)[k]?=some x)(p:Int):m5 l (k+1) p=if x.parent=p then m5 l k p+x.eV else m5 l k p:=by
 unfold m5;have:(l.drop 1).take (k+1)=(l.drop 1).take k++[x]:=by rw[mF,hx];rfl
 rw[this,tx,y5,jD];by_cases e:x.parent=p;·rw[bL e,bL (by simpa using e)];rfl
 ·rw[bJ e,bJ (by simpa using e)];rfl
def PL(p:Int):m5 l (l.length-1) p=sumOf l p:=by
 unfold m5 sumOf;rw[iq (by simp)]
def DT(h:hZ l=true)(p:Int):∀(k:Nat),k<l.length->0<=m5 l k p/\m5 l k p<=k*top
 |0,_=>by show 0<=(0:Int)/\(0:Int)<=_;omega
 |k+1,hk=>by
  obtain⟨x,hx⟩:∃x,l[k+1]?=some x:=⟨_,dN⟩
  have b:(l.drop 1)[k]?=some x:=by rw[pY,rM];exact hx
  have c:=DT h p k bu;have a:=oQ h hx;have ho:=vg a.2.1 a.2.2;rw[PK b];have e:((k+1:Nat):Int)*top=(k:Int)*top+top:=by rw[Gl,Int.add_mul];simp
  rw[e];have:0<=top:=by decide
  split<;>omega
end Go.Kc
namespace Go.Sp
open Go Go.Vc
variable{E:Env}{L:cv}{w:bH}{P:cP}
abbrev PM(P:cP)(E:Env)(f:bg7)(ca:cb bE)(A A' S:Asn)(xs:bA bE):Prop:=Dc P E f (λy=> #[y]++ca) A A' S xs
def iy.iS{τ:cf->K1}{ρ:cf->Kd}{cz:bg7->Bool}{An:dO}{yl:Nat->Bool}{N p:Nat}{f:bg7}{ca:cb bE}{A A' S:Asn}{xs:bA bE}{e body c:Code}{T:Tr}{done ret:Nat->bg0}(hm:P.follows .mixedOrders=true)(o:N<=8000)(hp:p<N)(n:gK P N An e=true/\gK P N An body=true)(hf:kN P f=true)(q:PM P E f ca A A' S xs)(a j:Nat->Asn)(g:∀(l:Nat) (r:Loop) L k x W R,r.state=.ready->r.pending=none->xs[k]?=some x->Sep E (c8 l (.loop r)::a k::S::L) W->(∀d,Sep E (c8 l (.loop r)::a (k+1)::S::L) d->R (.returned (.bool true)) d)->
   (∀d,Sep E (c8 l (.loop {r with state:=.done,pending:=some c})::j k::S::L) d->R (.returned (.bool false)) d)->mo P τ ρ cz An yl N l e body (lj [(p,x)] T) W R)(h:Sep E (a 0::S::A::L) w)(i:∀b W,Sep E (c8 b (.deferred (some []))::a xs.length::S::A'::L) W->done b W)(m:∀b k W,k<xs.length->Sep E (c8 b (.deferred (some []))::j k::S::A'::L) W->ret b W):iy P N (.func (.func f) #[] ca) #[p] e body c T w done ret:=
 iy.Dd (fi:= #[]) (λy=>by simp) hm o hp n hf q a j g h i m
end Go.Sp
namespace Go.Kc
open Go
def eA.vs(x:eA):bA bE:=[Iv x.parent,Iv x.use,Iv x.own]
def eA.mx(x:eA):x.vs.length=3:=rfl
end Go.Kc
namespace Go.Mp
open Go Go.Vc Go.Sp Go.Proofs Go.Kc
variable{E:Env}{L:cv}{w W:bH}
abbrev eo(s:Sl)(l:bA eA):Asn:=bw s 3 (bP eA.vs l)
def vh{s:Sl}{l:bA eA}{i:Int}{f:Addr->Prop}(q:Nat)(h:Sep E L w)(e:L[q]?=some (eo s l))(hn:s.n=l.length){k:Nat}(d:i=k){x:eA}(hx:l[k]?=some x)(g:∀a,w.cell? (a.add 0)=some (Iv x.parent)->w.cell? (a.add 1)=some (Iv x.use)->w.cell? (a.add 2)=some (Iv x.own)->f a):cM s.p s.n i 3 f:=
 lR eA.mx q h e hn d hx (λb _ c=>g _ (by rw[cj];exact c 0 _ rfl) (by rw[cj];exact c 1 _ rfl) (by rw[cj];exact c 2 _ rfl))
def yj(g:Int)(w:bH):Calls P uR #[Iv g] w (cA λv w'=>v=.bool (gS g)/\w'=w):=by
 apply Yf;unfold Mt gS top;exact h4 (λh=>⟨by rw[dE h];rfl,rfl⟩) (λh=>⟨by rw[di bu];rfl,rfl⟩)
def PN{x:eA}(h:Sep E L w):Calls P Cw #[.agg #[Iv x.parent,Iv x.use,Iv x.own]] w (cY E (Iv x.eV) L):=by
 apply XN;unfold L5 qL;refine Al.i h (λp a h1=>⟨_,by rw[cj];exact h1.cell 2,_,by rw[cj];exact h1.cell 1,?_,h1.tail⟩);unfold eA.eV min1;congr 1;split<;>omega
def PO{s:Sl}{l:bA eA}{q:Nat}(G:L[q]?=some (eo s l))(hn:s.n=l.length)(hb:l.length<1000000)(h:Sep E L w):Calls P Cv #[Sv s] w (cY E (.bool (hZ l)) L):=by
 apply XM;unfold L4 qF qL qO qU qW qh qi ql;refine⟨λx w'=>∃k:Nat,x=k/\k<=l.length/\gG 0 (l.take k)=true/\Sep E L w',λx _=>(l.length-x).toNat,⟨0,rfl,e7 _,by simp[gG],h⟩,?_⟩;rintro _ x N ⟨k,rfl,hk,o,h1⟩;refine cX (λM=>?_) (λJ=>?_)
 ·obtain⟨y,A⟩:∃y,l[k]?=some y:=⟨_,dN⟩
  refine vh q h1 G hn rfl A (λa C D F=>⟨_,C,_,D,_,F,Al.i h1 (λp w2 h2=>ew _ h2 rfl (λr b=>?_))⟩);have m:gG 0 (l.take (k+1))=gG k [y]:=by
   rw[fL A,PF,o,l4,fy,hJ,o5 hk]
  have bad:gG k [y]=false->hZ l=false:=by
   intro f;unfold hZ;cases z:gG 0 l with
   |false=>rfl
   |true=>
    have:=PE (k:=k+1) z;rw[m,f]at this;cases this
  have cell:∀(j:Nat) {w':bH},Sep E (bC p [Iv y.parent,Iv y.use,Iv y.own]::L) w'->w'.cell? ((⟨p,0,none⟩:Addr).add j)=([Iv y.parent,Iv y.use,Iv y.own]:bA bE)[j]? :=by
   intro j w' H;rw[cj,H.cell,fy]
  have g:gG k [y]=true->(∃k':Nat,i64.wrap ((k:Int)+1)=k'/\k'<=l.length/\gG 0 (l.take k')=true/\Sep E L r)/\(l.length-i64.wrap ((k:Int)+1)).toNat<(l.length-(k:Int)).toNat:=by
   intro f;exact⟨⟨k+1,de,bu,by rw[m,f],b.tail⟩,by rw[de];omega⟩
  have two:∀(B:bg0),(∀w',w'=r->B w')->((decide (k=0)&&decide (y.parent= -1))||(decide (0<=y.parent)&&decide (y.parent<(k:Int))))=true->
    (gG k [y]=(gS y.use&&gS y.own)):=by
   intro _ _ f;rw[ve,f,l4]
  refine⟨λroot w'=>root=(decide (k=0)&&decide (y.parent= -1))/\w'=r,eX (λe=>⟨_,cell 0 b,?_,rfl⟩) (λe=>⟨?_,rfl⟩),?_⟩
  ·rw[dE (show k=0 by omega),l4];by_cases n:y.parent= -1;·rw[n];rfl
   ·rw[di n];simpa using n
  ·rw[di (show ¬ k=0 by omega),wi]
  ·rintro _ root i ⟨rfl,rfl⟩;have tail:((decide (k=0)&&decide (y.parent= -1))||(decide (0<=y.parent)&&decide (y.parent<(k:Int))))=true->∀ {K:bg0},(gG k [y]=true->K i)->(gG k [y]=false->Value.bool false=.bool (hZ l)/\Sep E L i->True)->True:=λ_ _ _ _=>trivial;have _:=tail;have _:=two;cases c:(decide (k=0)&&decide (y.parent= -1))with
   |false=>
    refine bT rfl ⟨_,cell 0 b,cX (λf=>⟨?_,b.tail⟩) (λf=>⟨_,cell 0 b,hD (λu=>⟨?_,b.tail⟩) (λu=>⟨_,cell 1 b,use (yj _ i) ?_⟩)⟩)⟩
    ·rw[bad];rw[ve,c,di (show ¬ 0<=y.parent by omega)];rfl
    ·rw[bad];rw[ve,c,di (show ¬ y.parent<(k:Int) by omega),rL];rfl
    ·rintro _ t ⟨rfl,rfl⟩;have d:gG k [y]=(gS y.use&&gS y.own):=by
      rw[ve,c,dE (show 0<=y.parent by omega),dE (show y.parent<(k:Int) by omega)];rfl
     refine⟨_,rfl,?_⟩;cases hu:gS y.use with
     |false=>exact bT rfl ⟨by rw[bad];rw[d,hu];rfl,b.tail⟩
     |true=>
      refine bF rfl ⟨_,cell 2 b,use (yj _ t) ?_⟩;rintro _ I ⟨rfl,rfl⟩;refine⟨_,rfl,?_⟩;cases ho:gS y.own with
      |false=>exact bT rfl ⟨by rw[bad];rw[d,hu,ho];rfl,b.tail⟩
      |true=>exact bF rfl (g (by rw[d,hu,ho];rfl))
   |true=>
    refine bF rfl ⟨_,cell 1 b,use (yj _ i) ?_⟩;rintro _ t ⟨rfl,rfl⟩;have d:gG k [y]=(gS y.use&&gS y.own):=by
     rw[ve,c];rfl
    refine⟨_,rfl,?_⟩;cases hu:gS y.use with
    |false=>exact bT rfl ⟨by rw[bad];rw[d,hu];rfl,b.tail⟩
    |true=>
     refine bF rfl ⟨_,cell 2 b,use (yj _ t) ?_⟩;rintro _ I ⟨rfl,rfl⟩;refine⟨_,rfl,?_⟩;cases ho:gS y.own with
     |false=>exact bT rfl ⟨by rw[bad];rw[d,hu,ho];rfl,b.tail⟩
     |true=>exact bF rfl (g (by rw[d,hu,ho];rfl))
 ·have:k=l.length:=by omega
  subst this;rw[gg]at o;refine⟨?_,h1⟩;unfold hZ;rw[o,l4,hn];congr 1;exact tD.2 bu
def PQ:kN P sy=true:=by kernel_rfl
def PR{s:Sl}{g t:Int}(h:Sep E L w):Calls P Cx #[Sv s,Iv g,Iv t] w (cA λv w'=>∃a b c,v=.func (.func sy) #[] #[Pb b,Pb c,Pb a]/\
  Sep E (bC b [Iv g]::bC c [Iv t]::bC a [Sv s]::L) w'):=by
 apply XV;unfold L8 qC;exact Al.i h (λa e h1=>Al.i h1 (λb w2 h2=>Al.i h2 (λc f d=>⟨a,b,c,rfl,d.ro 3 [1,0,2] rfl⟩)))
def ln(a b c:Nat)(s:Sl)(t g:Int):Asn:=star (bC b [Iv g]) (star (bC c [Iv t]) (bC a [Sv s]))
def PT{c b d:Nat}{s:Sl}{l:bA eA}{g t:Int}(hn:s.n=l.length)(D:hZ l=true)(N:g<l.length)(T:0<=t):
  PM P E sy #[Pb b,Pb d,Pb c] (ln c b d s t g) (fe λx:Int=>ln c b d s t x) (eo s l) ((h0 l t g).map (Value.int .i64)):=by
 intro F J X M L W h;have pack:∀ {A:Asn} {x:Int} {i:bH},Sep E (A::eo s l::bC b [Iv x]::bC d [Iv t]::bC c [Sv s]::L) i->Sep E (A::eo s l::(fe λx:Int=>ln c b d s t x)::L) i:=by
  intro A x i O;have h1:Sep E (bC d [Iv t]::bC c [Sv s]::bC b [Iv x]::A::eo s l::L) i:=O.ro 5 [3,4,2,0,1] rfl;have h2:=Sep.star.2 ((Sep.star.2 h1).swap);exact(Sep.ex.2 ⟨x,h2⟩:Sep E ((fe λx:Int=>ln c b d s t x)::A::eo s l::L) i).ro 3 [1,2,0] rfl
 refine Calls.mono (R:=cA λv i=>v=.tuple #[]/\(Sep E (J ((h0 l t g).map (Value.int .i64)).length::eo s l::(fe λx:Int=>ln c b d s t x)::L) i\/
  ∃k,k<((h0 l t g).map (Value.int .i64)).length/\Sep E (X k::eo s l::(fe λx:Int=>ln c b d s t x)::L) i)) ?_ (λe i he=>?_)
 rotate_left
 ·obtain⟨v,rfl,rfl,he⟩:=he;exact⟨⟨_,rfl⟩,he⟩
 have h1:Sep E (J 0::eo s l::bC b [Iv g]::bC d [Iv t]::bC c [Sv s]::L) W:=by
  have h2:Sep E (ln c b d s t g::J 0::eo s l::L) W:=h.ro 3 [2,0,1] rfl;have f:=Sep.star.1 ((Sep.star.1 h2).swap);exact f.ro 5 [3,4,2,0,1] rfl
 show Calls P sy #[.func (.yield F) #[] #[],Pb b,Pb d,Pb c] W _;apply Yj;unfold C8 qD qL qW qc qd;rw[en];refine⟨λw'=>∃(k:Nat) (x:Int),x<l.length/\k<=(h0 l t g).length/\(h0 l t g).drop k=lI l t (l.length+1) x/\Sep E (J k::eo s l::bC b [Iv x]::bC d [Iv t]::bC c [Sv s]::L) w',
  λw'=>match w'.cell? ⟨b,0,none⟩with|some (.int _ x)=>(x+1).toNat|_=>0,⟨0,g,N,e7 _,rfl,h1⟩,?_⟩
 rintro _ w2 ⟨k,x,hx,Q,n,h2⟩;refine⟨x,h2.cellAt 2 rfl 0,t,h2.cellAt 3 rfl 0,iz (λC=>?_) (λhe=>?_)⟩
 ·refine⟨x,h2.cellAt 2 rfl 0,F,rfl,?_⟩;rw[yi C]at n;have hk:(h0 l t g)[k]?=some x:=by
   have:((h0 l t g).drop k)[0]?=some x:=by rw[n];rfl
   rwa[pY,k1]at this
  have B:((h0 l t g).map (Value.int .i64))[k]?=some (Iv x):=by rw[eI,hk];rfl
  have q:=(c4.1 hk).1;have j:(h0 l t g).drop (k+1)=if x<0 then[]else lI l t l.length (ns l x).parent:=by rw[<- p1,n];rfl
  obtain⟨fn,tmps,w,body,r,o⟩:=M _ k _ _ B h2;refine⟨fn,tmps,w,body,r,o.mono λe U he=>?_⟩;rcases he with⟨rfl,f⟩|⟨rfl,f⟩
  ·refine⟨true,rfl,bF rfl ⟨x,f.cellAt 2 rfl 0,cX (λz=>⟨rfl,.inl ?_⟩) (λz=>?_)⟩⟩
   ·rw[bL z]at j;have:(h0 l t g).length=k+1:=by
     have:=eK List.length j;rw[nO]at this;simp at this;omega
    rw[this];exact pack f
   ·rw[cF]at j;obtain⟨m,rfl⟩:∃m:Nat,x=m:=⟨x.toNat,bu⟩
    obtain⟨y,u⟩:∃y,l[m]?=some y:=⟨_,dN⟩
    rw[vf u]at j;have S:=(oQ D u).1;refine⟨s,f.cellAt 4 rfl 0,_,f.cellAt 2 rfl 0,vh 1 f rfl hn rfl u (λa H _ _=>⟨_,H,?_⟩)⟩;refine St.i (f.ro 5 [2,0,1,3,4] rfl) (by show 0<1;decide) (λG p=>?_);have p:Sep E (bC b [Iv y.parent]::J (k+1)::eo s l::bC d [Iv t]::bC c [Sv s]::L) G:=p;have I:G.cell? ⟨b,0,none⟩=some (Iv y.parent):=p.cell 0;have K:w2.cell? ⟨b,0,none⟩=some (Iv (m:Int)):=h2.cellAt 2 rfl 0;dsimp only;rw[I,K];refine⟨rfl,⟨k+1,y.parent,bu,q,?_,p.ro 5 [1,2,0,3,4] rfl⟩,?_⟩
    ·rw[j];exact PG D _ _ _ bu bu bu
    ·show(y.parent+1).toNat<((m:Int)+1).toNat;omega
  ·exact⟨false,rfl,bT rfl ⟨rfl,.inr ⟨k,q,pack f⟩⟩⟩
 ·refine⟨rfl,.inl ?_⟩;rw[lI,bL he]at n;have:(h0 l t g).length=k:=by
   have:=eK List.length n;rw[nO]at this;simp at this;omega
  rw[this];exact pack h2
def PU{r:Loop}(h1:r.state=.ready)(h2:r.pending=none):({ {r with state:=.busy} with state:=if(none:bW Code).isNone then .ready else .done,pending:=none} :Loop)=r:=by
 cases r;simp only at h1 h2;subst h1 h2;rfl
def PV{s:Sl}{l:bA eA}{g t:Int}{q:Nat}(M:L[q]?=some (eo s l))(hn:s.n=l.length)(O:hZ l=true)(H:g<l.length)(N:0<=t)(h:Sep E L w):
  Calls P xO #[Sv s,Iv g,Iv t] w (cY E (.bool (mP l g t)) (eo s l::L.eraseIdx q)):=by
 apply XQ;unfold C6 qN;refine Al.i (h.fr q M) (λp S h1=>use (PR h1) ?_);rintro _ w2 ⟨m,n,o,rfl,h2⟩;refine⟨_,rfl,?_⟩;have F:Sep E (cG (((h0 l t g).take 0).all (λx=>decide (0<=x))=true) (bC p [.bool false])::eo s l::ln m n o s t g::L.eraseIdx q) w2:=by
  have G:Sep E (bC o [Iv t]::bC m [Sv s]::bC n [Iv g]::bC p [.bool false]::eo s l::L.eraseIdx q) w2:=h2.ro 5 [1,2,0,3,4] rfl;have c:=Sep.star.2 ((Sep.star.2 G).swap);exact Sep.cG.2 ⟨rfl,(show Sep E (ln m n o s t g::bC p [.bool false]::eo s l::L.eraseIdx q) w2 from c).ro 3 [1,2,0] rfl⟩
 refine iy.iS (τ:=fF) (ρ:=gL) (cz:=cz) (An:=sE) (yl:=Da) mixed bN bN XS PQ (PT hn O H N)
  (λk=>cG (((h0 l t g).take k).all (λx=>decide (0<=x))=true) (bC p [.bool false])) (λ_=>cG (mP l g t=false) (bC p [.bool false])) ?_ F ?_ ?_
 ·intro Q r L' k x W R u B hx f A j;obtain⟨y,C,rfl⟩:∃y,(h0 l t g)[k]?=some y/\x=Iv y:=by
   rw[eI]at hx;cases hk:(h0 l t g)[k]? with
   |none=>rw[hk]at hx;cases hx
   |some y=>rw[hk]at hx;exact⟨y,rfl,(cU hx).symm⟩
  refine(XR s g t ⟨p,0,none⟩ _ y Q W R).mpr ?_;unfold Mu;refine lf.i f u (λD c=>?_);obtain⟨a,d⟩:=Sep.cG.1 c.swap;refine cX (λJ=>?_) (λK=>?_)
  ·refine St.i d (by show 0<1;decide) (λT e=>?_);refine e2.i e.swap (λz i=>j z ?_);refine Sep.swap (Sep.cG.2 ⟨?_,i.swap⟩);unfold mP;cases I:(h0 l t g).all λx=>decide (0<=x)with
   |false=>rfl
   |true=>
    have:=fS.1 I y (eH C);simp at this;omega
  ·refine e2.i d.swap (λz i=>A z ?_);rw[PU u B]at i;refine Sep.swap (Sep.cG.2 ⟨?_,i.swap⟩);rw[fL C,List.all_append,a];simp;omega
 ·intro b W f;obtain⟨a,c⟩:=Sep.cG.1 f.swap;rw[en,gg]at a;refine St.i c (by show 0<1;decide) (λD d=>?_);have d:Sep E (bC p [.bool true]::c8 b (.deferred (some []))::eo s l::(fe λx:Int=>ln m n o s t x)::L.eraseIdx q) D:=d;have e:=d.swap.putObj (o':=.deferred none);refine⟨d.swap.dk,_,e.cellAt 1 rfl 0,?_,e.ro 4 [2] rfl⟩;unfold mP;rw[a]
 ·intro b k W _ f;obtain⟨hb,c⟩:=Sep.cG.1 f.swap;have e:=c.swap.putObj (o':=.deferred none);refine⟨c.swap.dk,_,e.cellAt 1 rfl 0,?_,e.ro 4 [2] rfl⟩;rw[hb]
def aGS{s e:Sl}{l:bA eA}{t:Int}{q:Nat}(b:L[q]?=some (eo s l))(hn:s.n=l.length)(hb:l.length<1000000)(h:Sep E L w):
  Calls P Jg #[Sv s,Sv e,Iv t] w (cY E (.bool (hZ l&&decide (e.n=l.length)&&decide (0<=t)&&decide (t<l.length))) L):=by
 apply XU;unfold L7 qF;refine use (PO b hn hb h) ?_;rintro _ d ⟨rfl,h1⟩;refine⟨_,rfl,?_⟩;cases hZ l with
 |false=>exact bF rfl ⟨rfl,h1⟩
 |true=>
  refine bT rfl (eX (λhe=>?_) (λc=>?_))
  ·have he:e.n=l.length:=by omega
   refine h4 (λa=>⟨?_,h1⟩) (λa=>⟨?_,h1⟩);·rw[dE he,dE a,hn];rfl
   ·rw[di (show ¬ 0<=t by omega),rL,wi]
  ·rw[di (show ¬ e.n=l.length by omega)];exact⟨rfl,h1⟩
def aJG{s e:Sl}{l:bA eA}{dU:bR}{g t:Int}(hn:s.n=l.length)(he:e.n=dU.length)(hb:l.length<1000000)(h:Sep E (eo s l::bw e 1 (bD dU)::L) w):
  Calls P Cc #[Sv s,Sv e,Iv t,Iv g] w (cY E (.bool (nt l dU t g)) (eo s l::bw e 1 (bD dU)::L)):=by
 apply Xj;unfold C2 qF qN qc qm;refine Al.i h (λp aF h1=>Al.i h1 (λu w2 h2=>Al.i h2 (λf az S=>?_)));have S:Sep E (bC f [.bool false]::bC u [Sv e]::bC p [Sv s]::eo s l::bw e 1 (bD dU)::L) az:=S;refine⟨s,S.cellAt 2 rfl 0,e,S.cellAt 1 rfl 0,use (aGS (q:=3) rfl hn hb S) ?_⟩;rintro _ aG ⟨rfl,J⟩;refine⟨_,rfl,?_⟩;have fin:∀ {ab:bH} {M:cv},Sep E (bC f [.bool false]::M) ab->(∀i,Sep E (bC f [.bool false]::M) i->Value.bool false=.bool (nt l dU t g)/\Sep E (eo s l::bw e 1 (bD dU)::L) i)->
   St ⟨f,0,none⟩ (.bool false) (λi=>∃r:Bool,i.cell? ⟨f,0,none⟩=some (.bool r)/\(λv w'=>v=Value.bool (nt l dU t g)/\Sep E (eo s l::bw e 1 (bD dU)::L) w') (.bool r) i) ab:=by
  intro ab M B hk;exact St.i B (by show 0<1;decide) (λi n=>⟨false,n.cell 0,hk i n⟩)
 have o:∀ {i:bH},(hZ l=false\/dU.length≠l.length\/t<0\/(l.length:Int)<=t\/g<0\/(l.length:Int)<=g\/mP l g t=false)->Sep E (bC f [.bool false]::bC u [Sv e]::bC p [Sv s]::eo s l::bw e 1 (bD dU)::L) i->
   Value.bool false=.bool (nt l dU t g)/\Sep E (eo s l::bw e 1 (bD dU)::L) i:=by
  intro i ax n;unfold nt;rw[bL ax];exact⟨rfl,n.ro 5 [3,4] rfl⟩
 cases hr:(hZ l&&decide (e.n=l.length)&&decide (0<=t)&&decide (t<l.length))with
 |false=>
  refine bT rfl (fin J (λi n=>o ?_ n));by_cases A:hZ l=true
  ·by_cases aj:e.n=l.length
   ·by_cases a3:0<=t
    ·rw[A,dE aj,dE a3]at hr;have:¬ t<l.length:=by simpa using hr
     exact .inr (.inr (.inr (.inl bu)))
    ·exact .inr (.inr (.inl bu))
   ·exact .inr (.inl bu)
  ·exact .inl (by simpa using A)
 |true=>
  simp only[dA,gE]at hr;obtain⟨⟨⟨A,aj⟩,a3⟩,a4⟩:=hr;refine bF rfl (cX (λal=>fin J (λi n=>o (.inr (.inr (.inr (.inr (.inl al))))) n)) (λal=>?_));refine⟨s,J.cellAt 2 rfl 0,hD (λaA=>fin J (λi n=>o (.inr (.inr (.inr (.inr (.inr (.inl bu)))))) n)) (λaC=>?_)⟩;refine⟨s,J.cellAt 2 rfl 0,use (PV (q:=3) rfl hn A bu a3 J) ?_⟩;rintro _ ab ⟨rfl,B⟩;have B:Sep E (eo s l::bC f [.bool false]::bC u [Sv e]::bC p [Sv s]::bw e 1 (bD dU)::L) ab:=B;refine⟨_,rfl,?_⟩;cases V:mP l g t with
  |false=>exact bT rfl (fin (B.ro 5 [1,2,3,0,4] rfl) (λi n=>o (.inr (.inr (.inr (.inr (.inr (.inr V)))))) n))
  |true=>
   refine bF rfl ⟨s,B.cellAt 3 rfl 0,use (PR B) ?_⟩;rintro _ i ⟨K,N,O,rfl,n⟩;refine⟨_,rfl,?_⟩;have Y:nt l dU t g=(h0 l t g).any λx=>decide ((ns l x).use<=dU.getD x.toNat 0):=by
    unfold nt;rw[bJ];rintro(c|c|c|c|c|c|c);·rw[A]at c;cases c
    ·omega
    ·omega
    ·omega
    ·omega
    ·omega
    ·rw[V]at c;cases c
   let ad:Nat->Asn:=λk=>cG (((h0 l t g).take k).any (λx=>decide ((ns l x).use<=dU.getD x.toNat 0))=false) (star (bC f [.bool false]) (star (bC u [Sv e]) (star (bC p [Sv s]) (bw e 1 (bD dU)))));have Z:∀ {k:Nat} {M:cv} {w':bH},Sep E (ad k::M) w'->((h0 l t g).take k).any (λx=>decide ((ns l x).use<=dU.getD x.toNat 0))=false/\Sep E (bC f [.bool false]::bC u [Sv e]::bC p [Sv s]::bw e 1 (bD dU)::M) w':=by
    intro k M w' X;obtain⟨c,X⟩:=Sep.cG.1 X;refine⟨c,?_⟩;have Q:=Sep.star.1 X;have I:=Sep.star.1 Q.swap;have aE:=Sep.star.1 (I.swap);exact(Sep.star.1 ((I.ro 3 [1,2,0] rfl))).ro 4 [2,3,0,1] rfl
   have ai:∀ {k:Nat} {M:cv} {w':bH},((h0 l t g).take k).any (λx=>decide ((ns l x).use<=dU.getD x.toNat 0))=false->Sep E (bC f [.bool false]::bC u [Sv e]::bC p [Sv s]::bw e 1 (bD dU)::M) w'->Sep E (ad k::M) w':=by
    intro k M w' c X;refine Sep.cG.2 ⟨c,?_⟩;have Q:=Sep.star.2 (X.ro 4 [2,3,0,1] rfl);have I:=Sep.star.2 (Q.ro 3 [2,0,1] rfl);exact Sep.star.2 I.swap
   have aw:Sep E (ad 0::eo s l::ln K N O s t g::L) i:=by
    have Q:Sep E (bC O [Iv t]::bC K [Sv s]::bC N [Iv g]::eo s l::bC f [.bool false]::bC u [Sv e]::bC p [Sv s]::bw e 1 (bD dU)::L) i:=n.ro 8 [1,2,0,3,4,5,6,7] rfl;have I:Sep E (ln K N O s t g::eo s l::bC f [.bool false]::bC u [Sv e]::bC p [Sv s]::bw e 1 (bD dU)::L) i:=Sep.star.2 ((Sep.star.2 Q).swap);exact ai (by simp) (I.ro 6 [2,3,4,5,1,0] rfl)
   refine iy.iS (τ:=fF) (ρ:=gL) (cz:=cz) (An:=sD) (yl:=C5) mixed bN bN Xl PQ (PT hn A bu a3)
    ad (λ_=>cG (nt l dU t g=true) (star (bC f [.bool true]) (bw e 1 (bD dU)))) ?_ aw ?_ ?_
   ·intro ag r L' k x W R ah ap hx U ao ae;obtain⟨y,af,rfl⟩:∃y,(h0 l t g)[k]?=some y/\x=Iv y:=by
     rw[eI]at hx;cases hk:(h0 l t g)[k]? with
     |none=>rw[hk]at hx;cases hx
     |some y=>rw[hk]at hx;exact⟨y,rfl,(cU hx).symm⟩
    have aD:0<=y:=by
     have:=fS.1 (show(h0 l t g).all (λx=>decide (0<=x))=true from V) y (eH af);simpa using this
    have ay:y<l.length:=PH A _ _ bu y (eH af);obtain⟨m,rfl⟩:∃m:Nat,y=m:=⟨y.toNat,bu⟩
    obtain⟨z,aq⟩:∃z,l[m]?=some z:=⟨_,dN⟩
    refine(Xk s e t g ⟨p,0,none⟩ ⟨u,0,none⟩ ⟨f,0,none⟩ _ _ _ _ _ _ _ _ (m:Int) ag W R).mpr ?_;unfold LX qD qL qW qc;refine lf.i U ah (λaa T=>Dr.i T (λar C=>?_));obtain⟨G,d⟩:=Z C.swap;have d:Sep E (bC f [.bool false]::bC u [Sv e]::bC p [Sv s]::bw e 1 (bD dU)::c8 ag (.loop {r with state:=.busy})::eo s l::L') ar:=d;refine⟨s,d.cellAt 2 rfl 0,vh 5 d rfl hn rfl aq (λa _ av _=>⟨_,av,e,d.cellAt 1 rfl 0,mu 3 d rfl he bu bu (λaj an=>⟨_,an,?_⟩)⟩)⟩;have F:decide ((ns l (m:Int)).use<=dU.getD ((m:Int)).toNat 0)=decide (z.use<=dU.getD ((m:Int)).toNat 0):=by rw[vf aq]
    refine h4 (λhle=>?_) (λaB=>?_)
    ·refine St.i d (by show 0<1;decide) (λau j=>?_);have j:Sep E (bC f [.bool true]::bC u [Sv e]::bC p [Sv s]::bw e 1 (bD dU)::c8 ag (.loop {r with state:=.busy})::eo s l::L') au:=j;refine e2.i (j.ro 6 [4,0,3,5] rfl) (λH D=>ae H ?_);refine Sep.swap (Sep.cG.2 ⟨?_,?_⟩)
     ·rw[Y];exact tC.2 ⟨(m:Int),eH af,by rw[F];exact dE hle⟩
     ·have am:Sep E (bC f [.bool true]::bw e 1 (bD dU)::c8 ag (.loop {r with state:=.done,pending:=some .ret})::eo s l::L') H:=D.ro 3 [1,2,0] rfl;exact Sep.star.2 am
    ·refine e2.i (d.ro 6 [4,0,1,2,3,5] rfl) (λH D=>ao H ?_);rw[PU ah ap]at D;refine Sep.swap (ai ?_ (D.ro 5 [1,2,3,4,0] rfl));rw[fL af,Gm,G];simp only[List.any_cons,List.any_nil,o6,Gs];rw[F];exact di bu
   ·intro b W U;obtain⟨G,T⟩:=Z U.swap;rw[en,gg]at G;refine St.i T (by show 0<1;decide) (λaa C=>?_);have C:Sep E (bC f [.bool false]::bC u [Sv e]::bC p [Sv s]::bw e 1 (bD dU)::c8 b (.deferred (some []))::eo s l::(fe λx:Int=>ln K N O s t x)::L) aa:=C;have d:Sep E (c8 b (.deferred (some []))::bC f [.bool false]::bC u [Sv e]::bC p [Sv s]::bw e 1 (bD dU)::eo s l::(fe λx:Int=>ln K N O s t x)::L) aa:=C.ro 5 [4,0,1,2,3] rfl;have j:=d.putObj (o':=.deferred none);exact⟨d.dk,_,j.cellAt 1 rfl 0,by rw[Y,G],j.ro 7 [5,4] rfl⟩
   ·intro b k W _ U;obtain⟨ak,T⟩:=Sep.cG.1 U.swap;have C:=Sep.star.1 T;have d:Sep E (c8 b (.deferred (some []))::bC f [.bool true]::bw e 1 (bD dU)::eo s l::(fe λx:Int=>ln K N O s t x)::L) W:=C.ro 3 [2,0,1] rfl;have j:=d.putObj (o':=.deferred none);exact⟨d.dk,_,j.cellAt 1 rfl 0,by rw[ak],j.ro 5 [3,2] rfl⟩
def aJU{a p s:Int}(e:0<=a/\a<2147483648)(hp:0<=p/\p<2147483648)(f:0<s/\s<9223372036854775808)(h:Sep E L w):Calls P Jf #[Iv a,Iv p,Iv s] w (cY E (Iv (a*p/s)) L):=by
 apply XT;unfold L6 zN;obtain⟨x,rfl⟩:∃x:Nat,a=x:=⟨a.toNat,bu⟩
 obtain⟨y,rfl⟩:∃y:Nat,p=y:=⟨p.toNat,bu⟩
 obtain⟨z,rfl⟩:∃z:Nat,s=z:=⟨s.toNat,bu⟩
 rw[ds (n:=x) bu,ds (n:=y) bu,ds (n:=z) bu];have b:x*y<18446744073709551616:=by
  have:x*y<=4294967295*4294967295:=Gr bu bu;omega
 refine use (aIt bu bu w) ?_;rintro _ g ⟨rfl,rfl⟩;refine⟨_,_,rfl,use (PC b bu h) ?_⟩;rintro _ w2 ⟨rfl,h2⟩;refine⟨_,_,rfl,?_,h2⟩;have c:x*y/z<=x*y:=Gk _ _;have d:x*y<=2147483647*2147483647:=Gr bu bu;rw[<- tF,<- Int.natCast_ediv];generalize x*y/z=q at*
 rw[cR bu bu]
def aKq(n:Nat):((List.range (((n:Nat):Int).toNat*1)).map λi=>(([Value.int .i64 0]:bA bE).toArray)[i%([Value.int .i64 0]:bA bE).length]!)=bD (List.replicate n 0):=by
 rw[dz,fM];apply hg;intro i;rw[eI,x5,od];by_cases a:i<n
 ·rw[m9 a,bL a];simp[Nat.mod_one]
 ·rw[g2 (by simpa using a),bJ a];rfl
def s7{n:Nat}(hb:n<1000000)(h:Sep E L w){G:Sl->bg0}(k:∀s a,s.n=n->Sep E (bw s 1 (bD (List.replicate n 0))::L) a->G s a):
  ∃x:Sl,∃a,Sem.run P (Instr.makeSlice mr (Iv ((n:Nat):Int)) (Iv ((n:Nat):Int))) w=.ok (Sv x) a/\G x a:=by
 refine makeSlice.i h (by kernel_rfl:hi P mr=some (8,1,[Iv 0])) bu (g3 _) bu bu (λb a h1=>k _ a (by simp) ?_);rw[aKq]at h1;exact bw.make (spare:=[]) (by simpa using h1) (by simp) (by simp) (ep _)
def kD{s:Sl}{l:bR}{i x:Int}{F:bg0}(h:Sep E (bw s 1 (bD l)::L) w)(hn:s.n=l.length)(d:0<=i)(h1:i<l.length)(k:∀c,Sep E (bw s 1 (bD (l.set i.toNat x))::L) c->F c):cM s.p s.n i 1 λa=>St a (Iv x) F w:=by
 refine bw.el 0 h rfl d bu (λb hb _=>?_);rw[fM];refine bw.st h hb (by simp;omega) (λc h1=>k c ?_);have:bD (l.set i.toNat x)=(bD l).set i.toNat (Iv x):=by simp[bD,hL]
 rw[this];exact h1
def n1:top=1099511627776:=rfl
def aBN{s:Sl}{l:bA eA}{t:Int}(hn:s.n=l.length)(hb:l.length<1000000)(a7:s.n<=s.c)(aw:∀x∈l,x.use<2147483648)(h:Sep E (eo s l::L) w):
  Calls P I3 #[Sv s,Iv t] w (cA λv w'=>∃e:Sl,v=Sv e/\e.n=(mS l t).length/\Sep E (bw e 1 (bD (mS l t))::eo s l::L) w'):=by
 apply Xg;unfold Lz qD qF qL qO qQ qU qW qg qh qi ql zG zH;have ag:(hZ l=false\/t<0\/(l.length:Int)<=t)->∀w',Sep E (eo s l::L) w'->∃e:Sl,Value.slice none 0 0=Sv e/\e.n=(mS l t).length/\Sep E (bw e 1 (bD (mS l t))::eo s l::L) w':=by
  intro Y w' h';have e:mS l t= []:=by unfold mS;rw[bL Y]
  rw[e];exact⟨⟨none,0,0⟩,rfl,rfl,bw.none_ h'⟩
 refine⟨λw'=>hZ l=true/\0<=t/\t<l.length/\Sep E (eo s l::L) w',use (PO (q:=0) rfl hn hb h) ?_,?_⟩
 ·rintro _ br ⟨rfl,h1⟩;refine⟨_,rfl,?_⟩;cases u:hZ l with
  |false=>exact bT rfl (ag (.inl u) _ h1)
  |true=>exact bF rfl (cX (λaD=>ag (.inr (.inl aD)) _ h1) (λaD=>hD (λa9=>ag (.inr (.inr bu)) _ h1) (λa9=>⟨rfl,aD,bu,h1⟩)))
 rintro _ w2 ⟨u,ax,bq,h2⟩;have a8:=aGe u;refine s7 (n:=s.n) bu h2 (λA bs ak aB=>?_);rw[hn]at ak aB;refine⟨⟨bN,bu⟩,?_⟩;have aL:(1:Int).toNat=1:=rfl;rw[aL];let d:Nat->bR:=λk=>(List.range l.length).map λj:Nat=>m5 l k (j:Int);have C:∀k,(d k).length=l.length:=λk=>by simp[d]
 have aW:List.replicate l.length (0:Int)=d 0:=by
  apply hg;intro i;simp only[d,od,eI];by_cases R:i<l.length;·rw[bL R,m9 R];rfl
  ·rw[bJ R,g2 (by simpa using R)];rfl
 have aj:∀k (p:Int),0<=p->p<l.length->(d k).getD p.toNat 0=m5 l k p:=by
  intro k p hp bg;simp only[d,dT,eI];rw[m9 bu];simp only[gh,mH];rw[show((p.toNat:Nat):Int)=p by omega]
 rw[aW]at aB;refine⟨λx w'=>∃k:Nat,x=k/\k+1<=l.length/\Sep E (bw A 1 (bD (d k))::eo s l::L) w',λx _=>(l.length-x).toNat,⟨0,rfl,bu,aB⟩,?_⟩;rintro _ x aG ⟨k,rfl,hk,ad⟩;refine cX (λaf=>?_) (λaT=>?_)
 ·have af:k+1<l.length:=by omega
  obtain⟨y,D⟩:∃y,l[k+1]?=some y:=⟨_,dN⟩
  have aX:(l.drop 1)[k]?=some y:=by rw[pY,rM];exact D
  have I:=oQ u D;have H:0<=y.parent/\y.parent<l.length:=by rcases I.1 with⟨e,_⟩|e<;>omega
  have au:=vg I.2.1 I.2.2;have aS:∀ {F:Addr->Prop},(∀a,aG.cell? (a.add 0)=some (Iv y.parent)->aG.cell? (a.add 1)=some (Iv y.use)->aG.cell? (a.add 2)=some (Iv y.own)->F a)->cM (gj s.p 1 s.c 3) (s.n-1) (k:Int) 3 F:=by
   intro F bb;obtain⟨b,spare,hp,aI,a0,bp,_⟩:=bw.ik (ad.fr 1 rfl) bu;have aZ:gj s.p 1 s.c 3=some ⟨b,3,none⟩:=by unfold gj;rw[cF,hp];rfl
   rw[aZ];have a2:=vh (E:=E) (f:=F) (k:=k+1) 1 ad rfl hn (i:=((k+1:Nat):Int)) rfl D (λa Z aa ab=>bb a Z aa ab);obtain⟨a,aM,hr,hf⟩:=a2;rw[hp]at aM;have:=cU aM;subst this;refine⟨_,rfl,⟨bu,bu⟩,?_⟩;have e:(⟨b,3,none⟩:Addr).add (((k:Nat):Int).toNat*3)=(⟨b,0,none⟩:Addr).add ((((k+1:Nat):Int)).toNat*3):=by
    rw[cj,cj];congr 1;omega
   rw[e];exact hf
  refine aS (λa Z aa ab=>⟨_,Z,_,aa,_,ab,Al.i ad (λp bc am=>ew _ am rfl (λbd Q=>Dr.i Q (λaY B=>?_)))⟩);have B:Sep E (bC p [Iv y.parent,Iv y.use,Iv y.own]::bw A 1 (bD (d k))::eo s l::L) aY:=B;have cell:∀(j:Nat) {w':bH},Sep E (bC p [Iv y.parent,Iv y.use,Iv y.own]::bw A 1 (bD (d k))::eo s l::L) w'->w'.cell? ((⟨p,0,none⟩:Addr).add j)=([Iv y.parent,Iv y.use,Iv y.own]:bA bE)[j]? :=by
   intro j w' aE;rw[cj,aE.cell,fy]
  have al:A.n=(d k).length:=by rw[C,ak]
  refine⟨_,cell 0 B,YZ 1 B rfl al H.1 (by rw[C];exact H.2) (λbn ar=>⟨_,ar 1 B rfl,_,cell 0 B,_,cell 1 B,_,cell 2 B,use (PN B) ?_⟩)⟩;rintro _ be ⟨rfl,X⟩;refine⟨_,rfl,_,ar 1 X rfl,rfl,_,cell 0 X,rfl,?_⟩;rw[aj k y.parent H.1 H.2];have bf:=DT u y.parent k bu;have aN:(k:Int)*top<=64*top:=FL bu bN;rw[cR (by rw[n1]at *;omega) (by rw[n1]at *;omega)];refine kD (X.swap) al H.1 (by rw[C];exact H.2) (λaH r=>?_);have e:(d k).set y.parent.toNat (m5 l k y.parent+y.eV)=d (k+1):=by
   apply hg;intro i;by_cases R:i<l.length
   ·have aA:(d (k+1))[i]?=some (m5 l (k+1) (i:Int)):=by simp only[d,eI,m9 R];rfl
    rw[aA,PK aX];by_cases av:y.parent.toNat=i
    ·subst av;rw[iZ (by rw[C];omega),eJ,show((y.parent.toNat:Nat):Int)=y.parent by omega]
    ·rw[ja av,cF];simp only[d,eI,m9 R];rfl
   ·rw[g2 (by rw[dM,C];omega),g2 (by rw[C];omega)]
  rw[e]at r;exact⟨⟨k+1,de,bu,r.ro 2 [0] rfl⟩,by dsimp only;rw[de];omega⟩
 ·have:k=l.length-1:=by omega
  subst this;have ae:∀p:Int,0<=p->p<l.length->(d (l.length-1)).getD p.toNat 0=sumOf l p:=λp a1 h1=>by rw[aj _ p a1 h1,PL]
  generalize a6:d (l.length-1)=S at ad ae;have aq:S.length=l.length:=by rw[<- a6,C]
  have aC:∀p:Int,0<=sumOf l p/\sumOf l p<=64*top:=by
   intro p;rw[<- PL p];have:=DT u p (l.length-1) bu;have aN:((l.length-1:Nat):Int)*top<=64*top:=FL bu bN;omega
  refine s7 (n:=s.n) bu ad (λo bc ho am=>?_);rw[hn]at ho am;have g:∀k,k<=l.length->(gb l t k).length=k:=λk hk=>DQ hk;refine⟨λx w'=>∃k:Nat,x=k/\k<=l.length/\Sep E (bw o 1 (bD (gb l t k++List.replicate (l.length-k) 0))::bw A 1 (bD S)::eo s l::L) w',λx _=>(l.length-x).toNat,
   ⟨0,rfl,e7 _,am⟩,?_⟩
  rintro _ x bd ⟨k,rfl,hk,Q⟩;refine cX (λaf=>?_) (λaT=>?_)
  ·have af:k<l.length:=by omega
   obtain⟨y,D⟩:∃y,l[k]?=some y:=⟨_,dN⟩
   have I:=oQ u D;have au:=vg I.2.1 I.2.2;have ba:=aw y (eH D);have aV:∀k',k'<=l.length->o.n=(gb l t k'++List.replicate (l.length-k') 0).length:=λk' aU=>by rw[ho,dg,g k' aU,lF];omega
   refine vh 2 Q rfl hn rfl D (λa Z aa ab=>⟨_,Z,_,aa,_,ab,Al.i Q (λp aY B=>ew _ B rfl (λbe X=>?_))⟩);have cell:∀(j:Nat) {w':bH} {M:cv},Sep E (bC p [Iv y.parent,Iv y.use,Iv y.own]::M) w'->w'.cell? ((⟨p,0,none⟩:Addr).add j)=([Iv y.parent,Iv y.use,Iv y.own]:bA bE)[j]? :=by
    intro j w' M aE;rw[cj,aE.cell,fy]
   have zero:mR l t (gb l t k) k y=0->∀ {w':bH},Sep E (bw o 1 (bD (gb l t k++List.replicate (l.length-k) 0))::bw A 1 (bD S)::eo s l::L) w'->
     (∃k':Nat,i64.wrap ((k:Int)+1)=k'/\k'<=l.length/\Sep E (bw o 1 (bD (gb l t k'++List.replicate (l.length-k') 0))::bw A 1 (bD S)::eo s l::L) w')/\(l.length-i64.wrap ((k:Int)+1)).toNat<(l.length-(k:Int)).toNat:=by
    intro aF w' h';refine⟨⟨k+1,de,bu,?_⟩,by rw[de];omega⟩;rw[DR D,aF,dm];have: [(0:Int)]++List.replicate (l.length-(k+1)) 0=List.replicate (l.length-k) 0:=by
     rw[show l.length-k=(l.length-(k+1))+1 by omega,oe];rfl
    rw[this];exact h'
   refine⟨λw'=>(k:Int)≠t/\mP l k t=true/\Sep E (bC p [Iv y.parent,Iv y.use,Iv y.own]::bw o 1 (bD (gb l t k++List.replicate (l.length-k) 0))::bw A 1 (bD S)::eo s l::L) w',
    eX (λe=>zero (by unfold mR;rw[bL (.inl e)]) X.tail) (λW=>use (PV (q:=3) rfl hn u bu ax X) ?_),?_⟩
   ·rintro _ aH ⟨rfl,r⟩;have r:Sep E (eo s l::bC p [Iv y.parent,Iv y.use,Iv y.own]::bw o 1 (bD (gb l t k++List.replicate (l.length-k) 0))::bw A 1 (bD S)::L) aH:=r;refine⟨_,rfl,?_⟩;cases U:mP l (k:Int) t with
    |false=>exact bT rfl (zero (by unfold mR;rw[bL (.inr U)]) (r.ro 4 [2,3,0] rfl))
    |true=>exact bF rfl ⟨W,rfl,r.ro 4 [1,2,3,0] rfl⟩
   ·rintro _ aH ⟨W,U,r⟩;have N:=az8 u ax D U W;refine⟨_,cell 0 r,_,cell 1 r,_,cell 2 r,use (PN r) ?_⟩;rintro _ bi ⟨rfl,aJ⟩;refine⟨_,rfl,kD aJ.swap (aV k bu) bu (by rw[dg,g k bu,lF];omega) (λaz G=>?_)⟩;have aA:(gb l t k++List.replicate (l.length-k) 0).set ((k:Nat):Int).toNat y.eV=gb l t k++y.eV::List.replicate (l.length-(k+1)) 0:=by
     rw[dz,ju _ _ (by rw[g k bu];exact ep _),g k bu,jd,show l.length-k=(l.length-(k+1))+1 by omega,oe,y4]
    rw[aA]at G;have m:(gb l t k++y.eV::List.replicate (l.length-(k+1)) 0).length=l.length:=by rw[dg,g k bu,hI,lF];omega
    have K:o.n=(gb l t k++y.eV::List.replicate (l.length-(k+1)) 0).length:=by rw[m,ho]
    have G:Sep E (bw o 1 (bD (gb l t k++y.eV::List.replicate (l.length-(k+1)) 0))::bC p [Iv y.parent,Iv y.use,Iv y.own]::bw A 1 (bD S)::eo s l::L) az:=G;have O:=G.swap;have bh:=aC y.parent;refine⟨_,cell 0 O,mu 2 O rfl (by rw[ak,aq]) N.1 (by rw[aq];omega) (λa3 aO=>⟨_,aO,?_⟩)⟩;rw[ae y.parent N.1 bu];have ah:(gb l t k++y.eV::List.replicate (l.length-(k+1)) 0).getD y.parent.toNat 0=(gb l t k).getD y.parent.toNat 0:=by
     rw[dT,eN (by rw[g k bu];omega),<- dT]
    have an:0<=(gb l t k).getD y.parent.toNat 0/\(gb l t k).getD y.parent.toNat 0<2147483648:=by
     rw[dT,dL (by rw[g k bu];omega)];have:=DS u k bu y.parent.toNat _ (dL (by rw[g k bu];omega));obtain⟨aI,x,hx,a0⟩:=this;have:=aw x (eH hx);have ay:=oQ u hx;have:=vg ay.2.1 ay.2.2;simp only[mH];exact⟨aI,bu⟩
    have done:∀ {w':bH} (z:Int),mR l t (gb l t k) k y=z->Sep E (bw o 1 (bD (gb l t k++z::List.replicate (l.length-(k+1)) 0))::bC p [Iv y.parent,Iv y.use,Iv y.own]::bw A 1 (bD S)::eo s l::L) w'->
      (∃k':Nat,i64.wrap ((k:Int)+1)=k'/\k'<=l.length/\Sep E (bw o 1 (bD (gb l t k'++List.replicate (l.length-k') 0))::bw A 1 (bD S)::eo s l::L) w')/\(l.length-i64.wrap ((k:Int)+1)).toNat<(l.length-(k:Int)).toNat:=by
     intro w' z aF h';refine⟨⟨k+1,de,bu,?_⟩,by rw[de];omega⟩;rw[DR D,aF,dm];exact h'.ro 4 [0,2,3] rfl
    have V:mR l t (gb l t k) k y=if y.parent≠t/\(gb l t k).getD y.parent.toNat 0<sumOf l y.parent then y.eV*(gb l t k).getD y.parent.toNat 0/sumOf l y.parent else y.eV:=by
     unfold mR;rw[bJ (by rintro(c|c);exact W c;rw[U]at c;cases c)]
    refine⟨λq w'=>q=decide (y.parent≠t/\(gb l t k).getD y.parent.toNat 0<sumOf l y.parent)/\w'=az,⟨_,cell 0 O,iz (λai=>⟨_,cell 0 O,mu 1 O rfl K N.1 (by rw[m];omega) (λa4 aP=>⟨_,aP,?_,rfl⟩)⟩) (λai=>⟨?_,rfl⟩)⟩,?_⟩
    ·rw[ah];by_cases J:(gb l t k).getD y.parent.toNat 0<sumOf l y.parent;·rw[dE J,dE ⟨ai,J⟩]
     ·rw[di J,di (λc=>J c.2)]
    ·rw[di (λc=>c.1 ai)]
    ·rintro _ q bj ⟨rfl,rfl⟩;by_cases Y:y.parent≠t/\(gb l t k).getD y.parent.toNat 0<sumOf l y.parent
     ·rw[dE Y];rw[bL Y]at V;refine bT rfl (Dr.i G (λbk T=>mu 0 T rfl K bu (by rw[m];omega) (λa5 aQ=>⟨_,aQ,_,cell 0 T.swap,mu 0 T rfl K N.1 (by rw[m];omega) (λbo aR=>⟨_,aR,?_⟩)⟩)));have ao:(gb l t k++y.eV::List.replicate (l.length-(k+1)) 0).getD ((k:Nat):Int).toNat 0=y.eV:=by
       rw[dz,dT,fR (by rw[g k bu];exact ep _),g k bu,jd];rfl
      rw[ao,ah];refine use (aJU ⟨au.1,bu⟩ an ⟨bu,by rw[n1]at *;omega⟩ T) ?_;rintro _ bl ⟨rfl,aK⟩;refine⟨_,rfl,kD aK K bu (by rw[m];omega) (λbm ap=>done _ V ?_)⟩;rw[dz,ju _ _ (by rw[g k bu];exact ep _),g k bu,jd,y4]at ap;exact ap
     ·rw[di Y];rw[bJ Y]at V;exact bF rfl (done _ V G)
  ·have:k=l.length:=by omega
   subst this;rw[jd,F0,hs]at Q;have e:gb l t l.length=mS l t:=by
    unfold gb mS;rw[gg,bJ];rintro(c|c|c);·rw[u]at c;cases c
    ·omega
    ·omega
   rw[e]at Q;exact⟨o,rfl,by rw[<- e,g _ (ep _),ho],Q.ro 3 [0,2] rfl⟩
end Go.Mp
namespace Go.Mp
open Go Go.Vc Go.Sp Go.Stab
section
variable{E:Env}{L:cv}{w:bH}{s:Sl}{l:bR}
def eY.use{Q:cP}{g:bE}{args:cb bE}{w:bH}{R R':Ending->bg0}(h:eY Q g args w R)(k:∀e w',R e w'->R' e w'):eY Q g args w R':=by
 obtain⟨f,ca,h1,h2,a⟩:=h;exact⟨f,ca,h1,h2,a.mono k⟩
def gY{F:Int->Prop}{i x:Int}(k:Nat)(h:Sep E (bw s 1 (bD l)::L) w)(hn:s.n=l.length)(d:i=k)(hx:l[k]?=some x)(f:F x):cM s.p s.n i 1 λa=>∃v:Int,w.cell? a=some (Iv v)/\F v:=by
 have c:=(c4.1 hx).1;refine mu 0 h rfl hn bu bu (λa b=>⟨_,b,?_⟩);have e:i.toNat=k:=by omega
 rw[e,List.getD,hx];exact f
def kE{f:bg0}{i x:Int}(k:Nat)(h:Sep E (bw s 1 (bD l)::L) w)(hn:s.n=l.length)(d:i=k)(hk:k<l.length)(g:∀c,Sep E (bw s 1 (bD (l.set k x))::L) c->f c):
  cM s.p s.n i 1 λa=>St a (Iv x) f w:=by
 refine bw.el 0 h rfl bu bu (λb hb _=>?_);have e:i.toNat*1=k:=by omega
 rw[e];refine bw.st h hb (by simpa using hk) (λc h1=>g c ?_);have:bD (l.set k x)=(bD l).set k (Iv x):=by simp[bD,hL]
 rw[this];exact h1
def gA(E:Env)(L:cv)(s:Sl)(cmp:bE)(lt:Int->Int->Bool)(n:Nat):Prop:=
 ∀(l:bR) (x y:Int) (w:bH),l.length=n->Sep E (bw s 1 (bD l)::L) w->eY P cmp #[Iv x,Iv y] w λe w'=>∃r:Int,e=.returned (Iv r)/\decide (r<0)=lt x y/\Sep E (bw s 1 (bD l)::L) w'
variable{cmp:bE}{lt:Int->Int->Bool}{n:Nat}
def gA.i(a:gA E L s cmp lt n)(hl:l.length=n)(h:Sep E (bw s 1 (bD l)::L) w){x y:Int}{A B:bg0}(b:lt x y=true->∀w',Sep E (bw s 1 (bD l)::L) w'->A w')(c:lt x y=false->∀w',Sep E (bw s 1 (bD l)::L) w'->B w'):
  eY P cmp #[Iv x,Iv y] w λe w'=>∃r:Int,e=.returned (Iv r)/\bif decide (r<0)then A w' else B w':=by
 refine eY.use (a l x y w hl h) ?_;rintro e w' ⟨r,rfl,hr,h'⟩;refine⟨r,rfl,?_⟩;rw[hr];cases hb:lt x y with
 |true=>exact b hb w' h'
 |false=>exact c hb w' h'
def gA.j(a:gA E L s cmp lt n)(hl:l.length=n)(h:Sep E (bw s 1 (bD l)::L) w){x y:Int}{A B:bg0}(b:lt x y=true->∀w',Sep E (bw s 1 (bD l)::L) w'->A w')(c:lt x y=false->∀w',Sep E (bw s 1 (bD l)::L) w'->B w'):
  eY P cmp #[Iv x,Iv y] w λe w'=>∃r:Int,e=.returned (Iv r)/\bif(!(decide (r<0)))then B w' else A w':=by
 refine eY.use (a l x y w hl h) ?_;rintro e w' ⟨r,rfl,hr,h'⟩;refine⟨r,rfl,?_⟩;rw[hr];cases hb:lt x y with
 |true=>exact b hb w' h'
 |false=>exact c hb w' h'
structure lo(R b:Int->Int->Prop)(lt:Int->Int->Bool):Prop where
 ord:Ord R
 ne:∀x y,b x y->x≠y
 ask:∀x y,b x y->(lt y x=true↔R y x)
variable{R b:Int->Int->Prop}
def lo.no(K:lo R b lt){x y:Int}(hb:b x y)(h:lt y x=false):R x y:=
 K.ord.not (nc (K.ne x y hb)) (λhr=>by rw[(K.ask x y hb).2 hr]at h;cases h)
def half{i j:Int}(h1:0<=i+j:=by omega)(h2:i+j<=4611686018427387904:=by omega):i64.wrap ((u64.wrap (i64.wrap (i+j))).fdiv (2^(min (1:Int).toNat 64)))=(i+j)/2:=by
 have a:i64.wrap (i+j)=i+j:=cR bu bu;have b:u64.wrap (i+j)=i+j:=by
  unfold IntKind.wrap;simp only[IntKind.signed,IntKind.bits,wi];rw[bJ (by simp)];omega
 have c:(i+j).fdiv (2^(min (1:Int).toNat 64))=(i+j)/2:=by
  show(i+j).fdiv 2=_;rw[Ta _ bN]
 rw[a,b,c,cR bu bu]
def lp{A B:bR}{k:Nat}:(A++B)[A.length+k]?=B[k]? :=by
 rw[fR bu];congr 1;omega
def kF{A P B:bR}{i k:Nat}{x:Int}(a:i<=P.length)(hk:k<=P.length):(A++ins P i x++B)[A.length+k]?=if k<i then P[k]? else if k=i then some x else P[k-1]? :=by
 have:=mT P i x;rw[dm,lp,eN bu,r2 P i x a]
def vi{A M B:bR}(K:lo R b lt)(V:M.Pairwise b)(hn:s.n=(A++M++B).length)(H:(A++M++B).length<4611686018427387904)(J:gA E L s cmp lt (A++M++B).length)(h:Sep E (bw s 1 (bD (A++M++B))::L) w){a e:Int}(W:a=A.length)(he:e=A.length+M.length):
  Calls P CO #[Sv s,Iv a,Iv e,cmp] w (cA λv w'=>v=.tuple #[]/\∃G,G.Perm M/\G.Pairwise R/\Sep E (bw s 1 (bD (A++G++B))::L) w'):=by
 subst W he;have hlen:(A++M++B).length=A.length+M.length+B.length:=by simp;omega
 apply YC;unfold MN qD qO qW qg;rw[hlen]at hn H J;refine⟨λi w=>∃(k:Nat) (S:bR),i=A.length+k/\1<=k/\(k<=M.length\/M= [])/\S.Perm (M.take k)/\S.Pairwise R/\Sep E (bw s 1 (bD (A++S++(M.drop k++B)))::L) w,λi _=>(A.length+M.length-i).toNat,?_,?_⟩
 ·rw[cR bu bu];refine⟨1,M.take 1,bu,ep _,?_,.refl _,?_,?_⟩
  ·cases M with
   |nil=>exact .inr rfl
   |cons x M=>left;simp
  ·cases M with
   |nil=>simp
   |cons x M=>simp
  ·have:A++M.take 1++(M.drop 1++B)=A++M++B:=by
    rw[<- dm,dm A,fK]
   rw[this];exact h
 rintro _ i ag ⟨k,S,rfl,ab,d,p,z,h1⟩;refine cX (λad=>?_) (λZ=>⟨rfl,S,?_,z,?_⟩)
 ·have D:k<M.length:=by omega
  have q:S.length=k:=by rw[p.length_eq];simp;omega
  have hx:M[k]?=some M[k]:=dL D;generalize Q:M[k]=x at hx;have t:M.drop k=x::M.drop (k+1):=by rw[<- Q];exact lD D
  have C:∀y∈S,b y x:=by
   intro y f;obtain⟨j,X,N⟩:=r3 (p.mem_iff.1 f);exact pk V N hx X
  refine⟨λj w=>∃m:Nat,j=A.length+m/\m<=k/\(k<=m\/∃y,S[m]?=some y/\R x y)/\Sep E (bw s 1 (bD (A++ins S m x++(M.drop (k+1)++B)))::L) w,λj _=>(j-A.length).toNat,?_,?_⟩
  ·refine⟨k,rfl,ep _,.inl (ep _),?_⟩;have e:A++ins S k x++(M.drop (k+1)++B)=A++S++(M.drop k++B):=by
    rw[<- q,wP,q,t];simp
   rw[e];exact h1
  rintro _ j w2 ⟨m,rfl,af,O,h2⟩;have g:(A++ins S m x++(M.drop (k+1)++B)).length=A.length+M.length+B.length:=by
   have:=mT S m x;simp only[dg,this,nO];omega
  have out:∀ {r:bH},(m=0\/∃y,S[m-1]?=some y/\R y x)->Sep E (bw s 1 (bD (A++ins S m x++(M.drop (k+1)++B)))::L) r->
    ((∃(k':Nat) (S:bR),(i64.wrap (A.length+k+1))=A.length+k'/\1<=k'/\(k'<=M.length\/M= [])/\S.Perm (M.take k')/\S.Pairwise R/\Sep E (bw s 1 (bD (A++S++(M.drop k'++B)))::L) r)/\
     (A.length+M.length-i64.wrap (A.length+k+1)).toNat<(A.length+M.length-(A.length+k:Int)).toNat):=by
   intro r u l;rw[cR bu bu];refine⟨⟨k+1,ins S m x,bu,bu,.inl bu,?_,?_,l⟩,bu⟩
   ·refine(r1 S m x).trans ?_;rw[mF,hx];exact(List.Perm.cons x p).trans (lZ (l₁:=[x]))
   ·exact r4 K.ord z u (by rw[q];exact O)
  refine⟨λw=>∃c y,m=c+1/\S[c]?=some y/\R x y/\Sep E (bw s 1 (bD (A++ins S m x++(M.drop (k+1)++B)))::L) w,?_,?_⟩
  ·refine Dr.i h2 (λr l=>gn (λaa=>?_) (λhle=>?_))
   ·obtain⟨c,rfl⟩:∃c,m=c+1:=⟨m-1,bu⟩
    have f:S[c]?=some (S[c]'bu):=dN;generalize S[c]'(bu)=y at f;have F:y∈S:=eH f;rw[cR bu bu];refine gY (A.length+(c+1)) l (by rw[hn,g]) bu (by rw[kF bu bu,cF,bL rfl]) ?_;refine gY (A.length+c) l (by rw[hn,g]) bu (by rw[kF bu bu,eJ];exact f) ?_;refine J.i g l (λY T o=>⟨c,y,rfl,f,(K.ask y x (C y F)).1 Y,o⟩) (λhf T o=>out (.inr ⟨y,f,K.no (C y F) hf⟩) o)
   ·exact out (.inl bu) l
  ·rintro _ r ⟨c,y,rfl,f,hr,l⟩;have ae:c<S.length:=(c4.1 f).1;refine Dr.i l (λT o=>?_);rw[cR (n:=A.length+((c+1:Nat):Int)-1) bu bu];refine gY (A.length+c) o (by rw[hn,g]) bu (by rw[kF bu bu,eJ];exact f) ?_;refine gY (A.length+(c+1)) o (by rw[hn,g]) bu (by rw[kF bu bu,cF,bL rfl]) ?_;refine kE (A.length+(c+1)) o (by rw[hn,g]) bu bu (λah U=>?_);refine kE (A.length+c) U (by rw[dM,hn,g]) bu (by rw[dM];omega) (λai I=>?_);rw[<- tH,wQ f]at I;exact⟨⟨c,bu,bu,.inr ⟨y,f,hr⟩,I⟩,by dsimp only;omega⟩
 ·rcases d with d|d
  ·have:k=M.length:=by omega
   rw[this,gg]at p;exact p
  ·subst d;simpa using p
 ·have:M.drop k= []:=by
   rcases d with d|d;·exact kW bu
   ·subst d;simp
  rw[this,l3]at h1;exact h1
def rm{A U M V B:bR}(f:U.length=V.length)(hn:s.n=(A++U++M++V++B).length)(o:(A++U++M++V++B).length<4611686018427387904)(h:Sep E (bw s 1 (bD (A++U++M++V++B))::L) w){a e n':Int}(m:a=A.length)(he:e=A.length+U.length+M.length)(g:n'=U.length):
  Calls P xU #[Sv s,Iv a,Iv e,Iv n',cmp] w (cY E (.tuple #[]) (bw s 1 (bD (A++V++M++U++B))::L)):=by
 subst m he g;have hlen:(A++U++M++V++B).length=A.length+U.length+M.length+V.length+B.length:=by simp only[dg]
 apply YM;unfold MX qD qO qW;refine⟨λi w=>∃(k:Nat) (l':bR),i=k/\k<=U.length/\nv (A++U++M++V++B) l' A.length (A.length+U.length+M.length) k/\Sep E (bw s 1 (bD l')::L) w,λi _=>(U.length-i).toNat,⟨0,_,rfl,e7 _,nv.zero _ _ _,h⟩,?_⟩;rintro _ i r ⟨k,l',rfl,hk,c,h1⟩;have b:l'.length=s.n:=by rw[c.1,hn]
 refine cX (λq=>Dr.i h1 (λw2 h2=>?_)) (λp=>⟨rfl,?_⟩)
 ·rw[cR (n:=(A.length:Int)+U.length+M.length+k) bu bu,cR (n:=(A.length:Int)+k) bu bu,cR (n:=(k:Int)+1) bu bu];have hx:l'[A.length+U.length+M.length+k]?=some (l'[A.length+U.length+M.length+k]'bu):=dN;have d:l'[A.length+k]?=some (l'[A.length+k]'bu):=dN;generalize l'[A.length+U.length+M.length+k]'(bu)=x at hx;generalize l'[A.length+k]'(bu)=y at d;refine gY _ h2 b.symm bu hx (gY _ h2 b.symm bu d ?_);refine kE (A.length+k) h2 b.symm bu bu (λt j=>kE (A.length+U.length+M.length+k) j (by rw[dM];exact b.symm) bu (by rw[dM];omega) (λu l=>?_));exact⟨⟨k+1,_,bu,bu,c.step (n:=U.length) bu bu hx d,l⟩,by dsimp only;omega⟩
 ·have:k=U.length:=by omega
  subst this;rw[c.eq f]at h1;exact h1
def DU{A X Y B:bR}(p:1<=X.length)(q:1<=Y.length)(hn:s.n=(A++X++Y++B).length)(t:(A++X++Y++B).length<4611686018427387904)(h:Sep E (bw s 1 (bD (A++X++Y++B))::L) w){a m e:Int}(r:a=A.length)(hm:m=A.length+X.length)(he:e=A.length+X.length+Y.length):
  Calls P JH #[Sv s,Iv a,Iv m,Iv e,cmp] w (cY E (.tuple #[]) (bw s 1 (bD (A++Y++X++B))::L)):=by
 subst r hm he;have hlen:(A++X++Y++B).length=A.length+X.length+Y.length+B.length:=by simp only[dg]
 apply YJ;unfold MU qE qI;rw[cR (n:=(A.length:Int)+X.length-A.length) bu bu,cR (n:=(A.length:Int)+X.length+Y.length-(A.length+X.length)) bu bu];refine⟨λi j w=>∃A' c b d:bR,i=c.length/\j=b.length/\1<=c.length/\1<=b.length/\A'.length+c.length=A.length+X.length/\A'++b++c++d=A++Y++X++B/\Sep E (bw s 1 (bD (A'++c++b++d))::L) w,
  λi j _=>(i+j).toNat,⟨A,X,Y,B,bu,bu,p,q,rfl,rfl,h⟩,?_⟩
 rintro _ i j G ⟨A',c,b,d,rfl,rfl,u,x,C,f,h1⟩;have z:A'.length+b.length+c.length+d.length=A.length+X.length+Y.length+B.length:=by
  have:=eK List.length f;simp only[dg]at this;omega
 have D:s.n=A'.length+b.length+c.length+d.length:=by omega
 rw[cR (n:=(A.length:Int)+X.length-c.length) bu bu];refine iz (λF=>gn (λy=>?_) (λhle=>?_)) (λheq=>?_)
 ·
  have l:A'++c++b++d=A'++c.take b.length++c.drop b.length++b++d:=by rw[dm A' (c.take _),fK]
  have g:(c.take b.length).length=b.length:=by simp;omega
  have k:(c.drop b.length).length=c.length-b.length:=by simp
  rw[l]at h1;refine use (rm (cmp:=cmp) g (by simp only[dg,g,k];omega) (by simp only[dg,g,k];omega) h1 bu bu bu) ?_;rintro _ w2 ⟨rfl,h2⟩;rw[cR bu bu];refine⟨rfl,⟨A'++b,c.drop b.length,c.take b.length,d,bu,bu,bu,bu,by simp only[dg];omega,?_,h2⟩,by dsimp only;omega⟩;rw[<- f,dm (A'++b),fK]
 ·have l:A'++c++b++d=A'++c++b.take (b.length-c.length)++b.drop (b.length-c.length)++d:=by rw[dm (A'++c) (b.take _),fK]
  have g:(b.take (b.length-c.length)).length=b.length-c.length:=by simp
  have k:(b.drop (b.length-c.length)).length=c.length:=by simp;omega
  rw[l]at h1;rw[cR (n:=(A.length:Int)+X.length+b.length) bu bu,cR (n:=(A.length:Int)+X.length+b.length-c.length) bu bu];refine use (rm (cmp:=cmp) k.symm (by simp only[dg,g,k];omega) (by simp only[dg,g,k];omega) h1 bu bu bu) ?_;rintro _ w2 ⟨rfl,h2⟩;rw[cR bu bu];refine⟨rfl,⟨A',b.drop (b.length-c.length),b.take (b.length-c.length),c++d,bu,bu,bu,bu,bu,?_,?_⟩,by dsimp only;omega⟩;·rw[<- f,dm A' (b.take _),fK];simp
  ·have:A'++b.drop (b.length-c.length)++b.take (b.length-c.length)++c++d=A'++b.drop (b.length-c.length)++b.take (b.length-c.length)++(c++d):=by simp
   rw[<- this];exact h2
 ·have o:c.length=b.length:=by omega
  have l:A'++c++b++d=A'++c++[]++b++d:=by simp
  rw[l]at h1;refine use (rm (cmp:=cmp) o (by simp only[dg,p0];omega) (by simp only[dg,p0];omega) h1 bu (by simp only[p0];omega) bu) ?_;rintro _ w2 ⟨rfl,h2⟩;refine⟨rfl,rfl,?_⟩;rw[<- f];have:A'++b++[]++c++d=A'++b++c++d:=by simp
  rw[this]at h2;exact h2
end
end Go.Mp
namespace Go.Mp.Sh
open Go Go.Vc Go.Sp Go.Stab Go.Mp
structure cS where
 at_:Int
 low:Int
def cS.vs(x:cS):bA bE:=[Iv x.at_,.int .u64 x.low]
def cS.kR(x:cS):x.vs.length=2:=rfl
section
variable{E:Env}{L:cv}{w:bH}{s:Sl}{l:bA cS}
def gY{F:Int->Int->Prop}{i:Int}{x:cS}(k:Nat)(h:Sep E (bw s 2 (bP cS.vs l)::L) w)(hn:s.n=l.length)(d:i=k)(hx:l[k]?=some x)(f:F x.at_ x.low):cM s.p s.n i 2 λa=>∃v:Int,w.cell? (a.add 0)=some (Iv v)/\∃u:Int,w.cell? (a.add 1)=some (.int .u64 u)/\F v u:=
 lR cS.kR 0 h rfl hn d hx (λb _ c=>⟨_,by rw[cj];exact c 0 _ rfl,_,by rw[cj];exact c 1 _ rfl,f⟩)
def kE{f:bg0}{i:Int}{x:cS}(k:Nat)(h:Sep E (bw s 2 (bP cS.vs l)::L) w)(hn:s.n=l.length)(d:i=k)(hk:k<l.length)(g:∀c,Sep E (bw s 2 (bP cS.vs (l.set k x))::L) c->f c):
  cM s.p s.n i 2 λa=>kM [Iv x.at_,.int .u64 x.low] a f w:=by
 refine bw.el 0 h rfl bu bu (λb hb _=>?_);have e:i.toNat=k:=by omega
 rw[e];have hle:(k+1)*2<=l.length*2:=kY _ hk;refine bw.rQ h hb (by show 0<2;decide) (by rw[nY cS.kR];simp;omega) (λc h1=>g c ?_);have:=YX cS.kR (l:=l) (i:=k) (j:=0) (a:=l[k]) (a':=x) (xs:=[Iv x.at_,.int .u64 x.low]) (dL hk) (by show 0+2<=2;decide) rfl;rw[k1]at this;rw[this]at h1;exact h1
def gA(E:Env)(L:cv)(s:Sl)(cmp:bE)(lt:cS->cS->Bool)(n:Nat):Prop:=
 ∀(l:bA cS) (x y:cS) (w:bH),l.length=n->Sep E (bw s 2 (bP cS.vs l)::L) w->eY P cmp #[.agg #[Iv x.at_,.int .u64 x.low],.agg #[Iv y.at_,.int .u64 y.low]] w λe w'=>∃r:Int,e=.returned (Iv r)/\decide (r<0)=lt x y/\Sep E (bw s 2 (bP cS.vs l)::L) w'
variable{cmp:bE}{lt:cS->cS->Bool}{n:Nat}
def gA.i(a:gA E L s cmp lt n)(hl:l.length=n)(h:Sep E (bw s 2 (bP cS.vs l)::L) w){x y:cS}{A B:bg0}(b:lt x y=true->∀w',Sep E (bw s 2 (bP cS.vs l)::L) w'->A w')(c:lt x y=false->∀w',Sep E (bw s 2 (bP cS.vs l)::L) w'->B w'):
  eY P cmp #[.agg #[Iv x.at_,.int .u64 x.low],.agg #[Iv y.at_,.int .u64 y.low]] w λe w'=>∃r:Int,e=.returned (Iv r)/\bif decide (r<0)then A w' else B w':=by
 refine eY.use (a l x y w hl h) ?_;rintro e w' ⟨r,rfl,hr,h'⟩;refine⟨r,rfl,?_⟩;rw[hr];cases hb:lt x y with
 |true=>exact b hb w' h'
 |false=>exact c hb w' h'
def gA.j(a:gA E L s cmp lt n)(hl:l.length=n)(h:Sep E (bw s 2 (bP cS.vs l)::L) w){x y:cS}{A B:bg0}(b:lt x y=true->∀w',Sep E (bw s 2 (bP cS.vs l)::L) w'->A w')(c:lt x y=false->∀w',Sep E (bw s 2 (bP cS.vs l)::L) w'->B w'):
  eY P cmp #[.agg #[Iv x.at_,.int .u64 x.low],.agg #[Iv y.at_,.int .u64 y.low]] w λe w'=>∃r:Int,e=.returned (Iv r)/\bif(!(decide (r<0)))then B w' else A w':=by
 refine eY.use (a l x y w hl h) ?_;rintro e w' ⟨r,rfl,hr,h'⟩;refine⟨r,rfl,?_⟩;rw[hr];cases hb:lt x y with
 |true=>exact b hb w' h'
 |false=>exact c hb w' h'
structure lo(R b:cS->cS->Prop)(lt:cS->cS->Bool):Prop where
 ord:Ord R
 ne:∀x y,b x y->x≠y
 ask:∀x y,b x y->(lt y x=true↔R y x)
variable{R b:cS->cS->Prop}
def lo.no(K:lo R b lt){x y:cS}(hb:b x y)(h:lt y x=false):R x y:=
 K.ord.not (nc (K.ne x y hb)) (λhr=>by rw[(K.ask x y hb).2 hr]at h;cases h)
def lp{A B:bA cS}{k:Nat}:(A++B)[A.length+k]?=B[k]? :=by
 rw[fR bu];congr 1;omega
def kF{A P B:bA cS}{i k:Nat}{x:cS}(a:i<=P.length)(hk:k<=P.length):(A++ins P i x++B)[A.length+k]?=if k<i then P[k]? else if k=i then some x else P[k-1]? :=by
 have:=mT P i x;rw[dm,lp,eN bu,r2 P i x a]
def vi{A M B:bA cS}(K:lo R b lt)(V:M.Pairwise b)(hn:s.n=(A++M++B).length)(H:(A++M++B).length<4611686018427387904)(J:gA E L s cmp lt (A++M++B).length)(h:Sep E (bw s 2 (bP cS.vs (A++M++B))::L) w){a e:Int}(W:a=A.length)(he:e=A.length+M.length):
  Calls P CN #[Sv s,Iv a,Iv e,cmp] w (cA λv w'=>v=.tuple #[]/\∃G,G.Perm M/\G.Pairwise R/\Sep E (bw s 2 (bP cS.vs (A++G++B))::L) w'):=by
 subst W he;have hlen:(A++M++B).length=A.length+M.length+B.length:=by simp;omega
 apply YA;unfold ML qO qU qW qg zM;rw[hlen]at hn H J;refine⟨λi w=>∃(k:Nat) (S:bA cS),i=A.length+k/\1<=k/\(k<=M.length\/M= [])/\S.Perm (M.take k)/\S.Pairwise R/\Sep E (bw s 2 (bP cS.vs (A++S++(M.drop k++B)))::L) w,λi _=>(A.length+M.length-i).toNat,?_,?_⟩
 ·rw[cR bu bu];refine⟨1,M.take 1,bu,ep _,?_,.refl _,?_,?_⟩
  ·cases M with
   |nil=>exact .inr rfl
   |cons x M=>left;simp
  ·cases M with
   |nil=>simp
   |cons x M=>simp
  ·have:A++M.take 1++(M.drop 1++B)=A++M++B:=by
    rw[<- dm,dm A,fK]
   rw[this];exact h
 rintro _ i ag ⟨k,S,rfl,ab,d,p,z,h1⟩;refine cX (λad=>?_) (λZ=>⟨rfl,S,?_,z,?_⟩)
 ·have D:k<M.length:=by omega
  have q:S.length=k:=by rw[p.length_eq];simp;omega
  have hx:M[k]?=some M[k]:=dL D;generalize Q:M[k]=x at hx;have t:M.drop k=x::M.drop (k+1):=by rw[<- Q];exact lD D
  have C:∀y∈S,b y x:=by
   intro y f;obtain⟨j,X,N⟩:=r3 (p.mem_iff.1 f);exact pk V N hx X
  refine⟨λj w=>∃m:Nat,j=A.length+m/\m<=k/\(k<=m\/∃y,S[m]?=some y/\R x y)/\Sep E (bw s 2 (bP cS.vs (A++ins S m x++(M.drop (k+1)++B)))::L) w,λj _=>(j-A.length).toNat,?_,?_⟩
  ·refine⟨k,rfl,ep _,.inl (ep _),?_⟩;have e:A++ins S k x++(M.drop (k+1)++B)=A++S++(M.drop k++B):=by
    rw[<- q,wP,q,t];simp
   rw[e];exact h1
  rintro _ j w2 ⟨m,rfl,af,O,h2⟩;have g:(A++ins S m x++(M.drop (k+1)++B)).length=A.length+M.length+B.length:=by
   have:=mT S m x;simp only[dg,this,nO];omega
  have out:∀ {r:bH},(m=0\/∃y,S[m-1]?=some y/\R y x)->Sep E (bw s 2 (bP cS.vs (A++ins S m x++(M.drop (k+1)++B)))::L) r->
    ((∃(k':Nat) (S:bA cS),(i64.wrap (A.length+k+1))=A.length+k'/\1<=k'/\(k'<=M.length\/M= [])/\S.Perm (M.take k')/\S.Pairwise R/\Sep E (bw s 2 (bP cS.vs (A++S++(M.drop k'++B)))::L) r)/\
     (A.length+M.length-i64.wrap (A.length+k+1)).toNat<(A.length+M.length-(A.length+k:Int)).toNat):=by
   intro r u l;rw[cR bu bu];refine⟨⟨k+1,ins S m x,bu,bu,.inl bu,?_,?_,l⟩,bu⟩
   ·refine(r1 S m x).trans ?_;rw[mF,hx];exact(List.Perm.cons x p).trans (lZ (l₁:=[x]))
   ·exact r4 K.ord z u (by rw[q];exact O)
  refine⟨λw=>∃c y,m=c+1/\S[c]?=some y/\R x y/\Sep E (bw s 2 (bP cS.vs (A++ins S m x++(M.drop (k+1)++B)))::L) w,?_,?_⟩
  ·refine Dr.i h2 (λr l=>gn (λaa=>?_) (λhle=>?_))
   ·obtain⟨c,rfl⟩:∃c,m=c+1:=⟨m-1,bu⟩
    have f:S[c]?=some (S[c]'bu):=dN;generalize S[c]'(bu)=y at f;have F:y∈S:=eH f;rw[cR bu bu];refine gY (A.length+(c+1)) l (by rw[hn,g]) bu (by rw[kF bu bu,cF,bL rfl]) ?_;refine gY (A.length+c) l (by rw[hn,g]) bu (by rw[kF bu bu,eJ];exact f) ?_;refine J.i g l (λY T o=>⟨c,y,rfl,f,(K.ask y x (C y F)).1 Y,o⟩) (λhf T o=>out (.inr ⟨y,f,K.no (C y F) hf⟩) o)
   ·exact out (.inl bu) l
  ·rintro _ r ⟨c,y,rfl,f,hr,l⟩;have ae:c<S.length:=(c4.1 f).1;refine Dr.i l (λT o=>?_);rw[cR (n:=A.length+((c+1:Nat):Int)-1) bu bu];refine gY (A.length+c) o (by rw[hn,g]) bu (by rw[kF bu bu,eJ];exact f) ?_;refine gY (A.length+(c+1)) o (by rw[hn,g]) bu (by rw[kF bu bu,cF,bL rfl]) ?_;refine kE (A.length+(c+1)) o (by rw[hn,g]) bu bu (λah U=>?_);refine kE (A.length+c) U (by rw[dM,hn,g]) bu (by rw[dM];omega) (λai I=>?_);rw[<- tH,wQ f]at I;exact⟨⟨c,bu,bu,.inr ⟨y,f,hr⟩,I⟩,by dsimp only;omega⟩
 ·rcases d with d|d
  ·have:k=M.length:=by omega
   rw[this,gg]at p;exact p
  ·subst d;simpa using p
 ·have:M.drop k= []:=by
   rcases d with d|d;·exact kW bu
   ·subst d;simp
  rw[this,l3]at h1;exact h1
def rm{A U M V B:bA cS}(f:U.length=V.length)(hn:s.n=(A++U++M++V++B).length)(o:(A++U++M++V++B).length<4611686018427387904)(h:Sep E (bw s 2 (bP cS.vs (A++U++M++V++B))::L) w){a e n':Int}(m:a=A.length)(he:e=A.length+U.length+M.length)(g:n'=U.length):
  Calls P xT #[Sv s,Iv a,Iv e,Iv n',cmp] w (cY E (.tuple #[]) (bw s 2 (bP cS.vs (A++V++M++U++B))::L)):=by
 subst m he g;have hlen:(A++U++M++V++B).length=A.length+U.length+M.length+V.length+B.length:=by simp only[dg]
 apply YL;unfold MW qO qU qW zM;refine⟨λi w=>∃(k:Nat) (l':bA cS),i=k/\k<=U.length/\nv (A++U++M++V++B) l' A.length (A.length+U.length+M.length) k/\Sep E (bw s 2 (bP cS.vs l')::L) w,λi _=>(U.length-i).toNat,⟨0,_,rfl,e7 _,nv.zero _ _ _,h⟩,?_⟩;rintro _ i r ⟨k,l',rfl,hk,c,h1⟩;have b:l'.length=s.n:=by rw[c.1,hn]
 refine cX (λq=>Dr.i h1 (λw2 h2=>?_)) (λp=>⟨rfl,?_⟩)
 ·rw[cR (n:=(A.length:Int)+U.length+M.length+k) bu bu,cR (n:=(A.length:Int)+k) bu bu,cR (n:=(k:Int)+1) bu bu];have hx:l'[A.length+U.length+M.length+k]?=some (l'[A.length+U.length+M.length+k]'bu):=dN;have d:l'[A.length+k]?=some (l'[A.length+k]'bu):=dN;generalize l'[A.length+U.length+M.length+k]'(bu)=x at hx;generalize l'[A.length+k]'(bu)=y at d;refine gY _ h2 b.symm bu hx (gY _ h2 b.symm bu d ?_);refine kE (A.length+k) h2 b.symm bu bu (λt j=>kE (A.length+U.length+M.length+k) j (by rw[dM];exact b.symm) bu (by rw[dM];omega) (λu l=>?_));exact⟨⟨k+1,_,bu,bu,c.step (n:=U.length) bu bu hx d,l⟩,by dsimp only;omega⟩
 ·have:k=U.length:=by omega
  subst this;rw[c.eq f]at h1;exact h1
def DU{A X Y B:bA cS}(p:1<=X.length)(q:1<=Y.length)(hn:s.n=(A++X++Y++B).length)(t:(A++X++Y++B).length<4611686018427387904)(h:Sep E (bw s 2 (bP cS.vs (A++X++Y++B))::L) w){a m e:Int}(r:a=A.length)(hm:m=A.length+X.length)(he:e=A.length+X.length+Y.length):
  Calls P JG #[Sv s,Iv a,Iv m,Iv e,cmp] w (cY E (.tuple #[]) (bw s 2 (bP cS.vs (A++Y++X++B))::L)):=by
 subst r hm he;have hlen:(A++X++Y++B).length=A.length+X.length+Y.length+B.length:=by simp only[dg]
 apply YI;unfold MT qE qI;rw[cR (n:=(A.length:Int)+X.length-A.length) bu bu,cR (n:=(A.length:Int)+X.length+Y.length-(A.length+X.length)) bu bu];refine⟨λi j w=>∃A' c b d:bA cS,i=c.length/\j=b.length/\1<=c.length/\1<=b.length/\A'.length+c.length=A.length+X.length/\A'++b++c++d=A++Y++X++B/\Sep E (bw s 2 (bP cS.vs (A'++c++b++d))::L) w,
  λi j _=>(i+j).toNat,⟨A,X,Y,B,bu,bu,p,q,rfl,rfl,h⟩,?_⟩
 rintro _ i j G ⟨A',c,b,d,rfl,rfl,u,x,C,f,h1⟩;have z:A'.length+b.length+c.length+d.length=A.length+X.length+Y.length+B.length:=by
  have:=eK List.length f;simp only[dg]at this;omega
 have D:s.n=A'.length+b.length+c.length+d.length:=by omega
 rw[cR (n:=(A.length:Int)+X.length-c.length) bu bu];refine iz (λF=>gn (λy=>?_) (λhle=>?_)) (λheq=>?_)
 ·
  have l:A'++c++b++d=A'++c.take b.length++c.drop b.length++b++d:=by rw[dm A' (c.take _),fK]
  have g:(c.take b.length).length=b.length:=by simp;omega
  have k:(c.drop b.length).length=c.length-b.length:=by simp
  rw[l]at h1;refine use (rm (cmp:=cmp) g (by simp only[dg,g,k];omega) (by simp only[dg,g,k];omega) h1 bu bu bu) ?_;rintro _ w2 ⟨rfl,h2⟩;rw[cR bu bu];refine⟨rfl,⟨A'++b,c.drop b.length,c.take b.length,d,bu,bu,bu,bu,by simp only[dg];omega,?_,h2⟩,by dsimp only;omega⟩;rw[<- f,dm (A'++b),fK]
 ·have l:A'++c++b++d=A'++c++b.take (b.length-c.length)++b.drop (b.length-c.length)++d:=by rw[dm (A'++c) (b.take _),fK]
  have g:(b.take (b.length-c.length)).length=b.length-c.length:=by simp
  have k:(b.drop (b.length-c.length)).length=c.length:=by simp;omega
  rw[l]at h1;rw[cR (n:=(A.length:Int)+X.length+b.length) bu bu,cR (n:=(A.length:Int)+X.length+b.length-c.length) bu bu];refine use (rm (cmp:=cmp) k.symm (by simp only[dg,g,k];omega) (by simp only[dg,g,k];omega) h1 bu bu bu) ?_;rintro _ w2 ⟨rfl,h2⟩;rw[cR bu bu];refine⟨rfl,⟨A',b.drop (b.length-c.length),b.take (b.length-c.length),c++d,bu,bu,bu,bu,bu,?_,?_⟩,by dsimp only;omega⟩;·rw[<- f,dm A' (b.take _),fK];simp
  ·have:A'++b.drop (b.length-c.length)++b.take (b.length-c.length)++c++d=A'++b.drop (b.length-c.length)++b.take (b.length-c.length)++(c++d):=by simp
   rw[<- this];exact h2
 ·have o:c.length=b.length:=by omega
  have l:A'++c++b++d=A'++c++[]++b++d:=by simp
  rw[l]at h1;refine use (rm (cmp:=cmp) o (by simp only[dg,p0];omega) (by simp only[dg,p0];omega) h1 bu (by simp only[p0];omega) bu) ?_;rintro _ w2 ⟨rfl,h2⟩;refine⟨rfl,rfl,?_⟩;rw[<- f];have:A'++b++[]++c++d=A'++b++c++d:=by simp
  rw[this]at h2;exact h2
end
end Go.Mp.Sh
namespace Go.Mp.Sh
open Go Go.Vc Go.Sp Go.Stab Go.Mp
section
variable{E:Env}{L:cv}{w:bH}{s:Sl}{cmp:bE}{lt:cS->cS->Bool}{n:Nat}{R b:cS->cS->Prop}
def lq{A X Y B:bA cS}{k:Nat}(hk:k<X.length):(A++X++Y++B)[A.length+k]?=X[k]? :=by
 rw[dm,dm,lp,eN hk]
def lr{A X Y B:bA cS}{k:Nat}(hk:k<Y.length):(A++X++Y++B)[A.length+X.length+k]?=Y[k]? :=by
 have:A.length+X.length+k=(A++X).length+k:=by simp
 rw[this,dm,lp,eN hk]
def vj(K:lo R b lt)(aX:n<1152921504606846976)(hn:s.n=n)(aD:gA E L s cmp lt n):∀(N:Nat) {A X Y B:bA cS} {w:bH},X.length+Y.length<=N->1<=X.length->1<=Y.length->
  X.Pairwise R->Y.Pairwise R->(∀x∈X,∀y∈Y,b x y)->(A++X++Y++B).length=n->Sep E (bw s 2 (bP cS.vs (A++X++Y++B))::L) w->∀ {a m e:Int},a=A.length->m=A.length+X.length->e=A.length+X.length+Y.length->
  Calls P uT #[Sv s,Iv a,Iv m,Iv e,cmp] w (cA λv w'=>v=.tuple #[]/\∃Z,Z.Perm (X++Y)/\Z.Pairwise R/\Sep E (bw s 2 (bP cS.vs (A++Z++B))::L) w'):=by
 intro N;induction N with
 |zero=>intro A X Y B w h1 h2;omega
 |succ N aP=>
 intro A X Y B w a5 aI aJ ao ap hb aL h a m e aW hm he;subst aW hm he;have hlen:(A++X++Y++B).length=A.length+X.length+Y.length+B.length:=by simp only[dg]
 rw[hlen]at aL;have J:s.n=(A++X++Y++B).length:=by omega
 apply YB;unfold MM qE qI qO qU qW qg qh zM zP;rw[cR (n:=(A.length:Int)+X.length-A.length) bu bu,cR (n:=(A.length:Int)+X.length+Y.length-(A.length+X.length)) bu bu];refine eX (λh1=>?_) (λaY=>eX (λh2=>?_) (λaZ=>?_))
 ·
  obtain⟨x,rfl⟩:∃x,X= [x]:=by
   match X,aI,h1 with
   |[x],_,_=>exact⟨x,rfl⟩
   |_::_::_,_,h=>simp at h;omega
  simp only[l1]at*
  have ay:∀y∈Y,b x y:=λy l=>hb x (by simp) y l;refine⟨λi j w=>∃p q:Nat,i=A.length+1+p/\j=A.length+1+q/\p<=q/\q<=Y.length/\(p=0\/∃y,Y[p-1]?=some y/\R y x)/\(Y.length<=q\/∃y,Y[q]?=some y/\R x y)/\Sep E (bw s 2 (bP cS.vs (A++[x]++Y++B))::L) w,
   λi j _=>(j-i).toNat,⟨0,Y.length,bu,bu,bu,bu,.inl rfl,.inl (ep _),h⟩,?_⟩
  rintro _ i j aS ⟨p,q,rfl,rfl,az,aG,F,G,h1⟩;refine cX (λag=>⟨bN,Dr.i h1 (λw2 h2=>?_)⟩) (λaf=>?_)
  ·have z:((A.length:Int)+1+p+(A.length+1+q))/2=((A.length+1+(p+q)/2:Nat):Int):=by omega
   rw[half,z];have u:(p+q)/2<Y.length:=by omega
   have l:Y[(p+q)/2]?=some (Y[(p+q)/2]'u):=dL u;generalize Y[(p+q)/2]'u=y at l;have aB:y∈Y:=eH l;refine gY (A.length+1+(p+q)/2) h2 J rfl ((lr (A:=A) (X:=[x]) (B:=B) u).trans l) (gY (A.length+0) h2 J bu (by rw[lq (by simp)];rfl) ?_);refine aD.i bu h2 (λO aa f=>?_) (λhf aa f=>?_)
   ·rw[cR bu bu];exact⟨⟨(p+q)/2+1,q,bu,rfl,bu,aG,.inr ⟨y,by simpa using l,(K.ask x y (ay y aB)).1 O⟩,G,f⟩,by dsimp only;omega⟩
   ·exact⟨⟨p,(p+q)/2,rfl,bu,bu,bu,F,.inr ⟨y,l,K.no (ay y aB) hf⟩,f⟩,by dsimp only;omega⟩
  ·have V:p=q:=by omega
   subst V;rw[cR (n:=(A.length:Int)+1+p-1) bu bu];have e0:A++[x]++Y++B=A++ins Y 0 x++B:=by simp[ins]
   rw[e0]at h1;refine⟨λk w=>∃t:Nat,k=A.length+t/\t<=p/\Sep E (bw s 2 (bP cS.vs (A++ins Y t x++B))::L) w,λk _=>(A.length+p-k).toNat,⟨0,bu,bu,h1⟩,?_⟩;rintro _ k w2 ⟨t,rfl,O,h2⟩;have C:s.n=(A++ins Y t x++B).length:=by
    have:=mT Y t x;simp only[dg,this];omega
   refine cX (λag=>Dr.i h2 (λaa f=>?_)) (λaf=>?_)
   ·rw[cR (n:=(A.length:Int)+t+1) bu bu];have l:Y[t]?=some (Y[t]'bu):=dN;generalize Y[t]'(bu)=y at l;refine gY (A.length+(t+1)) f C bu (by rw[kF bu bu,cF,cF];exact l) ?_;refine gY (A.length+t) f C bu (by rw[kF bu bu,cF,bL rfl]) ?_;refine kE (A.length+t) f C bu bu (λah r=>kE (A.length+t+1) r (by rw[dM];exact C) bu (by rw[dM];omega) (λaH I=>?_));rw[Hw l]at I;exact⟨⟨t+1,bu,bu,I⟩,by dsimp only;omega⟩
   ·have:t=p:=by omega
    subst this;exact⟨trivial,ins Y t x,r1 Y t x,r4 K.ord ap F G,h2⟩
 ·
  obtain⟨y,rfl⟩:∃y,Y= [y]:=by
   match Y,aJ,h2 with
   |[y],_,_=>exact⟨y,rfl⟩
   |_::_::_,_,h=>simp at h;omega
  simp only[l1]at*
  have ax:∀x∈X,b x y:=λx hx=>hb x hx y (by simp);refine⟨λi j w=>∃p q:Nat,i=A.length+p/\j=A.length+q/\p<=q/\q<=X.length/\(p=0\/∃x,X[p-1]?=some x/\R x y)/\(X.length<=q\/∃x,X[q]?=some x/\R y x)/\Sep E (bw s 2 (bP cS.vs (A++X++[y]++B))::L) w,
   λi j _=>(j-i).toNat,⟨0,X.length,bu,bu,bu,bu,.inl rfl,.inl (ep _),h⟩,?_⟩
  rintro _ i j aS ⟨p,q,rfl,rfl,az,aG,F,G,h1⟩;refine cX (λag=>⟨bN,Dr.i h1 (λw2 h2=>?_)⟩) (λaf=>?_)
  ·have z:((A.length:Int)+p+(A.length+q))/2=((A.length+(p+q)/2:Nat):Int):=by omega
   rw[half,z];have u:(p+q)/2<X.length:=by omega
   have hx:X[(p+q)/2]?=some (X[(p+q)/2]'u):=dL u;generalize X[(p+q)/2]'u=x at hx;have aA:x∈X:=eH hx;refine gY (A.length+X.length+0) h2 J bu (by rw[lr (by simp)];rfl) (gY (A.length+(p+q)/2) h2 J rfl (by rw[lq u];exact hx) ?_);refine aD.j bu h2 (λO aa f=>?_) (λhf aa f=>?_);·exact⟨⟨p,(p+q)/2,rfl,bu,bu,bu,F,.inr ⟨x,hx,(K.ask x y (ax x aA)).1 O⟩,f⟩,by dsimp only;omega⟩
   ·rw[cR bu bu];exact⟨⟨(p+q)/2+1,q,bu,rfl,bu,aG,.inr ⟨x,by simpa using hx,K.no (ax x aA) hf⟩,G,f⟩,by dsimp only;omega⟩
  ·have V:p=q:=by omega
   subst V;have e0:A++X++[y]++B=A++ins X X.length y++B:=by rw[wP];simp
   rw[e0]at h1;refine⟨λk w=>∃t:Nat,k=A.length+t/\p<=t/\t<=X.length/\Sep E (bw s 2 (bP cS.vs (A++ins X t y++B))::L) w,λk _=>(k-A.length).toNat,⟨X.length,rfl,bu,bu,h1⟩,?_⟩;rintro _ k w2 ⟨t,rfl,O,a1,h2⟩;have C:s.n=(A++ins X t y++B).length:=by
    have:=mT X t y;simp only[dg,this];omega
   refine gn (λag=>Dr.i h2 (λaa f=>?_)) (λaf=>?_)
   ·obtain⟨M,rfl⟩:∃M,t=M+1:=⟨t-1,bu⟩
    rw[cR (n:=(A.length:Int)+((M+1:Nat):Int)-1) bu bu];have hx:X[M]?=some (X[M]'bu):=dN;generalize X[M]'(bu)=x at hx;refine gY (A.length+M) f C bu (by rw[kF bu bu,eJ];exact hx) ?_;refine gY (A.length+(M+1)) f C bu (by rw[kF bu bu,cF,bL rfl]) ?_;refine kE (A.length+M+1) f C bu bu (λah r=>kE (A.length+M) r (by rw[dM];exact C) bu (by rw[dM];omega) (λaH I=>?_));rw[wQ hx]at I;exact⟨⟨M,bu,bu,bu,I⟩,by dsimp only;omega⟩
   ·have:t=p:=by omega
    subst this;exact⟨trivial,ins X t y,(r1 X t y).trans (lZ (l₁:=[y]) (l₂:=X)),r4 K.ord ao F G,h2⟩
 ·
  refine⟨bN,?_⟩;obtain⟨d,a6⟩:∃d,d=(X.length+Y.length)/2:=⟨_,rfl⟩
  have aF:((A.length:Int)+(A.length+X.length+Y.length))/2=((A.length+d:Nat):Int):=by omega
  rw[half,aF];rw[cR (n:=((A.length+d:Nat):Int)+(A.length+X.length)) bu bu];rw[cR (n:=((A.length+d:Nat):Int)+(A.length+X.length)-(A.length+X.length+Y.length)) bu bu];rw[cR (n:=((A.length+d:Nat):Int)+(A.length+X.length)-1) bu bu];obtain⟨W,U⟩:∃W,W=if X.length>d then d-Y.length else 0:=⟨_,rfl⟩
  obtain⟨Q,T⟩:∃Q,Q=if X.length>d then d else X.length:=⟨_,rfl⟩
  have aq:W<=Q/\Q<=d/\Q<=X.length/\d<=W+Y.length:=by
   rw[U,T];split<;>omega
  refine⟨λi j w=>i=A.length+W/\j=A.length+Q/\Sep E (bw s 2 (bP cS.vs (A++X++Y++B))::L) w,?_,?_⟩
  ·refine gn (λa0=>?_) (λhle=>?_)
   ·refine⟨?_,?_,h⟩;·rw[U,eJ];omega
    ·rw[T,eJ];omega
   ·refine⟨?_,?_,h⟩;·rw[U,cF];omega
    ·rw[T,cF]
  rintro _ i0 a7 aS ⟨rfl,rfl,h1⟩;refine⟨λi j w=>∃p q:Nat,i=A.length+p/\j=A.length+q/\W<=p/\p<=q/\q<=Q/\(p=W\/∃x y,X[p-1]?=some x/\Y[d-p]?=some y/\R x y)/\(q=Q\/∃x y,Y[d-q-1]?=some y/\X[q]?=some x/\R y x)/\
    Sep E (bw s 2 (bP cS.vs (A++X++Y++B))::L) w,λi j _=>(j-i).toNat,⟨W,Q,rfl,rfl,ep _,aq.1,ep _,.inl rfl,.inl rfl,h1⟩,?_⟩
  rintro _ i j w2 ⟨p,q,rfl,rfl,aM,az,aN,F,G,h2⟩;refine cX (λag=>⟨bN,Dr.i h2 (λaa f=>?_)⟩) (λaf=>?_)
  ·have z:((A.length:Int)+p+(A.length+q))/2=((A.length+(p+q)/2:Nat):Int):=by omega
   rw[half,z];rw[cR (n:=((A.length+d:Nat):Int)+(A.length+X.length)-1-((A.length+(p+q)/2:Nat):Int)) bu bu];obtain⟨c,aK⟩:∃c,c=(p+q)/2:=⟨_,rfl⟩
   rw[<- aK];have ad:c<X.length:=by omega
   have ae:d-1-c<Y.length:=by omega
   have hx:X[c]?=some (X[c]'ad):=dL ad;have l:Y[d-1-c]?=some (Y[d-1-c]'ae):=dL ae;generalize X[c]'ad=x at hx;generalize Y[d-1-c]'ae=y at l;have al:=hb x (eH hx) y (eH l);refine gY (A.length+X.length+(d-1-c)) f J bu (by rw[lr ae];exact l) (gY (A.length+c) f J bu (by rw[lq ad];exact hx) ?_);refine aD.j bu f (λO ah r=>?_) (λhf ah r=>?_)
   ·refine⟨⟨p,c,rfl,bu,aM,bu,bu,F,.inr ⟨x,y,?_,hx,(K.ask x y al).1 O⟩,r⟩,by dsimp only;omega⟩;rw[show d-c-1=d-1-c by omega];exact l
   ·rw[cR bu bu];refine⟨⟨c+1,q,bu,rfl,bu,bu,aN,.inr ⟨x,y,by simpa using hx,?_,K.no al hf⟩,G,r⟩,by dsimp only;omega⟩;rw[show d-(c+1)=d-1-c by omega];exact l
  ·have V:p=q:=by omega
   subst V;obtain⟨t,O⟩:∃t,t=d-p:=⟨_,rfl⟩
   have am:=wS K.ord (X:=X) (Y:=Y) (i:=p) (j:=t) ao ap (by
    rcases F with e|⟨x,y,H,ab,ai⟩
    ·by_cases an:X.length>d;·rw[bL an]at U;right;left;omega
     ·rw[bJ an]at U;left;omega
    ·exact .inr (.inr ⟨x,y,H,by rw[O];exact ab,ai⟩)) (by
    rcases G with e|⟨x,y,H,ab,ai⟩
    ·by_cases an:X.length>d;·rw[bL an]at T;left;omega
     ·rw[bJ an]at T;right;left;omega
    ·exact .inr (.inr ⟨x,y,by rw[O];exact H,ab,ai⟩))
   have aQ:(X.take p).length=p:=by simp;omega
   have aR:(Y.take t).length=t:=by simp;omega
   have a2:(X.drop p).length=X.length-p:=by simp
   have a3:(Y.drop t).length=Y.length-t:=by simp
   have aE:i64.wrap (((A.length+d:Nat):Int)+(A.length+X.length)-(A.length+p))=((A.length+X.length+t:Nat):Int):=by
    rw[cR bu bu];omega
   rw[aE];refine⟨λw=>Sep E (bw s 2 (bP cS.vs (A++(X.take p++Y.take t)++(X.drop p++Y.drop t)++B))::L) w,?_,?_⟩
   ·refine⟨λc w=>c=decide (p<X.length/\0<t)/\Sep E (bw s 2 (bP cS.vs (A++X++Y++B))::L) w,?_,?_⟩
    ·refine cX (λg=>⟨?_,h2⟩) (λg=>⟨?_,h2⟩)
     ·have:(decide ((A.length:Int)+X.length<((A.length+X.length+t:Nat):Int)))=decide (0<t):=by
       by_cases o:0<t;·rw[dE o,dE bu]
       ·rw[di o,di bu]
      rw[this];by_cases o:0<t;·rw[dE o,dE ⟨bu,o⟩]
      ·rw[di o,di (λz=>o z.2)]
     ·exact(di (λz=>bu)).symm
    rintro _ c aa ⟨rfl,f⟩;refine cw (λg=>?_) (λg=>?_)
    ·have g:=mG g;have H:A++X++Y++B=(A++X.take p)++X.drop p++Y.take t++(Y.drop t++B):=by
      simp only[dm];rw[<- dm (Y.take t),fK,<- dm (X.take p),fK]
     rw[H]at f;refine use (DU (cmp:=cmp) bu bu (by rw[<- H];exact J) (by rw[<- H];omega) f (by simp only[dg];omega) (by simp only[dg];omega) (by simp only[dg];omega)) ?_;rintro _ ah ⟨rfl,r⟩;refine⟨rfl,?_⟩;have ab:(A++X.take p)++Y.take t++X.drop p++(Y.drop t++B)=A++(X.take p++Y.take t)++(X.drop p++Y.drop t)++B:=by simp
     rw[<- ab];exact r
    ·have g:=kb g;have ab:A++(X.take p++Y.take t)++(X.drop p++Y.drop t)++B=A++X++Y++B:=by
      by_cases o:p<X.length
      ·have:t=0:=by omega
       subst this;simp only[wj,hs,rK,dm];rw[<- dm (X.take p),fK]
      ·have ai:X.drop p= []:=kW bu;have aU:X.take p=X:=iq bu;rw[ai,aU,l3];simp only[dm];rw[<- dm (Y.take t),fK]
     rw[ab];exact f
   rintro _ aa f;have au:(X.take p).Pairwise R:=ao.sublist (o3 _ _);have ar:(X.drop p).Pairwise R:=ao.sublist (Gd _ _);have aw:(Y.take t).Pairwise R:=ap.sublist (o3 _ _);have av:(Y.drop t).Pairwise R:=ap.sublist (Gd _ _);refine⟨λw=>∃D,D.Perm (X.take p++Y.take t)/\D.Pairwise R/\Sep E (bw s 2 (bP cS.vs (A++D++(X.drop p++Y.drop t)++B))::L) w,?_,?_⟩
   ·refine⟨λc w=>c=decide (0<p/\0<t)/\Sep E (bw s 2 (bP cS.vs (A++(X.take p++Y.take t)++(X.drop p++Y.drop t)++B))::L) w,?_,?_⟩
    ·refine cX (λg=>⟨?_,f⟩) (λg=>⟨?_,f⟩)
     ·by_cases o:0<t;·rw[dE bu,dE ⟨bu,o⟩]
      ·rw[di bu,di (λz=>o z.2)]
     ·exact(di (λz=>bu)).symm
    rintro _ c ah ⟨rfl,r⟩;refine cw (λg=>?_) (λg=>?_)
    ·have g:=mG g;have H:A++(X.take p++Y.take t)++(X.drop p++Y.drop t)++B=A++X.take p++Y.take t++((X.drop p++Y.drop t)++B):=by simp
     rw[H]at r;refine use (aP bu bu bu au aw (λx hx y l=>hb x (m8 hx) y (m8 l)) (by simp only[dg];omega) r rfl bu bu) ?_;rintro _ aH ⟨rfl,D,S,ak,I⟩;refine⟨rfl,D,S,ak,?_⟩;rw[dm (A++D)];exact I
    ·have g:=kb g;refine⟨_,.refl _,?_,r⟩;by_cases o:0<p
     ·have:t=0:=by omega
      subst this;simpa using au
     ·have:p=0:=by omega
      subst this;simpa using aw
   rintro _ ah ⟨D,S,aj,r⟩;have a4:D.length=d:=by rw[S.length_eq,dg,aQ,aR];omega
   refine⟨λc w=>c=decide (p<X.length/\t<Y.length)/\Sep E (bw s 2 (bP cS.vs (A++D++(X.drop p++Y.drop t)++B))::L) w,?_,?_⟩
   ·refine cX (λg=>⟨?_,r⟩) (λg=>⟨?_,r⟩)
    ·by_cases o:t<Y.length;·rw[dE bu,dE ⟨bu,o⟩]
     ·rw[di bu,di (λz=>o z.2)]
    ·exact(di (λz=>bu)).symm
   rintro _ c aH ⟨rfl,I⟩;refine cw (λg=>?_) (λg=>?_)
   ·have g:=mG g;have H:A++D++(X.drop p++Y.drop t)++B=(A++D)++X.drop p++Y.drop t++B:=by simp
    rw[H]at I;refine use (aP bu bu bu ar av (λx hx y l=>hb x (rH hx) y (rH l)) (by simp only[dg];omega) I (by simp only[dg];omega) (by simp only[dg];omega) (by simp only[dg];omega)) ?_;rintro _ a8 ⟨rfl,aT,ak,aC,aV⟩;have:=jH S ak aj aC am;refine⟨rfl,rfl,D++aT,this.1,this.2,?_⟩;rw[<- dm A];exact aV
   ·have g:=kb g;have aO:(X.drop p++Y.drop t).Pairwise R:=by
     by_cases o:p<X.length
     ·have:Y.drop t= []:=kW bu;rw[this,hs];exact ar
     ·have:X.drop p= []:=kW bu;rw[this,l3];exact av
    have:=jH S (.refl _) aj aO am;refine⟨rfl,D++(X.drop p++Y.drop t),this.1,this.2,?_⟩;rw[<- dm A];exact I
end
end Go.Mp.Sh
namespace Go.Mp.Sh
open Go Go.Vc Go.Sp Go.Stab Go.Mp
section
variable{E:Env}{L:cv}{w:bH}{s:Sl}{cmp:bE}{lt:cS->cS->Bool}{R b:cS->cS->Prop}
def fj(b:cS->cS->Prop)(X Y:bA cS):Prop:=∀x∈X,∀y∈Y,b x y
def fj.merge{Ps Qs:bA (bA cS)}{X Y Z:bA cS}(h:(Ps++X::Y::Qs).Pairwise (fj b))(j:Z.Perm (X++Y)):(Ps++Z::Qs).Pairwise (fj b):=by
 have hm:∀z,z∈Z->z∈X\/z∈Y:=λz a=>gF.1 (j.mem_iff.1 a);rw[jv,g7,g7]at h;rw[jv,g7];obtain⟨h1,⟨h2,g,i⟩,d⟩:=h;refine⟨h1,⟨λQ c z a y f=>?_,i⟩,λP' e Q c=>?_⟩
 ·rcases hm z a with a|a;·exact h2 Q (by simp[c]) z a y f
  ·exact g Q c z a y f
 ·rcases ey.1 c with rfl|c
  ·intro x hx z a;rcases hm z a with a|a;·exact d P' e X (by simp) x hx z a
   ·exact d P' e Y (by simp) x hx z a
  ·exact d P' e Q (by simp[c])
def fj.perm{Ps Qs:bA (bA cS)}{X Z:bA cS}(h:(Ps++X::Qs).Pairwise (fj b))(g:Z.Perm X):(Ps++Z::Qs).Pairwise (fj b):=by
 have hm:∀z,z∈Z->z∈X:=λz c=>g.mem_iff.1 c;rw[jv,g7]at h ⊢;obtain⟨h1,⟨h2,f⟩,d⟩:=h;refine⟨h1,⟨λQ a z c y i=>h2 Q a z (hm z c) y i,f⟩,λP' e Q a=>?_⟩;rcases ey.1 a with rfl|a;·intro x hx z c;exact d P' e X (by simp) x hx z (hm z c)
 ·exact d P' e Q (by simp[a])
def fj.split{Ps:bA (bA cS)}{a M2:bA cS}(h:(Ps++[a++M2]).Pairwise (fj b))(c:(a++M2).Pairwise b):(Ps++[a,M2]).Pairwise (fj b):=by
 rw[jv]at h c ⊢;obtain⟨h1,_,f⟩:=h;refine⟨h1,by simpa[fj]using c.2.2,λP' g Q d x hx y e=>?_⟩;have:=f P' g (a++M2) (by simp) x hx y;simp only[ey,tE,tJ]at d;rcases d with rfl|rfl;·exact this (by simp[e])
 ·exact this (by simp[e])
def fx(R:cS->cS->Prop)(b:Nat)(a:bA (bA cS)):Prop:=∀F∈a,F.length=b/\F.Pairwise R
def fx.length{b:Nat}:∀ {a:bA (bA cS)},fx R b a->a.flatten.length=b*a.length
 |[],_=>by simp
 |F::a,h=>by
  have h1:=(h F (by simp)).1;have h2:a.flatten.length=b*a.length:=fx.length (λG c=>h G (by simp[c]));rw[tz,dg,h1,h2,hI,nb,fM,rM]
def fx.snoc{b:Nat}{c:bA (bA cS)}{F:bA cS}(h:fx R b c)(h1:F.length=b)(h2:F.Pairwise R):fx R b (c++[F]):=by
 intro G a;rcases gF.1 a with a|a;·exact h G a
 ·rw[h8.1 a];exact⟨h1,h2⟩
def DV{l:bA cS}(K:lo R b lt)(ag:l.Pairwise b)(hn:s.n=l.length)(ah:l.length<288230376151711744)(Q:gA E L s cmp lt l.length)(h:Sep E (bw s 2 (bP cS.vs l)::L) w):
  Calls P Ju #[Sv s,Iv (s.n:Nat),cmp] w (cA λv w'=>v=.tuple #[]/\∃l',l'.Perm l/\l'.Pairwise R/\Sep E (bw s 2 (bP cS.vs l')::L) w'):=by
 apply Yl;unfold Mx qE qI qO;rw[hn];refine⟨λa e w=>∃c M,a=(20*c.length:Nat)/\e=(20*c.length+20:Nat)/\fx R 20 c/\M.Pairwise b/\(c++[M]).Pairwise (fj b)/\(c.flatten++M).Perm l/\Sep E (bw s 2 (bP cS.vs (c.flatten++M))::L) w,λa _ _=>(l.length-a).toNat,
  ⟨[],l,rfl,rfl,λF i=>(by cases i),ag,by simp,by simp,by simpa using h⟩,?_⟩
 rintro _ a e ar ⟨c,M,rfl,rfl,i,S,p,j,h1⟩;have hlen:=j.length_eq;have k:=i.length;rw[dg,k]at hlen;refine h4 (λhle=>?_) (λad=>?_)
 ·have m:c.flatten++M=c.flatten++M.take 20++M.drop 20:=by rw[dm,fK]
  have ae:(M.take 20).length=20:=by simp;omega
  have u:=S;rw[<- fK 20 M]at u p;have ab:=fj.split p u;rw[jv]at u;have C:(c.flatten++M.take 20++M.drop 20).length=l.length:=by rw[<- m];exact j.length_eq
  rw[m]at h1;rw[<- hn];refine use (vi K u.1 (by rw[C];exact hn) bu (by rw[C];exact Q) h1 (by rw[k]) (by rw[k,ae];omega)) ?_;rintro _ w2 ⟨rfl,X,G,aa,h2⟩;rw[cR bu bu];have ak:X.length=20:=by rw[G.length_eq,ae]
  refine⟨rfl,⟨c++[X],M.drop 20,by simp;omega,by simp;omega,i.snoc ak aa,u.2.1,?_,?_,?_⟩,by dsimp only;omega⟩
  ·have:=fj.perm (Ps:=c) (Qs:=[M.drop 20]) ab G;simpa using this
  ·refine List.Perm.trans ?_ j;rw[m];simp only[F4,tz,y6,hs];exact(G.append_left _).append_right _
  ·simpa using h2
 ·have m:c.flatten++M=c.flatten++M++[]:=by simp
  rw[m]at h1;rw[<- hn];refine use (vi K S (by rw[<- m,j.length_eq];exact hn) (by rw[<- m,j.length_eq];omega) (by rw[<- m,j.length_eq];exact Q) h1 (by rw[k]) (by rw[k];omega)) ?_;rintro _ w2 ⟨rfl,T,W,q,h2⟩;rw[hs]at h2;have aq:=W.length_eq;refine⟨rfl,λz w=>∃(f:Nat) (c:bA (bA cS)) (T:bA cS),z=f/\20<=f/\fx R f c/\T.length<f/\T.Pairwise R/\(c++[T]).Pairwise (fj b)/\(c.flatten++T).Perm l/\Sep E (bw s 2 (bP cS.vs (c.flatten++T))::L) w,λz _=>(l.length-z).toNat,
   ⟨20,c,T,rfl,ep _,i,bu,q,fj.perm p W,(W.append_left _).trans j,h2⟩,?_⟩
  rintro _ z au ⟨f,c,T,rfl,an,i,I,q,p,j,O⟩;have hlen:=j.length_eq;have k:=i.length;rw[dg,k]at hlen;refine cX (λap=>?_) (λao=>⟨rfl,_,j,?_,O⟩)
  ·have aj:f<l.length:=by omega
   rw[cR (n:=2*(f:Int)) bu bu];refine⟨λa e w=>∃d c T,a=(2*f*d.length:Nat)/\e=(2*f*d.length+2*f:Nat)/\fx R (2*f) d/\fx R f c/\T.length<f/\T.Pairwise R/\(d++(c++[T])).Pairwise (fj b)/\
     (d.flatten++(c.flatten++T)).Perm l/\Sep E (bw s 2 (bP cS.vs (d.flatten++(c.flatten++T)))::L) w,λa _ _=>(l.length-a).toNat,
    ⟨[],c,T,by simp,by simp,λF i=>(by cases i),i,I,q,by simpa using p,by simpa using j,by simpa using O⟩,?_⟩
   rintro _ a e av ⟨d,c,T,rfl,rfl,V,i,I,q,p,j,x⟩;have hlen:=j.length_eq;have t:=V.length;have k:=i.length;rw[dg,dg,k,t]at hlen;have hmul:f*c.length<=l.length:=by omega
   have af:2*f*d.length<=l.length:=by omega
   rw[cR (n:=((2*f*d.length:Nat):Int)+f) bu bu];refine h4 (λhle=>?_) (λad=>?_)
   ·obtain⟨r,o,g,rfl⟩:∃r o g,c=r::o::g:=by
     match c,hlen with
     |[],hl=>simp at hl;omega
     |[F],hl=>simp at hl;omega
     |r::o::g,_=>exact⟨r,o,g,rfl⟩
    have f1:=i r (by simp);have f2:=i o (by simp);have y:=p;rw[jv]at y;have N:fj b r o:=(g7.1 y.2.1).1 o (by simp);have m:d.flatten++((r::o::g).flatten++T)=d.flatten++r++o++(g.flatten++T):=by simp
    have C:(d.flatten++r++o++(g.flatten++T)).length=l.length:=by rw[<- m];exact j.length_eq
    rw[m]at x;rw[<- hn];refine use (vj K bu hn Q _ (ep _) bu bu f1.2 f2.2 N C x (by rw[t]) (by rw[t,f1.1]) (by rw[t,f1.1,f2.1];omega)) ?_;rintro _ am ⟨rfl,Z,A,J,D⟩;have al:Z.length=2*f:=by rw[A.length_eq,dg,f1.1,f2.1];omega
    rw[cR bu bu];refine⟨rfl,⟨d++[Z],g,T,?_,?_,V.snoc al J,λF Y=>i F (by simp[Y]),I,q,?_,?_,?_⟩,?_⟩;·rw[dg,l1,nb,fM]
    ·rw[dg,l1,nb,fM];omega
    ·have:=fj.merge (Ps:=d) (Qs:=g++[T]) (by simpa using p) A;simpa using this
    ·refine List.Perm.trans ?_ j;rw[m];simp only[F4,tz,y6,hs];have:d.flatten++r++o++(g.flatten++T)=d.flatten++(r++o)++(g.flatten++T):=by simp
     rw[this];exact(A.append_left _).append_right _
    ·simpa using D
    ·dsimp only;omega
   ·have fin:∀ {T':bA cS} {w':bH},T'.length<2*f->T'.Pairwise R->T'.Perm (c.flatten++T)->(d++[T']).Pairwise (fj b)->Sep E (bw s 2 (bP cS.vs (d.flatten++T'))::L) w'->
      ((∃(B:Nat) (c:bA (bA cS)) (T:bA cS),i64.wrap ((f:Int)*2)=B/\20<=B/\fx R B c/\T.length<B/\T.Pairwise R/\(c++[T]).Pairwise (fj b)/\(c.flatten++T).Perm l/\Sep E (bw s 2 (bP cS.vs (c.flatten++T))::L) w')/\
       (l.length-i64.wrap ((f:Int)*2)).toNat<(l.length-(f:Int)).toNat):=by
     intro T' w' h1 h2 O x D;rw[cR bu bu];exact⟨⟨2*f,d,T',bu,bu,V,h1,h2,x,(O.append_left _).trans j,D⟩,bu⟩
    rcases c with _|⟨F,_|⟨o,g⟩⟩
    ·refine cX (λU=>?_) (λ_=>?_);·exfalso;simp at hlen;omega
     ·exact fin (T':=T) bu q (by simp) (by simpa using p) (by simpa using x)
    ·have f1:=i F (by simp);simp only[l1,fM]at hlen;refine cX (λU=>?_) (λU=>?_)
     ·have y:=p;rw[jv]at y;have N:fj b F T:=(g7.1 y.2.1).1 T (by simp);have m:d.flatten++([F].flatten++T)=d.flatten++F++T++[]:=by simp
      have C:(d.flatten++F++T++[]).length=l.length:=by rw[<- m];exact j.length_eq
      rw[m]at x;rw[<- hn];refine use (vj K bu hn Q _ (ep _) bu bu f1.2 q N C x (by rw[t]) (by rw[t,f1.1]) (by rw[t,f1.1];omega)) ?_;rintro _ am ⟨rfl,Z,A,J,D⟩;refine⟨rfl,?_⟩;rw[hn];refine fin (T':=Z) (by rw[A.length_eq,dg,f1.1];omega) J (by simpa using A) ?_ (by simpa using D);exact fj.merge (Ps:=d) (Qs:=[]) (by simpa using p) A
     ·have H:T= []:=by
       have:T.length=0:=by omega
       exact yZ.1 this
      subst H;refine fin (T':=F) bu f1.2 (by simp) ?_ (by simpa using x);have:(d++F::[]::[]).Pairwise (fj b):=by simpa using p
      exact fj.merge (Ps:=d) (Qs:=[]) this (by simp)
    ·exfalso;simp only[hI,nb,fM]at hlen;omega
  ·have ai:l.length<=f:=by omega
   match c,i,k,hlen,p with
   |[],_,_,_,_=>simpa using q
   |[F],i,_,hlen,_=>
    have f1:=i F (by simp);have H:T= []:=by
     have:T.length=0:=by simp at hlen;omega
     exact yZ.1 this
    subst H;simpa using f1.2
   |r::o::g,_,_,hlen,_=>
    exfalso;simp only[hI,nb,fM]at hlen;omega
def DW{l:bA cS}(K:lo R b lt)(c:l.Pairwise b)(hn:s.n=l.length)(a:l.length<288230376151711744)(d:gA E L s cmp lt l.length)(h:Sep E (bw s 2 (bP cS.vs l)::L) w):
  Calls P Jh #[Sv s,cmp] w (cA λv w'=>v=.tuple #[]/\∃l',l'.Perm l/\l'.Pairwise R/\Sep E (bw s 2 (bP cS.vs l')::L) w'):=by
 apply XX;unfold Mb qE;refine use (DV K c hn a d h) ?_;rintro _ e ⟨rfl,h1⟩;exact⟨rfl,rfl,h1⟩
end
end Go.Mp.Sh
namespace Go.Proofs
open Go.Shelf
def Tryz.lu:Go.Shelf.Ren:=⟨fun|15=>188|n=>n,fun|22=>22|3=>3|4=>4|n=>n,fun|n=>n⟩
def Tryz.nH:Go.Proofs.Lays2.n15 Tryz.prog Tryz.lu:={
 mixed:=by kernel_rfl
 f15:=func188.trans (eK some cV)
 t3:=Tryz.underlying3
 a3:=Tryz.isAgg3
 z3:=Tryz.sizeOf3
 v3:=Tryz.zeroValue3
 t4:=Tryz.underlying4
 a4:=Tryz.isAgg4
 z4:=Tryz.sizeOf4
 v4:=Tryz.zeroValue4
 t22:=Tryz.underlying22
 a22:=Tryz.isAgg22
 z22:=Tryz.sizeOf22
 v22:=Tryz.zeroValue22
 i3:=by kernel_rfl}
end Go.Proofs
namespace Go.Mp
open Go Go.Vc Go.Sp
variable{E:Env}{L:cv}{w:bH}
def clear.i{b o n c:Nat}{C:bA bE}{st ty:cf}{dd m:Nat}{zs:bA bE}(h:Sep E (bC b C::L) w)(l:hi P st=some (dd,m,zs))(D:zs.length=m)(g:∀v∈zs,v.oneCell'=true)(F:o+n*m<=C.length){G:bg0}(k:∀a,Sep E (bC b (ic C o (Builtin.zeroCells zs.toArray n).toList)::L) a->G a):
  ∃a,Sem.run P (Builtin.clear_ #[st] ty #[.slice (some ⟨b,o,none⟩) n c]) w=.ok (.tuple #[]) a/\G a:=by
 obtain⟨e,i,z,t,A,y,p,s,x⟩:=ph l;subst p s x;cases n with
 |zero=>
  refine⟨w,by simp[Builtin.clear_,run_underlying t],k _ ?_⟩;simpa[Builtin.zeroCells,ic]using h
 |succ n=>
  have hl:(Builtin.zeroCells z.cells (n+1)).toList.length=(n+1)*i.size:=by rw[sI,<- D];simp
  have d:=run_storeCells_cells (P:=P) b o (Builtin.zeroCells z.cells (n+1)).toList 0 w (λj B=>h.isSome bu) (λj B=>h.qu bu) (λu hu=>by
   simp only[Builtin.zeroCells,Array.toList_map,fo]at hu;obtain⟨q,l,rfl⟩:=hu;have r:q%z.cells.size<z.cells.size:=by
    refine kL _ ?_;rcases kZ z.cells.size with f|f;·simp[f]at l
    ·exact f
   have:z.cells[q%z.cells.size]! =z.cells[q%z.cells.size]:=by simp[r]
   rw[this];exact g _ (by simp))
  refine⟨w.setCells b o (Builtin.zeroCells z.cells (n+1)).toList,?_,k _ (by simpa using h.setCells _ _)⟩;simp only[k1]at d;simp[Builtin.clear_,run_underlying t,zeroValue,typeInfo,A,y,d]
def vk(E:Env)(del:bE)(q:Int->Bool)(M:cv)(D:Int->Prop):Prop:=
 ∀x w,D x->Sep E M w->eY P del #[Iv x] w λe w'=>e=.returned (.bool (q x))/\Sep E M w'
def aux{s:Sl}{l:bR}{del:bE}{q:Int->Bool}(z:vk E del q (bw s 1 (bD l)::L) (· ∈l))(hn:s.n=l.length)(hb:l.length<4611686018427387904)(h:Sep E (bw s 1 (bD l)::L) w):
  Calls P Cu #[Sv s,del] w (cA λv w'=>∃i:Int,v=Iv i/\((i= -1/\∀x∈l,q x=false)\/(0<=i/\i<l.length/\(∀j x,j<i.toNat->l[j]?=some x->q x=false)/\∀x,l[i.toNat]?=some x->q x=true))/\Sep E (bw s 1 (bD l)::L) w'):=by
 apply XL;unfold L3 qD qO qW;refine⟨λi w=>(0<=i/\i<=l.length)/\(∀j x,j<i.toNat->l[j]?=some x->q x=false)/\Sep E (bw s 1 (bD l)::L) w,λi _=>(l.length-i).toNat,⟨⟨bu,bu⟩,λj x g=>by simp at g,h⟩,?_⟩;rintro _ i B ⟨⟨k,D⟩,a,h1⟩;refine cX (λy=>?_) (λC=>?_)
 ·have o:i<l.length:=by omega
  have hx:l[i.toNat]?=some (l[i.toNat]'bu):=dN;refine bw.el 0 h1 rfl k bu (λb hp t=>?_);have f:=t 0 bu;refine⟨l[i.toNat]'bu,f.trans (by simp[hx]),?_⟩;obtain⟨u,ca,p,r,d⟩:=z (l[i.toNat]'bu) B (og _) h1;refine⟨u,ca,p,r,d.mono ?_⟩;rintro e w2 ⟨rfl,h2⟩;refine⟨_,rfl,cw (λA=>⟨i,rfl,.inr ⟨k,o,a,λx m=>?_⟩,h2⟩) (λhf=>?_)⟩;·rw[hx]at m;rw[<- cU m];exact A
  ·rw[cR bu bu];refine⟨⟨⟨bu,bu⟩,λj x g c=>?_,h2⟩,by show(l.length-(i+1)).toNat<(l.length-i).toNat;omega⟩;by_cases n:j<i.toNat;·exact a j x n c
   ·have:j=i.toNat:=by omega
    subst this;rw[hx]at c;rw[<- cU c];exact hf
 ·refine⟨-1,rfl,.inl ⟨rfl,λx hx=>?_⟩,h1⟩;obtain⟨j,g,rfl⟩:=jb.1 hx;exact a j _ bu (dL g)
def PW{s:Sl}{l:bR}{del:bE}{q:Int->Bool}(T:∀m:bR,m.length=l.length->vk E del q (bw s 1 (bD m)::L) (· ∈l))(hn:s.n=l.length)(hb:l.length<4611686018427387904)(h:Sep E (bw s 1 (bD l)::L) w):
  Calls P B3 #[Sv s,del] w (cA λv w'=>∃s':Sl,v=.slice s'.p s'.n s'.c/\s'.n=(l.filter λx=> !q x).length/\Sep E (bw s' 1 (bD (l.filter λx=> !q x))::L) w'):=by
 apply W4;unfold Ln qD qI qQ qW;refine use (aux (T l rfl) hn hb h) ?_;rintro _ an ⟨i,rfl,X,h1⟩;refine⟨i,rfl,?_⟩;rcases X with⟨rfl,G⟩|⟨af,ag,M,O⟩
 ·have e:l.filter (λx=> !q x)=l:=by
   rw[vZ];intro x hx;simp[G x hx]
  refine eX (λ_=>⟨s,rfl,by rw[e];exact hn,by rw[e];exact h1⟩) (λF=>absurd rfl F)
 ·refine eX (λF=>bu) (λ_=>?_);rw[cR bu bu];have u:(l.take i.toNat).filter (λx=> !q x)=l.take i.toNat:=by
   rw[vZ];intro x hx;obtain⟨j,Y,rfl⟩:=jb.1 hx;simp only[hJ]at Y;have:=M j l[j] bu (dN);rw[List.getElem_take];simp[this]
  have I:(l.take (i.toNat+1)).filter (λx=> !q x)=l.take i.toNat:=by
   have J:l[i.toNat]?=some (l[i.toNat]'bu):=dN;rw[mF,J,tx,u];simp[O _ J]
  refine⟨λa j w=>(i+1<=j/\j<=l.length)/\∃m:bR,m.length=l.length/\a=((l.take j.toNat).filter λx=> !q x).length/\m.take a.toNat=(l.take j.toNat).filter (λx=> !q x)/\m.drop j.toNat=l.drop j.toNat/\Sep E (bw s 1 (bD m)::L) w,
   λ_ j _=>(l.length-j).toNat,⟨⟨bu,bu⟩,l,rfl,?_,?_,rfl,h1⟩,?_⟩
  ·have k:(i+1).toNat=i.toNat+1:=by omega
   rw[k,I];simp;omega
  ·have k:(i+1).toNat=i.toNat+1:=by omega
   rw[k,I]
  rintro _ a j w2 ⟨⟨ah,ai⟩,m,hm,W,c,p,h2⟩;have N:((l.take j.toNat).filter λx=> !q x).length<=j.toNat:=by
   refine mJ (l0 _ _) ?_;simp;omega
  refine cX (λZ=>?_) (λae=>?_)
  ·have al:j<l.length:=by omega
   have z:l[j.toNat]?=some (l[j.toNat]'bu):=dN;have H:m[j.toNat]?=some (l[j.toNat]'bu):=by
    have:(m.drop j.toNat)[0]?=(l.drop j.toNat)[0]? :=by rw[p]
    simpa[z]using this
   generalize ab:l[j.toNat]'(bu)=v at z H;have V:v∈l:=by rw[<- ab];exact og _
   refine bw.el 0 h2 rfl bu bu (λb hp B=>?_);have D:=B 0 bu;refine⟨v,D.trans (by simp[H]),?_⟩;obtain⟨F,ca,k,K,C⟩:=T m hm v w2 V h2;refine⟨F,ca,k,K,C.mono ?_⟩;rintro e ao ⟨rfl,r⟩;have d:(j+1).toNat=j.toNat+1:=by omega
   have g:(l.take (j.toNat+1)).filter (λx=> !q x)=(l.take j.toNat).filter (λx=> !q x)++(if q v then[]else[v]):=by
    rw[mF,z,tx];cases n:q v<;>simp[n]
   have o:m.drop (j.toNat+1)=l.drop (j.toNat+1):=by
    rw[<- p1,<- p1,p]
   refine⟨_,rfl,cw (λhf=>?_) (λaa=>?_)⟩
   ·have n:q v=false:=by simpa using hf
    rw[n]at g;refine bw.el 0 r rfl bu bu (λam S _=>?_);refine bw.st r S (by simp;omega) (λt f=>?_);rw[cR bu bu,cR bu bu];refine⟨⟨⟨bu,bu⟩,m.set a.toNat v,by simpa using hm,?_,?_,?_,?_⟩,by show(l.length-(j+1)).toNat<(l.length-j).toNat;omega⟩;·rw[d,g];simp;omega
    ·have k:(a+1).toNat=a.toNat+1:=by omega
     rw[k,d,g,mF,Ti (ep _),c,iZ bu];simp
    ·rw[d,Tj bu];exact o
    ·have K:(bD m).set (a.toNat*1) (Iv v)=bD (m.set a.toNat v):=by simp[bD,hL]
     rw[K]at f;exact f
   ·have n:q v=true:=by simpa using aa
    rw[n]at g;rw[cR bu bu];refine⟨⟨⟨bu,bu⟩,m,hm,?_,?_,?_,r⟩,by show(l.length-(j+1)).toNat<(l.length-j).toNat;omega⟩;·rw[d,g];simp;omega
    ·rw[d,g];simpa using c
    ·rw[d];exact o
  ·have Q:l.take j.toNat=l:=iq bu;rw[Q]at W c N;have hle:=l0 (λx=> !q x) l;obtain⟨b,spare,hp,aj,y,ak,r⟩:=bw.ik h2 bu;refine⟨⟨bu,bu⟩,?_⟩;rw[hp];have U:gj (some ⟨b,0,none⟩) a.toNat s.c 1=some ⟨b,if s.c=a.toNat then 0 else a.toNat,none⟩:=by
    unfold gj;split;·rfl
    ·simp
   rw[U];have fin:∀ {t:bH} {rest:bA bE},rest.length+a.toNat=s.c->Sep E (bC b (bD (l.filter λx=> !q x)++rest)::L) t->(0<=a/\a<=(s.c:Int))/\∃s':Sl,Value.slice (gj (some ⟨b,0,none⟩) 0 s.c 1) (a.toNat-0) (s.c-0)=.slice s'.p s'.n s'.c/\s'.n=(l.filter λx=> !q x).length/\Sep E (bw s' 1 (bD (l.filter λx=> !q x))::L) t:=by
    intro t rest hr f;refine⟨⟨bu,bu⟩,⟨some ⟨b,0,none⟩,a.toNat,s.c⟩,?_,by dsimp only;omega,bw.make f (by simp;omega) (by simp;omega) bu⟩;unfold gj;split<;>simp
   have R:bD m=bD (l.filter λx=> !q x)++(bD m).drop a.toNat:=by
    have:bD (l.filter λx=> !q x)=(bD m).take a.toNat:=by
     rw[<- c];simp[bD,List.map_take]
    rw[this,fK]
   by_cases B:s.c=a.toNat
   ·rw[bL B];have ad:s.n-a.toNat=0:=by omega
    rw[ad];refine clear.i r (dd:=8) (m:=1) (zs:=[Iv 0]) cV rfl (by simp[Value.oneCell']) (by simp) (λt f=>?_);refine fin (rest:=(bD m).drop a.toNat++spare) (by simp at y ⊢;omega) ?_;have e:ic (bD m++spare) 0 (Builtin.zeroCells [Value.int .i64 0].toArray 0).toList=bD (l.filter λx=> !q x)++((bD m).drop a.toNat++spare):=by
     rw[<- dm,<- R];simp[Builtin.zeroCells,ic]
    rw[e]at f;exact f
   ·rw[bJ B];refine clear.i r (dd:=8) (m:=1) (zs:=[Iv 0]) cV rfl (by simp[Value.oneCell']) (by simp;omega) (λt f=>?_);have A:=sI [Value.int .i64 0].toArray (s.n-a.toNat);refine fin (rest:=(Builtin.zeroCells [Value.int .i64 0].toArray (s.n-a.toNat)).toList++spare) (by simp at y A ⊢;omega) ?_;have e:ic (bD m++spare) a.toNat (Builtin.zeroCells [Value.int .i64 0].toArray (s.n-a.toNat)).toList=bD (l.filter λx=> !q x)++((Builtin.zeroCells [Value.int .i64 0].toArray (s.n-a.toNat)).toList++spare):=by
     rw[oC _ _ _ (by simp at y A ⊢;omega),A];rw[rD (by simp;omega),Tq];have k:(bD m).take a.toNat=bD (l.filter λx=> !q x):=by rw[<- c];simp[bD,List.map_take]
     rw[k,kW (by simp;omega)];simp only[l3,dm];congr 2;have:a.toNat+(s.n-a.toNat)* [Value.int i64 0].toArray.size-(bD m).length=0:=by simp;omega
     rw[this,rK]
    rw[e]at f;exact f
end Go.Mp
