/- A part of the proof. -/
import Derived.Test.YtafigbgagbolgaaGreatDoorE02
import Derived.Shelf.Slices.Clone
import Derived.Test.YtafigbgagbolgaaGreatDoorProg
set_option linter.all false
set_option maxRecDepth 100000
open Go.IntKind(i64 u64)
universe u
theorem cS{α:Sort u}{a b:α}(h:a=b:=by kernel_rfl):a=b:=h
open Go.Proofs.Tryz
namespace Go.Mp
open Go Go.Vc Go.Sp Go.Proofs Go.Kt
variable{E:Env}{L:ct}{w W:bI}
def x9:hi P mr=some (8,1,[Iv 0]):=by kernel_rfl
def sR{s:Sl}{q:Nat}{l:bS}{x:Int}(hn:s.n=l.length)(hb:l.length<100000000)(h:Sep E (bC q [Iv x]::bw s 1 (bD l)::L) w){G:Sl->bf8}(g:∀s' a,s'.n=(l++[x]).length->Sep E (bw s' 1 (bD (l++[x]))::L) a->G s' a):
  ∃d:Sl,∃a,Sem.run P (Builtin.append_ #[mr,mr] mr #[Sv s,.slice (some ⟨q,0,none⟩) 1 1]) w=.ok (Sv d) a/\G d a:=by
 have f:=Src.bC (n:=1) (c:=1) h (i:=0) rfl x9 rfl (λu hu=>by simp at hu;rw[hu];rfl);have e:bD (l++[x])=bD l++[Iv x]:=by simp[bD]
 refine bw.append h.swap x9 rfl f bu (by rw[hn];omega) (λs' a b h1=>?_);refine g s' a (by rw[b,hn];simp) ?_;rw[e];exact(h1.fr 0 rfl).ro 2 [0] rfl
def Ov{f:bg5}{fi ca:cb bE}{o:bE->cb bE}{A A':Asn}{xs:bS}(has:∀y,o y=fi++ #[y]++ca)(hf:kO P f=true)(D:x2 P E f o A A' (xs.map (Value.int .i64)))(hb:xs.length<1000000)(h:Sep E (A::L) w):
  Calls P xw #[.func (.func f) fi ca] w (cz λv w'=>∃s:Sl,v=Sv s/\s.n=xs.length/\Sep E (bw s 1 (bD xs)::A'::L) w'):=by
 apply Vv;unfold Ki qJ;refine use (K:=λv w'=>∃s:Sl,v=Sv s/\s.n=xs.length/\Sep E (bw s 1 (bD xs)::A'::L) w') ?_ ?_;rotate_left
 ·rintro _ B ⟨s,rfl,hn,h1⟩;exact⟨s,rfl,s,rfl,hn,h1⟩
 apply VQ ⟨none,0,0⟩;unfold CT qc;refine Al.i h (λp B h1=>?_);have h1:Sep E (fa (λs:Sl=>cG (s.n=0) (star (bC p [Sv s]) (bw s 1 (bD []))))::A::L) B:=
  Sep.ex.2 ⟨⟨none,0,0⟩,Sep.cG.2 ⟨rfl,Sep.star.2 (bw.none_ (m:=1) h1).swap⟩⟩
 refine iB.iO has (τ:=fG) (ρ:=gM) (cx:=cx) (An:=sx) (yl:=CV) mixed bN bN VS hf D
  (λk=>fa λs:Sl=>cG (s.n=(xs.take k).length) (star (bC p [Sv s]) (bw s 1 (bD (xs.take k))))) (λ_=>cG False emp) ?_ h1 ?_ ?_
 ·intro l r L' k x W R c g hx a u _;obtain⟨y,n,rfl⟩:∃y,xs[k]?=some y/\x=Iv y:=by
   rw[eC]at hx;cases hk:xs[k]? with
   |none=>rw[hk]at hx;cases hx
   |some y=>rw[hk]at hx;exact⟨y,rfl,(cR hx).symm⟩
  have I:=(cZ.1 n).1;refine(VR ⟨none,0,0⟩ _ ⟨p,0,none⟩ y l W R).mpr ?_;unfold K9 qC qc;refine lk.i a c (λw2 h2=>?_);obtain⟨s,h2⟩:=Sep.ex.1 h2.swap;obtain⟨hn,h2⟩:=Sep.cG.1 h2;have h2:=Sep.star.1 h2;refine⟨s,h2.cell 0,Al.i h2 (λq F d=>?_)⟩;have i:Sep E (bC q [Iv y]::bw s 1 (bD (xs.take k))::bC p [Sv s]::c5 l (.loop {r with state:=.busy})::L') F:=d.ro 4 [0,2,1,3] rfl;refine sR hn (by rw[hF];omega) i (λs' J z C=>?_);refine St.i C.swap (by show 0<1;decide) (λG j=>?_);have j:Sep E (bC p [.slice s'.p s'.n s'.c]::bw s' 1 (bD (xs.take k++[y]))::c5 l (.loop {r with state:=.busy})::L') G:=j;refine e3.i (j.ro 3 [2,0,1] rfl) (λH t=>?_);have e:({ {r with state:=.busy} with state:=if(none:bV Code).isNone then .ready else .done,pending:=none} :Loop)=r:=by
   cases r;simp only at c g;subst c g;rfl
  rw[e]at t;refine u H (Sep.swap (Sep.ex.2 ⟨s',Sep.cG.2 ⟨?_,?_⟩⟩));·rw[z,mG,n];rfl
  ·rw[mG,n];exact Sep.star.2 (t.ro 3 [1,2,0] rfl)
 ·intro b W a;obtain⟨s,h2⟩:=Sep.ex.1 a.swap;obtain⟨hn,h2⟩:=Sep.cG.1 h2;have h2:=Sep.star.1 h2;rw[ei,gf]at hn h2;have d:Sep E (c5 b (.deferred (some []))::bw s 1 (bD xs)::bC p [Sv s]::A'::L) W:=h2.ro 3 [2,1,0] rfl;have i:=(d.putObj (o':=.deferred none)).tail;exact⟨s,h2.cell 0,d.di,s,rfl,hn,i.ro 2 [0] rfl⟩
 ·intro b k W _ a;exact(Sep.cG.1 a.swap).1.elim
def aEs{f:bg5}{ca:cb bE}{A A':Asn}{xs:bS}(hf:kO P f=true)(a:Db P E f ca A A' (xs.map (Value.int .i64)))(hb:xs.length<1000000)(h:Sep E (A::L) w):
  Calls P xw #[.func (.func f) #[] ca] w (cz λv w'=>∃s:Sl,v=Sv s/\s.n=xs.length/\Sep E (bw s 1 (bD xs)::A'::L) w'):=Ov (fi:= #[]) (λy=>by simp) hf a hb h
def uX:kO P sm=true:=by kernel_rfl
def uY{b:Nat}{g:Int}(h:Sep E L w):Calls P Bv #[Pb b,Iv g] w (cz λv w'=>∃a c,v=.func (.func sm) #[] #[Pb a,Pb c]/\
  Sep E (bC a [Pb b]::bC c [Iv g]::L) w'):=by
 apply Vw;unfold Kj qC;exact Al.i h (λa d h1=>Al.i h1 (λc w2 h2=>⟨a,c,rfl,h2.swap⟩))
def pG{l:bA G}(hw:WF l)(g:Int):(dk l g).length<=64:=by
 unfold dk;split
 ·next h=>
  obtain⟨n,rfl,x,hx,_⟩:=iW.1 h;have a:=(cZ.1 hx).1;rw[ei,dA];have:=(zp hw n a).2;have:=hw.fk;omega
 ·simp
def sS{b:Nat}{l:bA G}{g:Int}(hw:WF l)(h:Sep E (dT b l::L) w):Calls P q7 #[Pb b,Iv g] w (cz λv w'=>∃s:Sl,v=Sv s/\s.n=(dk l g).length/\
  Sep E (bw s 1 (bD (dk l g))::dT b l::L) w'):=by
 apply Vk;unfold J6 qJ qN;refine use (uY h) ?_;rintro _ i ⟨e,f,rfl,h1⟩;refine⟨_,rfl,?_⟩;have h2:Sep E (star (bC e [Pb b]) (star (bC f [Iv g]) (dT b l))::L) i:=by
  have a:=Sep.star.2 (h1.ro 3 [1,2,0] rfl);exact Sep.star.2 a.swap
 refine use (aEs uX (Ou hw) (by have:=pG hw g;omega) h2) ?_;rintro _ w2 ⟨s,rfl,hn,a⟩;refine⟨s,rfl,s,rfl,hn,?_⟩;have c:=Sep.star.1 a.swap;have d:=Sep.star.1 c.swap;exact d.ro 4 [3,1] rfl
def aIa{b:Nat}{l:bA G}{g:Int}(hw:WF l)(h:Sep E (dT b l::L) w):Calls P BZ #[Pb b,Iv g] w (cW E (Iv (Gt l g)) (dT b l::L)):=by
 apply WC;unfold CW qC qD qN;refine Al.i h (λp C h1=>?_);refine St.i h1 (by show 0<1;decide) (λw2 h2=>?_);have h2:Sep E (bC p [Iv (-1)]::dT b l::L) w2:=h2;refine use (uY h2) ?_;rintro _ A ⟨u,z,rfl,q⟩;refine⟨_,rfl,?_⟩;have hlen:=pG hw g;have s:Sep E (bC p [Iv (((0:Nat):Int)-1)]::star (bC u [Pb b]) (star (bC z [Iv g]) (dT b l))::L) A:=by
  have c:=Sep.star.2 (q.ro 4 [1,3,0,2] rfl);exact(Sep.star.2 c.swap).swap
 refine iB.i (τ:=fG) (ρ:=gM) (cx:=cx) (An:=sy) (yl:=CZ) mixed bN bN WE uX (Ou hw)
  (λk=>bC p [Iv ((k:Int)-1)]) (λ_=>cG False emp) ?_ s ?_ ?_
 ·intro t r L' k x W R d j hx a m _;have hk:k<(dk l g).length:=by have:=(cZ.1 hx).1;rwa[ei]at this
  obtain⟨y,rfl⟩:∃y,x=Iv y:=by
   rw[eC]at hx;cases hk:(dk l g)[k]? with
   |none=>rw[hk]at hx;cases hx
   |some y=>rw[hk]at hx;exact⟨y,(cR hx).symm⟩
  refine(WD _ g ⟨p,0,none⟩ _ y t W R).mpr ?_;unfold LI qD;refine lk.i a d (λD c=>?_);refine⟨_,c.cellAt 1 rfl 0,?_⟩;refine St.i c.swap (by show 0<1;decide) (λF f=>?_);have o:i64.wrap ((k:Int)-1+1)=((k+1:Nat):Int)-1:=by rw[cP bu bu];omega
  rw[o]at f;refine e3.i f.swap (λB i=>?_);have e:({ {r with state:=.busy} with state:=if(none:bV Code).isNone then .ready else .done,pending:=none} :Loop)=r:=by
   cases r;simp only at d j;subst d j;rfl
  rw[e]at i;exact m B i
 ·intro n W a;rw[ei]at a;have c:=(a.putObj (o':=.deferred none)).tail;refine⟨_,a.cellAt 1 rfl 0,a.di,rfl,?_⟩;have f:=Sep.star.1 c.tail;have i:=Sep.star.1 f.swap;exact i.ro 3 [1] rfl
 ·intro n k W _ a;exact(Sep.cG.1 a.swap).1.elim
end Go.Mp
namespace Go.Kv
open Go Go.Vc Go.Sp
def kD:(n:Nat)->RT n->Nat->bA Nat
 |0,ws,a=>(List.range 16).flatMap λd=>if(List.getD (ws:bA (bV Nat)) d none).isSome then[a*16+d]else[]
 |n+1,ks,a=>(List.range 16).flatMap λd=>match List.getD (ks:bA (bV (Nat×RT n))) d none with
  |none=>[]
  |some (_,s)=>kD n s (a*16+d)
def hR:(n:Nat)->RT n->Nat->Nat->bA Nat
 |0,ws,a,d=>if(List.getD (ws:bA (bV Nat)) d none).isSome then[a*16+d]else[]
 |n+1,ks,a,d=>match List.getD (ks:bA (bV (Nat×RT n))) d none with
  |none=>[]
  |some (_,s)=>kD n s (a*16+d)
def rj(n:Nat)(t:RT n)(a:Nat):kD n t a=(List.range 16).flatMap (hR n t a):=by cases n<;>rfl
def slot:(n:Nat)->RT n->Nat->Bool
 |0,ws,d=>(List.getD (ws:bA (bV Nat)) d none).isSome
 |n+1,ks,d=>(List.getD (ks:bA (bV (Nat×RT n))) d none).isSome
end Go.Kv
namespace Go.Mp
open Go Go.Vc Go.Sp Go.Proofs Go.Kc Go.Kv
variable{E:Env}{L:ct}{w W:bI}
def Ow{n d a:Nat}{t:RT n}(h:slot n t d=false):hR n t a d= []:=by
 cases n with
 |zero=>
  have h:(List.getD (t:bA (bV Nat)) d none).isSome=false:=h;show(if(List.getD (t:bA (bV Nat)) d none).isSome then[a*16+d]else[])= []
  rw[h];rfl
 |succ n=>
  have h:(List.getD (t:bA (bV (Nat×RT n))) d none).isSome=false:=h;show(match List.getD (t:bA (bV (Nat×RT n))) d none with|none=>[]|some (_,s)=>kD n s (a*16+d))= []
  cases hk:List.getD (t:bA (bV (Nat×RT n))) d none with
  |none=>rfl
  |some y=>rw[hk]at h;cases h
def Ox{n d:Nat}{t:RT n}(a:RT.ok n t)(b:d<16):∃h:Nat,h<65536/\(RT.vs n t)[32]?=some (.int .u16 (h:Int))/\h/2^d%2=if slot n t d then 1 else 0:=by
 have gd:∀ {α:Type} (l:bA (bV α)),(l.map Option.isSome).getD d false=(l.getD d none).isSome:=by
  intro α l;rw[dJ,eC,dJ];cases l[d]? with
  |none=>rfl
  |some y=>rfl
 cases n with
 |zero=>
  obtain⟨ws,rfl⟩:∃ws:bA (bV Nat),ws=t:=⟨t,rfl⟩
  have hl:ws.length=16:=a;refine⟨hasB (ws.map Option.isSome),?_,oN oa hl,?_⟩
  ·have:=oJ (ws.map Option.isSome);rw[ei,hl]at this;exact this
  ·rw[uw,gd];rfl
 |succ n=>
  obtain⟨ks,rfl⟩:∃ks:bA (bV (Nat×RT n)),ks=t:=⟨t,rfl⟩
  have hl:ks.length=16:=a.1;refine⟨hasB (ks.map Option.isSome),?_,oN (by rw[ei];exact hl) oa,?_⟩
  ·have:=oJ (ks.map Option.isSome);rw[ei,hl]at this;exact this
  ·rw[uw,gd];rfl
def Oy{a d:Nat}(c:a<4096)(f:d<16):iY .i64 (i64.wrap ((a:Int)*2^(min (4:Int).toNat 64))) (d:Int)=((a*16+d:Nat):Int):=by
 have e:i64.wrap ((a:Int)*2^(min (4:Int).toNat 64))=((a*16:Nat):Int):=by
  rw[show((a:Int)*2^(min (4:Int).toNat 64))=((a*16:Nat):Int) by rw[tD];rfl];exact cP bu bu
 rw[e];have h1:(BitVec.ofInt 64 ((a*16:Nat):Int) ||| BitVec.ofInt 64 (d:Int)).toNat=a*16+d:=by
  rw[BitVec.toNat_or,pX,pX,tu,tu,mJ bu,mJ bu];have:=FJ (i:=4) (b:=d) bu a;rw[wk a 16];exact this.symm
 show i64.wrap ((BitVec.ofInt 64 ((a*16:Nat):Int) ||| BitVec.ofInt 64 (d:Int)).toNat:Int)=_;rw[h1];exact cP bu bu
def aGl{n b d a:Nat}{t:RT (n+1)}{s:RT n}(hk:gN t d=some (a,s))(L:ct):(dI (n+1) b t++L).Perm (dI n a s++(bC b (RT.vs (n+1) t)::(j8 n (t:bA (bV (Nat×RT n))) d++L))):=by
 obtain⟨ks,rfl⟩:∃ks:bA (bV (Nat×RT n)),ks=t:=⟨t,rfl⟩
 have c:ks[d]?=some (some (a,s)):=by
  have h1:ks.getD d none=some (a,s):=hk;rw[dJ]at h1;cases h2:ks[d]? with
  |none=>rw[h2]at h1;cases h1
  |some y=>rw[h2]at h1;exact eJ some h1
 show((bC b (RT.vs (n+1) ks)::List.flatMap (e2 n) ks)++L).Perm _;rw[r9 c];unfold j8;show((bC b (RT.vs (n+1) ks)::(List.flatMap (e2 n) (ks.take d)++(dI n a s++List.flatMap (e2 n) (ks.drop (d+1)))))++L).Perm _;generalize List.flatMap (e2 n) (ks.take d)=A;generalize List.flatMap (e2 n) (ks.drop (d+1))=B;generalize dI n a s=C;generalize bC b (RT.vs (n+1) ks)=X;simp only[o5,dj];refine(List.Perm.cons X ?_).trans jf.symm;have h1:=rE (B++L) (l1 (l₁:=A) (l₂:=C));rwa[dj,dj]at h1
def sT{n b d a:Nat}{t:RT (n+1)}{s:RT n}(hk:gN t d=some (a,s))(J:Asn)(L:ct):(dI (n+1) b t++J::L).Perm (dI n a s++J::(bC b (RT.vs (n+1) t)::(j8 n (t:bA (bV (Nat×RT n))) d++L))):=
 (aGl hk (J::L)).trans (pV _ (jf (l₁:=bC b (RT.vs (n+1) t)::j8 n (t:bA (bV (Nat×RT n))) d)))
def uZ{α:Type}(f:Nat->bA α)(d:Nat):(List.range (d+1)).flatMap f=(List.range d).flatMap f++f d:=by
 rw[List.range_succ,FZ];simp
def Oz{α:Type}(f:Nat->bA α){d n:Nat}(h:d<n):∃r,(List.range n).flatMap f=(List.range d).flatMap f++(f d++r):=by
 induction n with
 |zero=>omega
 |succ n a=>
  rw[uZ];by_cases e:d=n;·subst e;exact⟨[],by rw[hv]⟩
  ·obtain⟨r,hr⟩:=a bu;exact⟨r++f n,by rw[hr];simp⟩
def aIt:∀(m:Nat) {b a k0 l:Nat} {t:RT m} {xs:bA bE} {J X:Nat->Asn} {L:ct} {w:bI},m<=3->RT.ok m t->a<16^(3-m)->(∀i p,(kD m t a)[i]?=some p->xs[k0+i]?=some (Iv (p:Nat)))->
  (∀k x W,xs[k]?=some x->Sep E (dI m b t++J k::L) W->YieldAt Fence.wide 0 P l #[x] W (λe N=>(e=.returned (.bool true)/\Sep E (dI m b t++J (k+1)::L) N)\/(e=.returned (.bool false)/\Sep E (dI m b t++X k::L) N)))->
  Sep E (dI m b t++J k0::L) w->
  Calls P xF #[Pb b,Iv ((3-m:Nat):Int),Iv (a:Nat),.func (.yield l) #[] #[]] w (cz λv w'=>
   (v=.bool true/\Sep E (dI m b t++J (k0+(kD m t a).length)::L) w')\/(v=.bool false/\∃k,k<k0+(kD m t a).length/\Sep E (dI m b t++X k::L) w')):=by
 intro m;induction m with
 |zero=>
  intro b a k0 l t xs J X L w hm H O I M h;apply Oa;unfold x5 qF qO qb;have C:a<4096:=O;refine⟨λx w'=>∃d:Nat,x=d/\d<=16/\Sep E (dI 0 b t++J (k0+((List.range d).flatMap (hR 0 t a)).length)::L) w',λx _=>(16-x).toNat,⟨0,rfl,bu,h⟩,?_⟩;rintro _ _ ah ⟨d,rfl,ae,h1⟩;refine cU (λU=>?_) (λS=>?_)
  ·have c:d<16:=by omega
   obtain⟨hb,R,D,F⟩:=Ox H c;have G:=pF (j:=32) h1;rw[D]at G;refine⟨bN,_,rfl,_,by rw[cf,fx];exact G,by rw[dq];omega,?_⟩;rw[dq (n:=d) bu,dA,show min d 16=d by omega,sh,rh,F];have g:((16:Int)-((d+1:Nat):Int)).toNat<((16:Int)-(d:Int)).toNat:=by omega
   cases f:slot 0 t d with
   |false=>
    refine bT rfl ⟨rfl,?_,?_⟩
    ·refine⟨d+1,dc,bu,?_⟩;rw[uZ,Ow f,hv];exact h1
    ·rw[dc];exact g
   |true=>
    refine bF rfl (bF rfl ⟨l,rfl,?_⟩);rw[Oy C c];have o:hR 0 t a d= [a*16+d]:=by
     have f:(List.getD (t:bA (bV Nat)) d none).isSome=true:=f;show(if(List.getD (t:bA (bV Nat)) d none).isSome then[a*16+d]else[])=_;rw[f];rfl
    obtain⟨r,hr⟩:=Oz (hR 0 t a) c;rw[<- rj,o]at hr;have hx:=I ((List.range d).flatMap (hR 0 t a)).length (a*16+d) (by rw[hr,fM (ek _),iV];rfl);obtain⟨fn,tmps,B,body,A,u⟩:=M _ _ _ hx h1;refine⟨fn,tmps,B,body,A,u.mono λe Z he=>?_⟩;rcases he with⟨rfl,z⟩|⟨rfl,z⟩
    ·refine⟨true,rfl,bF rfl ⟨rfl,⟨d+1,dc,bu,?_⟩,?_⟩⟩
     ·rw[uZ,o,dd];exact z
     ·rw[dc];exact g
    ·refine⟨false,rfl,bT rfl (.inr ⟨rfl,_,?_,z⟩)⟩;rw[hr,dd,dd,l3];omega
  ·have:d=16:=by omega
   subst this;rw[<- rj]at h1;exact .inl ⟨rfl,h1⟩
 |succ m ag=>
  intro b a k0 l t xs J X L w hm H O I M h;apply Oa;unfold x5 qF qO qb;have C:a<4096:=by
   have:(16:Nat)^(3-(m+1))<=16^3:=tq bN bu;have e:(16:Nat)^3=4096:=rfl;omega
  refine⟨λx w'=>∃d:Nat,x=d/\d<=16/\Sep E (dI (m+1) b t++J (k0+((List.range d).flatMap (hR (m+1) t a)).length)::L) w',λx _=>(16-x).toNat,⟨0,rfl,bu,h⟩,?_⟩;rintro _ _ ah ⟨d,rfl,ae,h1⟩;refine cU (λU=>?_) (λS=>?_)
  ·have c:d<16:=by omega
   obtain⟨hb,R,D,F⟩:=Ox H c;have G:=pF (j:=32) h1;rw[D]at G;refine⟨bN,_,rfl,_,by rw[cf,fx];exact G,by rw[dq];omega,?_⟩;rw[dq (n:=d) bu,dA,show min d 16=d by omega,sh,rh,F];have g:((16:Int)-((d+1:Nat):Int)).toNat<((16:Int)-(d:Int)).toNat:=by omega
   cases f:slot (m+1) t d with
   |false=>
    refine bT rfl ⟨rfl,?_,?_⟩
    ·refine⟨d+1,dc,bu,?_⟩;rw[uZ,Ow f,hv];exact h1
    ·rw[dc];exact g
   |true=>
    have f:(gN t d).isSome=true:=f;cases hk:gN t d with
    |none=>rw[hk]at f;cases f
    |some y=>
    obtain⟨Y,s⟩:=y;have V:=uU H c;rw[hk]at V;have K:=pF (j:=d) h1;rw[V]at K;refine bF rfl (bT (by rw[gw];omega) ⟨_,rfl,_,rfl,⟨bu,bu⟩,?_⟩);rw[cf,cf,dA,show 0+0+d*1=d by omega];refine⟨_,K,?_⟩;have o:hR (m+1) t a d=kD m s (a*16+d):=by
     have hk:List.getD (t:bA (bV (Nat×RT m))) d none=some (Y,s):=hk;show(match List.getD (t:bA (bV (Nat×RT m))) d none with|none=>[]|some (_,s)=>kD m s (a*16+d))=_;rw[hk]
    obtain⟨r,hr⟩:=Oz (hR (m+1) t a) c;rw[<- rj,o]at hr;have aa:i64.wrap (((3-(m+1):Nat):Int)+1)=((3-m:Nat):Int):=by rw[dc];omega
    have Q:a*16+d<16^(3-m):=by
     have e:(16:Nat)^(3-m)=16^(3-(m+1))*16:=by rw[<- p3];congr 1;omega
     rw[e];omega
    rw[aa,Oy C c];have T:=h1.perm (sT hk _ _);refine use (ag (b:=Y) (a:=a*16+d) (t:=s) (xs:=xs) (X:=X) bu (x6 H hk) Q (λi p hp=>?_) (λk x W hx ad=>?_) T) ?_
    ·rw[tF];refine I _ p ?_;rw[hr,fM bu,tp];have af:=(cZ.1 hp).1;rw[eM af];exact hp
    ·obtain⟨fn,tmps,B,body,A,u⟩:=M k x W hx (ad.perm (sT hk _ _).symm);exact⟨fn,tmps,B,body,A,u.mono λe Z he=>he.imp (λq=>⟨q.1,q.2.perm (sT hk _ _)⟩) (λq=>⟨q.1,q.2.perm (sT hk _ _)⟩)⟩
    ·rintro _ Z (⟨rfl,z⟩|⟨rfl,k,ai,z⟩)
     ·have ab:=z.perm (sT hk _ _).symm;refine⟨true,rfl,bF rfl ⟨rfl,⟨d+1,dc,bu,?_⟩,?_⟩⟩
      ·rw[uZ,o,dd,<- tF];exact ab
      ·rw[dc];exact g
     ·refine⟨false,rfl,bT rfl (.inr ⟨rfl,k,?_,z.perm (sT hk _ _).symm⟩)⟩;rw[hr,dd,dd];omega
  ·have:d=16:=by omega
   subst this;rw[<- rj]at h1;exact .inl ⟨rfl,h1⟩
end Go.Mp
namespace Go.Mp
open Go Go.Vc Go.Sp Go.Proofs Go.Kc
variable{E:Env}{L:ct}{w W:bI}
def OA:hi P mr=some (8,1,[Iv 0]):=by kernel_rfl
def OB{s:Sl}{q:Nat}{l:bS}{x:Int}(hn:s.n=l.length)(hb:l.length<100000000)(h:Sep E (bC q [Iv x]::bw s 1 (bD l)::L) w){G:Sl->bf8}(g:∀s' a,s'.n=(l++[x]).length->Sep E (bw s' 1 (bD (l++[x]))::L) a->G s' a):
  ∃d:Sl,∃a,Sem.run P (Builtin.append_ #[mr,mr] mr #[Sv s,.slice (some ⟨q,0,none⟩) 1 1]) w=.ok (Sv d) a/\G d a:=by
 have f:=Src.bC (n:=1) (c:=1) h (i:=0) rfl OA rfl (λu hu=>by simp at hu;rw[hu];rfl);have e:bD (l++[x])=bD l++[Iv x]:=by simp[bD]
 refine bw.append h.swap OA rfl f bu (by rw[hn];omega) (λs' a b h1=>?_);refine g s' a (by rw[b,hn];simp) ?_;rw[e];exact(h1.fr 0 rfl).ro 2 [0] rfl
def lp(k:Int×Int):bE:=.agg #[Iv k.1,Iv k.2]
def aE8(a b:Int×Int)(h:lp a=lp b):a=b:=by
 obtain⟨c,d⟩:=a;obtain⟨b1,b2⟩:=b;simpa[lp]using h
def OD:h5 P w9 lp:=h5.agg (d:=3) (l:=[.int .i64,.int .i64]) aE8 cS bN cS (λk=>by
 unfold Typed;rw[show ej P w9=some true by kernel_rfl];exact⟨_,rfl,⟨_,rfl⟩,⟨_,rfl⟩,trivial⟩)
def hD(t:bA UInt8):bE:=.string ⟨t.toArray⟩
def iC(b:Nat)(F:FS):Asn:=fa λs:Sl=>fa λm:Nat=>fa λwr:Int=>cG (s.n=F.bW.length/\F.bW.length<=32)
 (star (bC b [Sv s,.map (some m),Iv wr]) (star (bw s 1 (bD F.bW)) (cE m lp (λk=>(F.bt k).map hD))))
def iC.get{b:Nat}{F:FS}(h:Sep E (iC b F::L) w):∃(s:Sl) (m:Nat) (wr:Int),s.n=F.bW.length/\F.bW.length<=32/\
  Sep E (bC b [Sv s,.map (some m),Iv wr]::bw s 1 (bD F.bW)::cE m lp (λk=>(F.bt k).map hD)::L) w:=by
 obtain⟨s,h⟩:=Sep.ex.1 h;obtain⟨m,h⟩:=Sep.ex.1 h;obtain⟨wr,h⟩:=Sep.ex.1 h;obtain⟨hn,h⟩:=Sep.cG.1 h;have h1:=(Sep.star.1 h).swap;exact⟨s,m,wr,hn.1,hn.2,(Sep.star.1 h1).ro 3 [2,0,1] rfl⟩
def iC.mk{b m:Nat}{F:FS}{s:Sl}{wr:Int}(hn:s.n=F.bW.length)(a:F.bW.length<=32)(h:Sep E (bC b [Sv s,.map (some m),Iv wr]::bw s 1 (bD F.bW)::cE m lp (λk=>(F.bt k).map hD)::L) w):Sep E (iC b F::L) w:=
 Sep.ex.2 ⟨s,Sep.ex.2 ⟨m,Sep.ex.2 ⟨wr,Sep.cG.2 ⟨⟨hn,a⟩,Sep.star.2 (Sep.swap (Sep.star.2 (h.ro 3 [1,2,0] rfl)))⟩⟩⟩⟩
variable{b:Nat}{F:FS}
def az9{q:Nat}(h:Sep E L w)(a:L[q]?=some (iC b F)):Calls P IH #[Pb b] w (cz λv w'=>v=Iv (F.bW.length:Nat)/\w'=w):=by
 apply Wg;unfold KR qK;obtain⟨s,m,wr,hn,c,h1⟩:=iC.get (h.fr q a);refine⟨_,rfl,s,h1.cell 0,?_,rfl⟩;rw[hn]
def OE{q:Nat}(h:Sep E L w)(j:L[q]?=some (iC b F))(f:Int):Calls P BI #[Pb b,Iv f] w (cz λv w'=>v=Iv (nq F f)/\w'=w):=by
 apply Wh;unfold KS qD qK qW qg;obtain⟨s,m,wr,hn,k,h1⟩:=iC.get (h.fr q j);unfold nq;refine⟨λw'=>w'=w/\0<=f/\f<F.bW.length,cU (λc=>⟨by rw[bK (.inl c)],rfl⟩) (λc=>⟨_,rfl,s,h1.cell 0,hs (λi=>⟨by rw[bK (.inr bu)],rfl⟩) (λi=>⟨rfl,c,bu⟩)⟩),?_⟩;rintro _ w2 ⟨rfl,e,d⟩;refine⟨_,rfl,s,h1.cell 0,mu 1 h1 rfl hn e d (λa g=>⟨_,g,?_,rfl⟩)⟩;rw[cD]
def OF{q:Nat}(h:Sep E L w)(a:L[q]?=some (iC b F))(k:Int×Int):Calls P xO #[Pb b,lp k] w (cW E (.bool (ec F k)) L):=by
 show Calls P xO #[Pb b,.agg #[Iv k.1,Iv k.2]] w _;apply XP;unfold Md qL qQ zH;refine Al.i h (λp d h1=>Dr.i h1 (λw2 h2=>⟨_,by rw[cf];exact h2.cell 1,h6 (λhle=>?_) (λc=>?_)⟩))
 ·refine⟨_,by rw[cf];exact h2.cell 1,_,by rw[cf];exact h2.cell 0,use (OE (q:=q+1) h2 (by simpa using a) k.1) ?_⟩;rintro _ e ⟨rfl,rfl⟩;refine⟨_,rfl,_,by rw[cf];exact h2.cell 1,rfl,?_,h2.tail⟩;unfold ec;rw[dF hle];rfl
 ·refine⟨?_,h2.tail⟩;unfold ec;rw[dg bu];rfl
def rk(n:Int):IntKind.u8.wrap n=n%256:=by unfold IntKind.wrap;simp[IntKind.signed,IntKind.bits]
def aHu(n:Int):((mh n).toNat:Int)=n%256:=by
 unfold mh;rw[UInt8.toNat_ofNat'];omega
def aAa(k:Int×Int)(h:Sep E L w):Calls P CA #[lp k] w (cW E (hD (nr k)) L):=by
 show Calls P CA #[.agg #[Iv k.1,Iv k.2]] w _;apply XQ;unfold Me qO zD zZ;refine Al.i h (λp r h1=>Al.i h1 (λp2 w2 h2=>?_));refine⟨_,by rw[cf];exact h2.cellAt 1 rfl 0,_,by rw[cf];exact h2.cellAt 1 rfl 1,?_⟩;have h2:Sep E (bC p2 (g9 (List.replicate 16 0))::L) w2:=by
  have e:g9 (List.replicate 16 0)= [.int .u8 0,.int .u8 0,.int .u8 0,.int .u8 0,.int .u8 0,.int .u8 0,.int .u8 0,.int .u8 0,.int .u8 0,.int .u8 0,.int .u8 0,.int .u8 0,.int .u8 0,.int .u8 0,.int .u8 0,.int .u8 0]:=by simp[g9,List.replicate]
  rw[e];exact h2.ro 2 [0] rfl
 refine⟨λx w'=>∃j:Nat,x=j/\j<=16/\Sep E (bC p2 (g9 ((nr k).take j++List.replicate (16-j) 0))::L) w',λx _=>(16-x).toNat,⟨0,rfl,bu,by rw[wi,lJ];exact h2⟩,?_⟩;rintro _ x s ⟨j,rfl,q,a⟩;have hl:(nr k).length=16:=by simp[nr]
 refine cU (λo=>?_) (λn=>?_)
 ·have d:j<16:=by omega
  refine⟨_,rfl,⟨bu,bu⟩,eL.j a (by simp;omega) (λu c=>?_)⟩;refine⟨⟨j+1,dc,bu,?_⟩,by dsimp only;rw[dc];omega⟩;have e:(g9 ((nr k).take j++List.replicate (16-j) 0)).set (0+((j:Nat):Int).toNat*1) (.int .u8 (IntKind.u8.wrap ((IntKind.u8.wrap ((IntKind.u8.wrap ((IntKind.u8.wrap k.1)*31))+(IntKind.u8.wrap ((IntKind.u8.wrap k.2)*7))))+(IntKind.u8.wrap ((j:Nat):Int)))))=g9 ((nr k).take (j+1)++List.replicate (16-(j+1)) 0):=by
   rw[fx,fR,dA];have l:(nr k)[j]?=some (mh (31*k.1+7*k.2+(j:Int))):=by unfold nr;rw[eC,na d];rfl
   rw[fL l];unfold g9;rw[k3,k3,k3,jx _ _ (by simp;omega)];rw[show j-((List.take j (nr k)).map λb=>Value.int .u8 (b.toNat:Int)).length=0 by simp;omega,show 16-j=(16-(j+1))+1 by omega,oo,kh,y0,dj];congr 1;simp only[kh,List.map_nil,List.singleton_append];congr 2;rw[aHu,rk,rk,rk,rk,rk,rk,rk];omega
  rw[e]at c;exact c
 ·have:j=16:=by omega
  subst this;rw[iw bu,iV,FV,hv]at a;refine⟨_,λw' g=>?_,rfl,a.tail⟩;have c:=a.grow g;obtain⟨e,m,q2⟩:=AM (P:=P) (t:=sf) cS;have:=run_convert_bytes_back (P:=P) w' sf Bc e ⟨p2,0,none⟩ (16-0) (nr k) m q2 cS (λi f=>by rw[cf,c.cell,fx,uf,dO f];rfl);rw[hl]at this;exact this
def OG(k:Int×Int)(h:Sep E (iC b F::L) w):Calls P xL #[Pb b,lp k] w
  (cW E (.tuple #[hD (rW F k).1,Iv (rW F k).2]) (iC b F::L)):=by
 show Calls P xL #[Pb b,.agg #[Iv k.1,Iv k.2]] w _;apply Xa;unfold Lx qF qM zJ zZ;refine Al.i h (λp j h1=>⟨_,by rw[cf];exact h1.cell 0,_,by rw[cf];exact h1.cell 1,use (OF (q:=1) h1 rfl k) ?_⟩);rintro _ w2 ⟨rfl,h2⟩;refine⟨_,rfl,?_⟩;unfold rW;cases i:ec F k with
 |false=>exact eA ⟨rfl,h2.tail⟩
 |true=>
  refine dH (Dr.i h2 (λf c=>?_));obtain⟨s,m,wr,hn,g,d⟩:=iC.get c.swap;have a:Sep E (bC p [Iv k.1,Iv k.2]::iC b F::L) f:=c;refine⟨_,rfl,some m,by rw[cf];exact d.cell 1,_,by rw[cf];exact a.cell 0,_,by rw[cf];exact a.cell 1,?_⟩;have hl:=gp.i true 2 d rfl OD (t:=U6) (z:=.string ⟨#[]⟩) cS k;cases hp:F.bt k with
  |some t=>
   simp only[hp,gg,mI,F4]at hl;exact⟨_,_,hl,eA ⟨rfl,a.tail⟩⟩
  |none=>
   simp only[hp,Option.map_none,Option.getD_none,S5]at hl;refine⟨_,_,hl,dH ⟨_,by rw[cf];exact a.cell 0,_,by rw[cf];exact a.cell 1,use (aAa k a) ?_⟩⟩;rintro _ l ⟨rfl,e⟩;exact⟨_,rfl,rfl,e.tail⟩
def aAb(k:Int×Int)(t:bA UInt8)(h:Sep E (iC b F::L) w):Calls P Cl #[Pb b,lp k,hD t] w
  (cW E (Iv (ns F k t).2) (iC b (ns F k t).1::L)):=by
 show Calls P Cl #[Pb b,.agg #[Iv k.1,Iv k.2],.string ⟨t.toArray⟩] w _;apply Xh;unfold LF qF qL qM zZ;refine Al.i h (λp y h1=>⟨_,by rw[cf];exact h1.cell 0,_,by rw[cf];exact h1.cell 1,use (OF (q:=1) h1 rfl k) ?_⟩);rintro _ w2 ⟨rfl,h2⟩;refine⟨_,rfl,?_⟩;unfold ns;have j:(⟨t.toArray⟩:ByteArray).size=t.length:=by show t.toArray.size=_;simp
 rw[j];cases u:ec F k with
 |false=>exact eA ⟨rfl,h2.tail⟩
 |true=>
  refine dH (hJ (λr=>?_) (λhe=>?_))
  ·have c:t.length≠16:=by omega
   rw[bJ bN,bK c];exact⟨rfl,h2.tail⟩
  ·have i:¬ t.length≠16:=by omega
   rw[bJ bN,bJ i];refine Dr.i h2 (λA l=>?_);obtain⟨s,m,wr,hn,d,a⟩:=iC.get l.swap;refine⟨_,rfl,some m,by rw[cf];exact a.cell 1,_,by rw[cf];exact a.cellAt 3 rfl 0,_,by rw[cf];exact a.cellAt 3 rfl 1,?_⟩;refine mapUpdate.i (a.ro 4 [2,0,1,3] rfl) OD (z:=.string ⟨#[]⟩) cS k _ (λB f=>?_);refine⟨_,rfl,wr,by rw[cf];exact(f.cellAt 1 rfl _).trans rfl,_,rfl,?_⟩;refine eL.j f.swap (show 0+2<3 by decide) (λo n=>⟨rfl,?_⟩);have g:Sep E (bC b [Sv s,.map (some m),Iv (i64.wrap (wr+1))]::cE m lp (cL (λk=>(F.bt k).map hD) k (some (hD t)))::bw s 1 (bD F.bW)::bC p [Iv k.1,Iv k.2]::L) o:=n;have e:(cL (λk=>(F.bt k).map hD) k (some (hD t)))= λx=>((λx=>if x=k then some t else F.bt x) x).map hD:=by
    funext x;unfold cL;dsimp only;split<;>rfl
   rw[e]at g;exact iC.mk (F:={F with bt:=λx=>if x=k then some t else F.bt x}) hn d (g.ro 4 [0,2,1] rfl)
def aDm{s:Sl}{l:bS}(n:Ints E L s l)(C:s.n<=s.c)(h:Sep E L w):Calls P Bp #[Sv s] w (cz λv w'=>∃b,v=Pb b/\Sep E (iC b (gU l)::L) w'):=by
 apply Vo;unfold J9 qC qD qK qO;have hn:=n.1;refine cE.new (enc:=lp) h (λm N h1=>Al.i h1 (λp w2 h2=>?_));have hm:min1 ((s.n:Nat):Int) 32=((min l.length 32:Nat):Int):=by unfold min1;split<;>omega
 rw[hm];refine⟨⟨bu,bu⟩,?_⟩;simp only[dA,Gr];have o:(gU l).bW.length=min l.length 32:=by simp[gU];omega
 refine⟨λx w'=>∃j:Nat,x=j/\j<=min l.length 32/\∃t:Sl,t.n=((gU l).bW.take j).length/\Sep E (bw t 1 (bD ((gU l).bW.take j))::bC p [Sv t,.map (some m),Iv 0]::cE m lp (λ_=>none)::L) w',
  λx _=>(min l.length 32-x).toNat,⟨0,rfl,fj _,⟨none,0,0⟩,rfl,bw.none_ h2⟩,?_⟩
 rintro _ x G ⟨j,rfl,M,t,i,c⟩;refine cU (λK=>?_) (λI=>?_)
 ·have J:j<min l.length 32:=by omega
  obtain⟨y,u⟩:∃y,l[j]?=some y:=⟨_,dP⟩
  obtain⟨a,B,d⟩:=(n.cons.cons.cons (A:=bw t 1 (bD ((gU l).bW.take j)))).2 G c j y u;have r:(gU l).bW[j]?=some (min (max y 0) 4096):=by unfold gU;rw[eC,o3,eK,u];rfl
  refine⟨a.add 0,?_,⟨bu,bu⟩,?_⟩
  ·unfold gi;split;·omega
   ·rw[B];simp
  ·refine⟨y,?_,_,rfl,t,by rw[cf];exact c.cellAt 1 rfl 0,Al.i c (λq H g=>?_)⟩
   ·rw[dA,fR];have:((a.add 0).add j)=a.add j:=by cases a;unfold Addr.add;simp
    rw[this];exact d
   ·have e:min1 (eE y 0) 4096=min (max y 0) 4096:=by unfold min1 eE;split<;>split<;>omega
    have g:Sep E (bC q [Iv (min (max y 0) 4096)]::bw t 1 (bD ((gU l).bW.take j))::bC p [Sv t,.map (some m),Iv 0]::cE m lp (λ_=>none)::L) H:=by rw[<- e];exact g
    refine OB i (by rw[hF];omega) g (λD O f k=>?_);rw[<- fL r]at f k;refine⟨_,rfl,?_⟩;refine eL.j k.swap (show 0+0<3 by decide) (λQ z=>?_);exact⟨⟨j+1,dc,bu,D,f,z.swap⟩,by dsimp only;rw[dc];omega⟩
 ·have:j=min l.length 32:=by omega
  subst this;have e:(gU l).bW.take (min l.length 32)=(gU l).bW:=iw bu;rw[e]at i c;exact⟨p,rfl,iC.mk (F:=gU l) i (by rw[o];omega) (c.ro 3 [1,0,2] rfl)⟩
def c3:bA Nat->Nat
 |[]=>0
 |k::l=>k+c3 l
def u0:∀(a b:bA Nat),c3 (a++b)=c3 a+c3 b
 |[],b=>by simp[c3]
 |x::a,b=>by show x+c3 (a++b)=x+c3 a+c3 b;rw[u0 a b];omega
def Dv(l:bA Nat)(k:Nat):c3 (l.take k)<=c3 l:=by
 have:=u0 (l.take k) (l.drop k);rw[fK]at this;omega
def ints(l:bA Nat):bS:=l.map Int.ofNat
def u1{l:bA Nat}{k x:Nat}(h:l[k]?=some x):(ints l)[k]?=some (x:Int):=by unfold ints;rw[eC,h];rfl
def sU(l:bA Nat):(ints l).length=l.length:=by simp[ints]
def OH{s:Sl}{ws:bA Nat}(d:Ints E L s (ints ws))(c:∀k∈ws,k<=62)(i:c3 ws<=64)(hb:ws.length<1000)(h:Sep E L w):Calls P Cn #[Sv s] w (cz λv w'=>v=.tuple #[Iv (c3 ws:Nat),.bool true]/\w'=w):=by
 apply Xm;unfold LN qD qI qW;have hn:=d.1;rw[sU]at hn;refine⟨λn x w'=>w'=w/\∃k:Nat,x=k/\k<=ws.length/\n=(c3 (ws.take k):Nat),λ_ x _=>(ws.length-x).toNat,⟨rfl,0,rfl,fj _,rfl⟩,?_⟩;rintro _ n x m ⟨rfl,k,rfl,hk,rfl⟩;refine cU (λl=>?_) (λj=>?_)
 ·obtain⟨y,b⟩:∃y,ws[k]?=some y:=⟨_,dP⟩
  have g:=c y (eI b);have f:c3 (ws.take (k+1))=c3 (ws.take k)+y:=by rw[fL b,u0];rfl
  have hle:=Dv ws (k+1);refine d.el h k rfl (u1 b) ?_;have e:i64.wrap (((c3 (ws.take k):Nat):Int)+(y:Int))=((c3 (ws.take (k+1)):Nat):Int):=by rw[f,cP bu bu];omega
  rw[e];refine cU (λa=>absurd a bu) (λ_=>fZ (λa=>absurd a bu) (λ_=>fZ (λa=>absurd a bu) (λ_=>?_)));exact⟨⟨rfl,k+1,dc,bu,rfl⟩,by dsimp only;rw[dc];omega⟩
 ·have:k=ws.length:=by omega
  subst this;rw[gf];exact⟨rfl,rfl⟩
def p2(k:Nat):(2:Int)^k=((2^k:Nat):Int):=by push_cast;rfl
def OI{k:Nat}(hk:k<=62)(w:bI):Calls P Co #[Iv (k:Nat)] w (cz λv w'=>v=.int .u64 ((2^k-1:Nat):Int)/\w'=w):=by
 apply Xn;unfold LO;have hp:=sK (k:=k) bu;have a:=y5 k;rw[dq (n:=k) bu,show(min ((k:Nat):Int).toNat 64)=k by rw[dA];omega,Int.one_mul,p2,dq hp,show(((2^k:Nat):Int)-1)=((2^k-1:Nat):Int) by omega,dq];exact⟨bu,rfl,rfl⟩
def fields:bA Nat->Nat->bA Nat
 |[],_=>[]
 |k::ws,x=>x%2^k::fields ws (x/2^k)
def eW:∀(ws:bA Nat) (x:Nat),(fields ws x).length=ws.length
 |[],_=>rfl
 |k::ws,x=>by show(fields ws _).length+1=_;rw[eW ws];rfl
def OJ:∀ {ws:bA Nat} {x k y:Nat},ws[k]?=some y->(fields ws x)[k]?=some (x/2^c3 (ws.take k)%2^y)
 |[],_,_,_,h=>by simp at h
 |z::ws,x,0,y,h=>by
  simp only[lH,fS]at h;subst h;show some _=_;simp[c3]
 |z::ws,x,k+1,y,h=>by
  show(fields ws (x/2^z))[k]?=_;rw[OJ (by simpa using h),FO,<- Nat.pow_add];rfl
def OK{s:Sl}{ws:bA Nat}(g:Ints E L s (ints ws))(d:∀k∈ws,k<=62)(J:c3 ws<64)(hb:ws.length<1000){x:Nat}(hx:x<18446744073709551616)(h:Sep E L w):
  Calls P BW #[Sv s,.int .u64 (x:Nat)] w (cz λv w'=>(x/2^c3 ws=0/\∃t:Sl,v=.tuple #[Sv t,Iv 0]/\t.n=ws.length/\Sep E (bw t 1 (bD (ints (fields ws x)))::L) w')\/
   (x/2^c3 ws≠0/\v=.tuple #[aN8,Iv 1]/\Sep E L w')):=by
 apply Wz;unfold Lb qC qD qW qg qp zU zV;dsimp only;have hn:=g.1;rw[sU]at hn;refine use (OH g d bu hb h) ?_;rintro _ H ⟨rfl,rfl⟩;refine⟨_,_,rfl,λw'=>w'=H/\x/2^c3 ws=0,dH (cU (λ_=>?_) (λC=>absurd C bu)),?_⟩
 ·rw[dq (n:=c3 ws) bu,show(min ((c3 ws:Nat):Int).toNat 64)=c3 ws by rw[dA];omega,sh];refine⟨bu,hJ (λN=>?_) (λhe=>?_)⟩;·exact .inr ⟨bu,rfl,h⟩
  ·exact⟨rfl,bu⟩
 ·rintro _ w2 ⟨rfl,u⟩;refine⟨λy t i w'=>∃k:Nat,i=k/\k<=ws.length/\y=((x/2^c3 (ws.take k):Nat):Int)/\t.n=((ints (fields ws x)).take k).length/\Sep E (bw t 1 (bD ((ints (fields ws x)).take k))::L) w',λ_ _ i _=>(ws.length-i).toNat,
   ⟨0,rfl,fj _,by simp[c3],rfl,bw.none_ h⟩,?_⟩
  rintro _ y t i I ⟨k,rfl,hk,rfl,l,b⟩;refine cU (λM=>?_) (λK=>?_)
  ·obtain⟨z,c⟩:∃z,ws[k]?=some z:=⟨_,dP⟩
   have m:=d z (eI c);have D:c3 (ws.take (k+1))=c3 (ws.take k)+z:=by rw[fL c,u0];rfl
   refine(g.cons (A:=bw t 1 (bD ((ints (fields ws x)).take k)))).el b k rfl (u1 c) (use (OI m I) ?_);rintro _ Q ⟨rfl,rfl⟩;refine⟨_,rfl,?_⟩;have hp:=sK (k:=z) bu;have p:=y5 z;have j:x/2^c3 (ws.take k)<18446744073709551616:=yZ (Gf _ _) hx;have G:2^z<9223372036854775808:=FU (a:=2) (n:=63) bN bu;have r:i64.wrap (dm .u64 (((x/2^c3 (ws.take k):Nat):Int)) (((2^z-1:Nat):Int)))=((x/2^c3 (ws.take k)%2^z:Nat):Int):=by
    rw[sC j bu,tm];have:=kM (x/2^c3 (ws.take k)) p;exact cP bu bu
   rw[r];have F:(ints (fields ws x))[k]?=some ((x/2^c3 (ws.take k)%2^z:Nat):Int):=u1 (OJ c);refine Al.i b (λq R B=>OB l (by rw[hF,sU,eW];omega) B (λO S f o=>?_));rw[<- fL F]at f o;rw[dq (n:=z) bu,show(min ((z:Nat):Int).toNat 64)=z by rw[dA];omega,sh];refine⟨bu,⟨k+1,dc,bu,?_,f,o⟩,by dsimp only;rw[dc];omega⟩;rw[D,Nat.pow_add,<- FO]
  ·have:k=ws.length:=by omega
   subst this;have e:(ints (fields ws x)).take ws.length=ints (fields ws x):=iw (by rw[sU,eW];omega);rw[e]at l b;exact .inl ⟨u,t,rfl,by rw[l,sU,eW],b⟩
def jF:bA Nat->bA Nat->Nat
 |k::ws,v::vs=>v+2^k*jF ws vs
 |_,_=>0
def Dw:∀ {ws vs:bA Nat},(∀(k y v:Nat),ws[k]?=some y->vs[k]?=some v->v<2^y)->jF ws vs<2^c3 ws
 |[],_,_=>by show 0<2^0;decide
 |k::ws,[],_=>y5 _
 |k::ws,v::vs,h=>by
  have b:=h 0 k v rfl rfl;have h1:=Dw (ws:=ws) (vs:=vs) (λi y u a hu=>h (i+1) y u (by simpa using a) (by simpa using hu));show v+2^k*jF ws vs<2^(k+c3 ws);rw[Nat.pow_add];have:2^k*jF ws vs+2^k<=2^k*2^c3 ws:=by
   rw[<- Nat.mul_succ];exact Nat.mul_le_mul_left _ h1
  omega
def OL:∀ {ws vs:bA Nat} {k y v:Nat},ws[k]?=some y->vs[k]?=some v->jF (ws.take (k+1)) (vs.take (k+1))=jF (ws.take k) (vs.take k)+2^c3 (ws.take k)*v
 |[],_,_,_,_,h,_=>by simp at h
 |_::_,[],_,_,_,_,h=>by simp at h
 |z::ws,u::vs,0,y,v,h1,h2=>by
  simp only[lH,fS]at h1 h2;subst h1 h2;simp[jF,c3]
 |z::ws,u::vs,k+1,y,v,h1,h2=>by
  have a:=OL (ws:=ws) (vs:=vs) (k:=k) (y:=y) (v:=v) (by simpa using h1) (by simpa using h2);show u+2^z*jF (ws.take (k+1)) (vs.take (k+1))=(u+2^z*jF (ws.take k) (vs.take k))+2^(z+c3 (ws.take k))*v;rw[a,nc,Nat.pow_add,Gm,tF]
def aJW{a k v:Nat}(b:a<2^k):a ||| (2^k*v)=a+2^k*v:=by
 rw[Nat.or_comm,<- FJ b,rK]
def OM{s t:Sl}{ws vs:bA Nat}(A:Ints E L s (ints ws))(D:Ints E L t (ints vs))(q:∀k∈ws,k<=62)(Q:c3 ws<=63)(hb:ws.length<1000)(hl:vs.length=ws.length)(C:∀u∈vs,u<9223372036854775808)(h:Sep E L w):
  Calls P CH #[Sv s,Sv t] w (cz λv w'=>(((∀(k y u:Nat),ws[k]?=some y->vs[k]?=some u->u<2^y)/\v=.tuple #[.int .u64 (jF ws vs:Nat),Iv 0])\/((¬ ∀(k y u:Nat),ws[k]?=some y->vs[k]?=some u->u<2^y)/\v=.tuple #[.int .u64 0,Iv 1]))/\w'=w):=by
 apply Yc;unfold Mx qD qW qg qp zA zU;have hn:=A.1;have F:=D.1;rw[sU]at hn F;refine⟨λw'=>w'=w,use (OH A q bu hb h) ?_,?_⟩
 ·rintro _ G ⟨rfl,rfl⟩;exact⟨_,_,rfl,dH (hJ (λf=>absurd (show((t.n:Nat):Int)=((s.n:Nat):Int) by omega) f) (λ_=>rfl))⟩
 ·rintro _ G rfl;refine⟨λx low i w'=>w'=G/\∃k:Nat,i=k/\k<=ws.length/\x=((jF (ws.take k) (vs.take k):Nat):Int)/\low=((c3 (ws.take k):Nat):Int)/\∀(j y u:Nat),j<k->ws[j]?=some y->vs[j]?=some u->u<2^y,λ_ _ i _=>(ws.length-i).toNat,
   ⟨rfl,0,rfl,fj _,by simp[jF],rfl,λj _ _ g=>bu⟩,?_⟩
  rintro _ x low i w2 ⟨rfl,k,rfl,hk,rfl,rfl,b⟩;refine cU (λS=>?_) (λR=>?_)
  ·obtain⟨y,c⟩:∃y,ws[k]?=some y:=⟨_,dP⟩
   obtain⟨u,hu⟩:∃u,vs[k]?=some u:=⟨_,dP⟩
   have B:=q y (eI c);have M:c3 (ws.take (k+1))=c3 (ws.take k)+y:=by rw[fL c,u0];rfl
   have hle:=Dv ws (k+1);refine A.el h k rfl (u1 c) (D.el h k rfl (u1 hu) ?_);have T:=y5 y;have N:2^y<9223372036854775808:=FU (a:=2) (n:=63) bN bu;have bad:¬ u<2^y->¬ ∀(k y u:Nat),ws[k]?=some y->vs[k]?=some u->u<2^y:=λf b=>f (b k y u c hu);refine⟨λw'=>w'=w2/\u<2^y,cU (λf=>absurd f bu) (λ_=>use (OI B w2) ?_),?_⟩
   ·rintro _ O ⟨rfl,rfl⟩;refine⟨_,rfl,?_⟩;have J:=C u (eI hu);rw[dq (n:=u) bu];exact fZ (λf=>⟨.inr ⟨bad bu,rfl⟩,rfl⟩) (λf=>⟨rfl,bu⟩)
   ·rintro _ O ⟨rfl,z⟩;have K:c3 (ws.take k)<64:=by have:=Dv ws k;omega
    have r:jF (ws.take k) (vs.take k)<2^c3 (ws.take k):=Dw (λj o m h1 h2=>by
     rw[o3]at h1 h2;split at h1;·next g=>rw[bK g]at h2;exact b j o m g h1 h2
     ·cases h1)
    have p:jF (ws.take (k+1)) (vs.take (k+1))<2^c3 (ws.take (k+1)):=Dw (λj o m h1 h2=>by
     rw[o3]at h1 h2;split at h1
     ·next g=>
      rw[bK g]at h2;rcases hN j k with e|e;·exact b j o m e h1 h2
      ·have:j=k:=by omega
       subst this;rw[c]at h1;rw[hu]at h2;rw[<- cR h1,<- cR h2];exact z
     ·cases h1)
    have d:jF (ws.take (k+1)) (vs.take (k+1))<18446744073709551616:=lI p (tq (n:=2) bN (show c3 (ws.take (k+1))<=64 by omega));have l:=OL c hu;have H:iY .u64 ((jF (ws.take k) (vs.take k):Nat):Int) (u64.wrap ((u64.wrap (u:Int))*2^(min ((c3 (ws.take k):Nat):Int).toNat 64)))=((jF (ws.take (k+1)) (vs.take (k+1)):Nat):Int):=by
     rw[show(min ((c3 (ws.take k):Nat):Int).toNat 64)=c3 (ws.take k) by rw[dA];omega,dq (n:=u) bu,p2,<- tD,wk,dq (by rw[l]at d;exact yZ (Nat.le_add_left _ _) d),uR (lI r (tq (n:=2) bN (show c3 (ws.take k)<=64 by omega))) (by rw[l]at d;exact yZ (Nat.le_add_left _ _) d),aJW r,<- l]
    have I:u64.wrap (((c3 (ws.take k):Nat):Int)+(u64.wrap (y:Int)))=((c3 (ws.take (k+1)):Nat):Int):=by
     rw[dq (n:=y) bu,<- Gg,dq,M]
    rw[H,I];refine⟨bu,⟨rfl,k+1,dc,bu,rfl,rfl,λj o m g h1 h2=>?_⟩,by dsimp only;rw[dc];omega⟩;rcases hN j k with e|e;·exact b j o m e h1 h2
    ·have:j=k:=by omega
     subst this;rw[c]at h1;rw[hu]at h2;rw[<- cR h1,<- cR h2];exact z
  ·have:k=ws.length:=by omega
   subst this;refine⟨.inl ⟨λk y u c hu=>b k y u (cZ.1 c).1 c hu,?_⟩,rfl⟩;rw[gf,iw bu]
end Go.Mp
namespace Go.Mp
open Go Go.Vc Go.Sp Go.Proofs Go.Kc Go.Kv Go.Kw
variable{E:Env}{L:ct}{w W:bI}
def _root_.Go.Kw.En.vs(e:En):bA bE:=[Iv e.k,Iv e.id,.bool e.wr,.bool e.tc]
def wid:bA Nat:=[2,24,1,1]
def ON(h:Sep E L w):Calls P BX #[] w (cz λv w'=>∃p,v=.slice (some ⟨p,0,none⟩) 4 4/\Sep E (bC p (bD (ints wid))::L) w'):=by
 apply awI;unfold NQ qC;exact Al.i h (λp a h1=>⟨p,rfl,h1⟩)
def OO(b:Bool)(w:bI):Calls P CI #[.bool b] w (cz λv w'=>v=Iv (b.toNat:Int)/\w'=w):=by
 apply aAS;exact cv (λh=>by subst h;exact⟨rfl,rfl⟩) (λh=>by subst h;exact⟨rfl,rfl⟩)
def OP{e:En}(hk:e.k=1\/e.k=2)(h:Sep E L w):Calls P BY #[.agg e.vs.toArray] w (cW E (.bool true) L):=by
 apply axQ;unfold NR qL zn;refine Al.i h (λp a h1=>ld h1 0 rfl rfl (x:=(e.k:Int)) rfl ?_);refine bF (by rcases hk with hk|hk<;>rw[hk]<;>rfl) (ld h1 0 rfl rfl (x:=(e.k:Int)) rfl ?_);rcases hk with hk|hk;·exact bT (by rw[hk];rfl) ⟨rfl,h1.tail⟩
 ·exact bF (by rw[hk];rfl) (ld h1 0 rfl rfl (x:=(e.k:Int)) rfl ⟨by rw[hk];rfl,h1.tail⟩)
def aGR(e:En):jF wid [e.k,e.id,e.wr.toNat,e.tc.toNat]=e.enc:=by
 simp only[wid,jF,En.enc];omega
def ya{e:En}(h:e.ok):e.enc<268435456:=by
 obtain⟨hk,a⟩:=h;have:=nb e.wr;have:=nb e.tc;unfold En.enc;omega
def aIl{e:En}(hk:e.k=1\/e.k=2)(eS:e.id<9223372036854775808)(h:Sep E L w):Calls P Jo #[.agg e.vs.toArray] w (cW E (if e.id<16777216 then .tuple #[.int .u64 (e.enc:Nat),Iv 0]else .tuple #[.int .u64 0,Iv 1]) L):=by
 apply azl;unfold N4 qC qF qJ qQ zB zH za zn;refine Al.i h (λp o h1=>ld h1 0 rfl rfl (x:=(e.k:Int)) rfl (ld h1 0 rfl rfl (x:=(e.id:Int)) rfl (ld h1 0 rfl rfl (x:=e.wr) rfl (ld h1 0 rfl rfl (x:=e.tc) rfl ?_))));have h1:Sep E (bC p e.vs::L) o:=h1;refine use (OP hk h1) ?_;rintro _ w2 ⟨rfl,h2⟩;refine⟨_,rfl,bF rfl (Dr.i h2 (λA f=>ld f 0 rfl rfl (x:=(e.k:Int)) rfl (ld f 0 rfl rfl (x:=(e.id:Int)) rfl (ld f 0 rfl rfl (x:=e.wr) rfl (ld f 0 rfl rfl (x:=e.tc) rfl (use (ON f) ?_))))))⟩;rintro _ B ⟨q,rfl,d⟩;refine⟨⟨some ⟨q,0,none⟩,4,4⟩,rfl,ld d 1 rfl rfl (x:=e.tc) rfl ⟨rfl,ld d 1 rfl rfl (x:=e.wr) rfl ⟨rfl,ld d 1 rfl rfl (x:=(e.id:Int)) rfl ⟨rfl,ld d 1 rfl rfl (x:=(e.k:Int)) rfl ⟨rfl,use (OO e.wr _) ?_⟩⟩⟩⟩⟩;rintro _ _ ⟨rfl,rfl⟩;refine⟨_,rfl,ld d 1 rfl rfl (x:=e.tc) rfl ⟨rfl,ld d 1 rfl rfl (x:=(e.id:Int)) rfl ⟨rfl,ld d 1 rfl rfl (x:=(e.k:Int)) rfl ⟨rfl,use (OO e.tc _) ?_⟩⟩⟩⟩;rintro _ _ ⟨rfl,rfl⟩;refine⟨_,rfl,ld d 1 rfl rfl (x:=(e.id:Int)) rfl ⟨rfl,ld d 1 rfl rfl (x:=(e.k:Int)) rfl ⟨rfl,Al.i d (λr z g=>?_)⟩⟩⟩;have g:Sep E (bC r (bD (ints [e.k,e.id,e.wr.toNat,e.tc.toNat]))::bC q (bD (ints wid))::bC p e.vs::L) z:=g;have m:=OM (s:=⟨some ⟨q,0,none⟩,4,4⟩) (t:=⟨some ⟨r,0,none⟩,4,4⟩) (ws:=wid) (vs:=[e.k,e.id,e.wr.toNat,e.tc.toNat]) (Ints.jr (b:=q) (c:=4) (gs:=ints wid) (q:=1) rfl) (Ints.jr (b:=r) (c:=4) (gs:=ints [e.k,e.id,e.wr.toNat,e.tc.toNat]) (q:=0) rfl) bN bN bN rfl
  (λu hu=>by
   have:=nb e.wr;have:=nb e.tc;simp only[ew,tC,tI]at hu;omega) g
 refine use m ?_;rintro _ C ⟨n,rfl⟩;rcases n with⟨l,rfl⟩|⟨j,rfl⟩
 ·refine⟨_,_,rfl,?_,g.tail.tail.tail⟩;have i:e.id<2^24:=l 1 24 e.id rfl rfl;rw[eK,aGR]
 ·refine⟨_,_,rfl,?_,g.tail.tail.tail⟩;rw[bJ];intro i;apply j;have:=nb e.wr;have:=nb e.tc;intro k y u a hu
  match k,a,hu with
  |0,a,hu=>simp[wid]at a hu;subst a hu;omega
  |1,a,hu=>simp[wid]at a hu;subst a hu;omega
  |2,a,hu=>simp[wid]at a hu;subst a hu;omega
  |3,a,hu=>simp[wid]at a hu;subst a hu;omega
  |k+4,a,_=>simp[wid]at a
def aDv{e:En}(h:e.ok):fields wid e.enc= [e.k,e.id,e.wr.toNat,e.tc.toNat]:=by
 obtain⟨hk,a⟩:=h;have:=nb e.wr;have:=nb e.tc;simp only[wid,fields,En.enc];congr 1;·omega
 congr 1;·omega
 congr 1;·omega
 congr 1;omega
def OQ{x k:Nat}(hx:x<18446744073709551616)(hk:k<64):dm .u64 (x:Int) ((2^k:Nat):Int)=((if x/2^k%2=1 then 2^k else 0:Nat):Int):=by
 have h2:(2:Nat)^k<18446744073709551616:=FU bN hk (n:=64);rw[sC hx h2];congr 1;apply vW;intro i;rw[Nat.testBit_and,rG];have e:(x.testBit k=true)↔x/2^k%2=1:=by rw[bc3,gw]
 by_cases b:k=i
 ·subst b;split;·next a=>rw[e.2 a,Nat.testBit_two_pow_self];simp
  ·next a=>
   have:x.testBit k=false:=by
    cases hb:x.testBit k with
    |false=>rfl
    |true=>exact absurd (e.1 hb) a
   rw[this];simp
 ·split;·rw[rG];simp[b]
  ·simp[b]
def aJk{e:En}(h:e.ok):(dm .u64 (e.enc:Int) 67108864 !=0)=e.wr:=by
 have hl:=ya h;have h1:=OQ (x:=e.enc) (k:=26) bu bN;have h1:dm .u64 (e.enc:Int) 67108864=((if e.enc/2^26%2=1 then 2^26 else 0:Nat):Int):=h1;obtain⟨hk,b⟩:=h;have:=nb e.wr;have:=nb e.tc;have a:e.enc/2^26%2=e.wr.toNat:=by unfold En.enc;omega
 rw[h1,a];cases e.wr<;>rfl
def aJj{e:En}(h:e.ok):(dm .u64 (e.enc:Int) 134217728 !=0)=e.tc:=by
 have hl:=ya h;have h1:=OQ (x:=e.enc) (k:=27) bu bN;have h1:dm .u64 (e.enc:Int) 134217728=((if e.enc/2^27%2=1 then 2^27 else 0:Nat):Int):=h1;obtain⟨hk,b⟩:=h;have:=nb e.wr;have:=nb e.tc;have a:e.enc/2^27%2=e.tc.toNat:=by unfold En.enc;omega
 rw[h1,a];cases e.tc<;>rfl
def OR{e:En}(ho:e.ok)(h:Sep E L w):Calls P BE #[.int .u64 (e.enc:Nat)] w (cW E (.tuple #[.agg e.vs.toArray,Iv 0]) L):=by
 apply ZN;unfold NB qD qF qJ qU qW zF zG zn zu;have hl:=ya ho;refine Al.i h (λp A h1=>use (ON h1) ?_);rintro _ w2 ⟨q,rfl,h2⟩;have o:=OK (s:=⟨some ⟨q,0,none⟩,4,4⟩) (ws:=wid) (Ints.jr (b:=q) (c:=4) (gs:=ints wid) (q:=0) rfl) bN bN bN (x:=e.enc) bu h2;refine⟨⟨some ⟨q,0,none⟩,4,4⟩,rfl,use o ?_⟩;have u:c3 wid=28:=rfl;rw[u,aDv ho];rintro _ B (⟨_,t,rfl,l,m⟩|⟨k,_⟩)
 ·obtain⟨b,sp,hp,_,_,_,n⟩:=bw.im m (by rw[l];decide);have g:t.n=4:=l;refine⟨t,_,rfl,bF rfl (Dr.i n (λC i=>⟨_,hp,⟨bN,by rw[g];decide⟩,ld i 0 rfl rfl (x:=(e.k:Int)) rfl ⟨_,hp,⟨bN,by rw[g];decide⟩,ld i 0 rfl rfl (x:=(e.id:Int)) rfl (Al.i i (λr D j=>?_))⟩⟩))⟩;refine ld j 1 rfl rfl (x:=(e.id:Int)) rfl ⟨rfl,ld j 1 rfl rfl (x:=(e.k:Int)) rfl ⟨rfl,et _ j rfl (λy a=>?_)⟩⟩;rw[aJk ho,aJj ho]at a;have a:Sep E (bC r e.vs::bC b _::bC q _::bC p _::L) y:=a;refine ld a 0 rfl rfl (x:=(e.k:Int)) rfl (ld a 0 rfl rfl (x:=(e.id:Int)) rfl (ld a 0 rfl rfl (x:=e.wr) rfl (ld a 0 rfl rfl (x:=e.tc) rfl (use (OP ho.1 a) ?_))));rintro _ F ⟨rfl,f⟩;refine⟨_,rfl,bF rfl (ld f 0 rfl rfl (x:=(e.k:Int)) rfl (ld f 0 rfl rfl (x:=(e.id:Int)) rfl (ld f 0 rfl rfl (x:=e.wr) rfl (ld f 0 rfl rfl (x:=e.tc) rfl (et _ (f.fr 3 rfl) rfl (λz d=>?_))))))⟩;have d:Sep E (bC p e.vs::bC r e.vs::bC b _::bC q _::L) z:=d;exact ld d 0 rfl rfl (x:=(e.k:Int)) rfl (ld d 0 rfl rfl (x:=(e.id:Int)) rfl (ld d 0 rfl rfl (x:=e.wr) rfl (ld d 0 rfl rfl (x:=e.tc) rfl ⟨rfl,d.tail.tail.tail.tail⟩)))
 ·exact absurd bu k
def aIm{e:En}(ho:e.ok)(h:Sep E L w):Calls P I7 #[.int .u64 (e.enc:Nat)] w (cW E (.bool true) L):=by
 apply azm;unfold N1 qL qU zt zu;refine use (OR ho h) ?_;rintro _ b ⟨rfl,h1⟩;refine⟨_,_,_,_,_,rfl,Al.i h1 (λp w2 h2=>et _ h2 rfl (λc a=>bT rfl (ld a 0 rfl rfl (x:=(e.k:Int)) rfl ⟨?_,a.tail⟩)))⟩;obtain⟨hk|hk,_⟩:=ho<;>rw[hk]<;>rfl
def _root_.Go.Kw.En.cm(e:En):En:={e with tc:=true}
def Dx{e:En}(h:e.ok):iY .u64 (e.enc:Int) 134217728=(e.cm.enc:Int):=by
 have hl:=ya h;obtain⟨hk,i⟩:=h;have:=nb e.wr;have h1:iY .u64 (e.enc:Int) ((2^27:Nat):Int)=((e.enc ||| 2^27:Nat):Int):=uR bu bN;have h1:iY .u64 (e.enc:Int) 134217728=((e.enc ||| 2^27:Nat):Int):=h1;rw[h1];congr 1;obtain⟨x,hx⟩:∃x,e.k+4*e.id+67108864*e.wr.toNat=x:=⟨_,rfl⟩
 have a:x<2^27:=by omega
 have d:e.cm.enc=x+134217728*true.toNat:=by rw[<- hx];rfl
 have g:e.enc=x+134217728*e.tc.toNat:=by rw[<- hx];rfl
 rw[Bool.toNat_true,fR]at d;rw[d,g];cases e.tc with
 |false=>
  rw[Bool.toNat_false,Nat.mul_zero,lK,Nat.or_comm];have c:=FJ a 1;rw[fR]at c;have f:134217728+x=2^27 ||| x:=c;rw[rK];exact f.symm
 |true=>
  rw[Bool.toNat_true,fR];have b:=FJ a 1;have b:134217728+x=134217728 ||| x:=b;rw[rK,b,Nat.or_comm,<- Nat.or_assoc,show 2^27 ||| 134217728=134217728 by decide]
def aGA{e:En}(ho:e.ok)(h:Sep E L w):Calls P IM #[.int .u64 (e.enc:Nat)] w (cW E (.int .u64 (e.cm.enc:Nat)) L):=by
 apply Z0;unfold NM qF;refine use (aIm ho h) ?_;rintro _ a ⟨rfl,h1⟩;exact⟨_,rfl,bT rfl ⟨by rw[Dx ho],h1⟩⟩
end Go.Mp
namespace Go.Kw
open Go Go.Kc Go.Kv
structure Tok(T:c2):Prop where
 cX:T.Pairwise λx y=>x.1<y.1
 low:∀q∈T,q.1<65536/\q.2.ok
def nG(R:RT 3)(T:c2):Prop:=∀p:Nat,p<65536->RT.look 3 R p=(dL T p).map En.enc
def sV{p:Nat}{e:En}:∀ {T:c2},dL T p=some e->(p,e)∈T
 |[],h=>by cases h
 |(q,f)::r,h=>by
  unfold dL at h;split at h;·next a=>cases h;subst a;exact fE
  ·exact fY _ (sV h)
def sW{p:Nat}{e:En}:∀ {T:c2},T.Pairwise (λx y=>x.1<y.1)->(p,e)∈T->dL T p=some e
 |[],_,h=>by cases h
 |(q,f)::r,hr,h=>by
  obtain⟨h1,h2⟩:=g7.1 hr;unfold dL;rcases ew.1 h with h|h;·cases h;rw[bK rfl]
  ·have:=h1 _ h;rw[bJ (by have:q<p:=this;omega)];exact sW h2 h
def Tok.get{T:c2}(h:Tok T){p:Nat}{e:En}(a:dL T p=some e):p<65536/\e.ok:=h.low _ (sV a)
def Tok.filter{T:c2}(h:Tok T)(f:Nat×En->Bool):Tok (T.filter f):=⟨h.cX.filter f,λq a=>h.low q (gG.1 a).1⟩
def Dy{p:Nat}{e:En}{x:Nat×En}:∀ {T:c2},x∈eZ T p e->x=(p,e)\/x∈T
 |[],h=>.inl (by simpa[eZ]using h)
 |(q,f)::r,h=>by
  unfold eZ at h;split at h
  ·rcases ew.1 h with h|h;·exact .inl h
   ·exact .inr h
  ·split at h
   ·rcases ew.1 h with h|h;·exact .inl h
    ·exact .inr (fY _ h)
   ·rcases ew.1 h with h|h;·exact .inr (h▸fE)
    ·exact(Dy h).imp id (fY _)
def OS{p:Nat}{e:En}:∀ {T:c2},T.Pairwise (λx y=>x.1<y.1)->(eZ T p e).Pairwise (λx y=>x.1<y.1)
 |[],_=>by simp[eZ]
 |(q,f)::r,h=>by
  obtain⟨h1,h2⟩:=g7.1 h;unfold eZ;split
  ·next b=>
   refine g7.2 ⟨λy a=>?_,h⟩;rcases ew.1 a with rfl|a;·exact b
   ·have c:q<y.1:=h1 y a;show p<y.1;omega
  ·split;·next hle he=>subst he;exact g7.2 ⟨h1,h2⟩
   ·next hle he=>
    refine g7.2 ⟨λy a=>?_,OS h2⟩;rcases Dy a with rfl|a;·show q<p;omega
    ·exact h1 y a
def Tok.set{T:c2}(h:Tok T){p:Nat}{e:En}(hp:p<65536)(he:e.ok):Tok (eZ T p e):=
 ⟨OS h.cX,λq a=>(Dy a).elim (λe=>by subst e;exact⟨hp,he⟩) (h.low q)⟩
def u2{p q:Nat}{e:En}:∀ {T:c2},T.Pairwise (λx y=>x.1<y.1)->dL (eZ T p e) q=if q=p then some e else dL T q
 |[],_=>by
  show(if p=q then some e else none)=if q=p then some e else none
  by_cases h:p=q;·rw[bK h,bK h.symm]
  ·rw[bJ h,bJ λe=>h e.symm]
 |(k,f)::r,h=>by
  obtain⟨h1,h2⟩:=g7.1 h;unfold eZ;split
  ·next a=>
   show(if p=q then some e else dL ((k,f)::r) q)=_;by_cases h:p=q;·rw[bK h,bK h.symm]
   ·rw[bJ h,bJ λe=>h e.symm]
  ·split
   ·next hle he=>
    subst he;show(if p=q then some e else dL r q)=if q=p then some e else if p=q then some f else dL r q
    by_cases h:p=q;·rw[bK h,bK h.symm]
    ·rw[bJ h,bJ (λe=>h e.symm),bJ h]
   ·next hle he=>
    show(if k=q then some f else dL (eZ r p e) q)=if q=p then some e else if k=q then some f else dL r q
    rw[u2 h2];by_cases h:k=q;·rw[bK h,bK h,cD]
    ·rw[bJ h,bJ h]
def Dz{p q:Nat}:∀ {T:c2},dL (T.filter λx=>x.1 !=p) q=if q=p then none else dL T q
 |[]=>by simp[dL]
 |(k,f)::r=>by
  rw[jH];by_cases hk:k=p
  ·subst hk;rw[bJ (by simp),Dz];by_cases h:q=k;·rw[bK h,bK h]
   ·rw[bJ h,bJ h];show dL r q=if k=q then some f else dL r q;rw[bJ λe=>h e.symm]
  ·rw[bK (by simpa using hk)];show(if k=q then some f else dL (r.filter λx=>x.1 !=p) q)=if q=p then none else if k=q then some f else dL r q
   rw[Dz];by_cases h:k=q;·subst h;rw[bK rfl,bJ hk,bK rfl]
   ·rw[bJ h,bJ h]
def OT:∀ {a b:bA Nat},a.Pairwise (· < ·)->b.Pairwise (· < ·)->(∀x,x∈a↔x∈b)->a=b
 |[],[],_,_,_=>rfl
 |[],y::b,_,_,h=>absurd ((h y).2 fE) (by simp)
 |x::a,[],_,_,h=>absurd ((h x).1 fE) (by simp)
 |x::a,y::b,i,hb,h=>by
  obtain⟨f,g⟩:=g7.1 i;obtain⟨b1,b2⟩:=g7.1 hb;have e:x=y:=by
   rcases ew.1 ((h x).1 fE)with e|e;·exact e
   ·rcases ew.1 ((h y).2 fE)with d|d;·exact d.symm
    ·have:=b1 x e;have:=f y d;omega
  subst e;congr 1;refine OT g b2 λz=>⟨λc=>?_,λc=>?_⟩
  ·rcases ew.1 ((h z).1 (fY _ c))with e|e;·subst e;exact absurd (f z c) (tE _)
   ·exact e
  ·rcases ew.1 ((h z).2 (fY _ c))with e|e;·subst e;exact absurd (b1 z c) (tE _)
   ·exact e
end Go.Kw
namespace Go.Kv
def aFW{t:RT 0}{p:Nat}:slot 0 t (p%16)=(RT.look 0 t p).isSome:=rfl
def yb:∀(n:Nat) (t:RT n) (a p:Nat),p∈kD n t a↔p/16^(n+1)=a/\(RT.look n t p).isSome=true
 |0,t,a,p=>by
  rw[rj,y3];have ho:∀d,p∈hR 0 t a d↔slot 0 t d=true/\p=a*16+d:=by
   intro d;show p∈(if(List.getD (t:bA (bV Nat)) d none).isSome then[a*16+d]else[])↔(List.getD (t:bA (bV Nat)) d none).isSome=true/\_;split;·next h=>simp[h]
   ·next h=>simp[h]
  constructor
  ·rintro⟨d,b,h⟩;obtain⟨h1,rfl⟩:=(ho d).1 h;have b:=gn.1 b;refine⟨bu,?_⟩;rw[<- aFW,show(a*16+d)%16=d by omega];exact h1
  ·rintro⟨h1,h2⟩;rw[Nat.pow_one]at h1;exact⟨p%16,gn.2 (kM _ bN),(ho _).2 ⟨h2,bu⟩⟩
 |n+1,t,a,p=>by
  rw[rj,y3];have ho:∀d,p∈hR (n+1) t a d↔∃k s,Mp.gN t d=some (k,s)/\p∈kD n s (a*16+d):=by
   intro d;show p∈(match Mp.gN t d with|none=>[]|some (_,s)=>kD n s (a*16+d))↔_;cases Mp.gN t d with
   |none=>simp
   |some y=>exact⟨λh=>⟨y.1,y.2,rfl,h⟩,λ⟨k,s,e,h⟩=>by cases e;exact h⟩
  have c:p/16^(n+1+1)=p/16^(n+1)/16:=by rw[p3 16 (n+1),FO]
  constructor
  ·rintro⟨d,b,h⟩;have b:=gn.1 b;obtain⟨k,s,hk,h⟩:=(ho d).1 h;obtain⟨h1,h2⟩:=(yb n s _ p).1 h;refine⟨by rw[c,h1];omega,?_⟩;rw[Mp.nE,h1,show(a*16+d)%16=d by omega,hk];exact h2
  ·rintro⟨h1,h2⟩;rw[Mp.nE]at h2;cases hk:Mp.gN t (p/16^(n+1)%16)with
   |none=>rw[hk]at h2;cases h2
   |some y=>
    rw[hk]at h2;refine⟨p/16^(n+1)%16,gn.2 (kM _ bN),(ho _).2 ⟨y.1,y.2,hk,(yb n y.2 _ p).2 ⟨?_,h2⟩⟩⟩;rw[c]at h1;omega
def aHg:∀(n:Nat) (t:RT n) (a:Nat),(kD n t a).Pairwise (· < ·):=by
 intro n;have key:∀(n:Nat) (t:RT n) (a d x:Nat),d<16->x∈hR n t a d->x/16^n=a*16+d:=by
  intro n t a d x b hx;cases n with
  |zero=>
   have hx:x∈(if(List.getD (t:bA (bV Nat)) d none).isSome then[a*16+d]else[]):=hx;split at hx;·simp at hx;rw[hx,zc,zj]
   ·cases hx
  |succ n=>
   have hx:x∈(match Mp.gN t d with|none=>[]|some (_,s)=>kD n s (a*16+d)):=hx;split at hx;·cases hx
   ·exact((yb n _ _ x).1 hx).1
 have sg:∀(n:Nat) (t:RT n) (a:Nat),(∀d,(hR n t a d).Pairwise (· < ·))->(kD n t a).Pairwise (· < ·):=by
  intro n t a h1;rw[rj,List.pairwise_flatMap];refine⟨λd _=>h1 d,?_⟩;refine FL ?_ List.pairwise_lt_range;intro d e b he i x hx y f;have j:=key n t a d x (gn.1 b) hx;have k:=key n t a e y (gn.1 he) f;rcases hN x y with h|h;·exact h
  ·have:=Nat.div_le_div_right (c:=16^n) h;omega
 induction n with
 |zero=>
  intro t a;refine sg 0 t a λd=>?_;show(if(List.getD (t:bA (bV Nat)) d none).isSome then[a*16+d]else[]).Pairwise (· < ·);split<;>simp
 |succ n g=>
  intro t a;refine sg (n+1) t a λd=>?_;show(match Mp.gN t d with|none=>[]|some (_,s)=>kD n s (a*16+d)).Pairwise (· < ·);split;·simp
  ·exact g _ _
end Go.Kv
namespace Go.Mp
open Go Go.Vc Go.Sp Go.Proofs Go.Kc Go.Kv Go.Kw
variable{E:Env}{L:ct}{w W:bI}
def aIS{R:RT 3}{T:c2}(b:Tok T)(hr:nG R T):kD 3 R 0=T.map Prod.fst:=by
 refine OT (aHg 3 R 0) (kL.2 b.cX) λx=>?_;rw[yb,fA];constructor
 ·rintro⟨h1,h2⟩;have hx:x<65536:=by
   have e:(16:Nat)^(3+1)=65536:=rfl;rw[e]at h1;omega
  rw[hr x hx]at h2;cases c:dL T x with
  |none=>rw[c]at h2;cases h2
  |some e=>exact⟨_,sV c,rfl⟩
 ·rintro⟨⟨q,e⟩,d,rfl⟩;have a:=(b.low _ d).1;have a:q<65536:=a;refine⟨?_,?_⟩
  ·have e:(16:Nat)^(3+1)=65536:=rfl;rw[e];show q/65536=0;omega
  ·show(RT.look 3 R q).isSome=true;rw[hr q a,sW b.cX d];rfl
def cY(t:Nat)(T:c2):Asn:=fa λR:RT 3=>cG (RT.ok 3 R/\nG R T) (cy (dI 3 t R))
def cY.open{t:Nat}{T:c2}(h:Sep E (cY t T::L) w):∃R:RT 3,RT.ok 3 R/\nG R T/\Sep E (dI 3 t R++L) w:=by
 obtain⟨R,h⟩:=Sep.ex.1 h;obtain⟨⟨h1,h2⟩,h⟩:=Sep.cG.1 h;exact⟨R,h1,h2,Sep.cy.1 h⟩
def cY.mk{t:Nat}{T:c2}{R:RT 3}(h1:RT.ok 3 R)(h2:nG R T)(h:Sep E (dI 3 t R++L) w):Sep E (cY t T::L) w:=Sep.ex.2 ⟨R,Sep.cG.2 ⟨⟨h1,h2⟩,Sep.cy.2 h⟩⟩
def OU(h:Sep E L w):Calls P xB #[] w (cz λv w'=>∃t:Nat,v=Pb t/\Sep E (cY t []::L) w'):=by
 refine(aDq h).mono ?_;rintro e a ⟨v,rfl,t,rfl,h1⟩;exact⟨_,rfl,t,rfl,cY.mk (RT.lR 3) (λp _=>RT.jD 3 p) h1⟩
def OV{t:Nat}{T:c2}{bL:Int}(d:Tok T)(h:Sep E (cY t T::L) w):Calls P sk #[Pb t,Iv bL] w
  (cz λv w'=>((∃e:En,0<=bL/\dL T bL.toNat=some e/\v=.tuple #[.int .u64 (e.enc:Nat),.bool true])\/((if 0<=bL then dL T bL.toNat else none)=none/\v=.tuple #[.int .u64 0,.bool false]))/\Sep E (cY t T::L) w'):=by
 obtain⟨R,h1,h2,b⟩:=cY.open h;refine(Dq h1 b).mono ?_;rintro e f ⟨v,rfl,rfl,c⟩;refine⟨_,rfl,?_,cY.mk h1 h2 c⟩;unfold iq;by_cases hp:0<=bL/\bL<65536
 ·rw[bK hp,bK hp.1,h2 _ bu];cases a:dL T bL.toNat with
  |none=>exact .inr ⟨rfl,rfl⟩
  |some e=>exact .inl ⟨e,hp.1,rfl,rfl⟩
 ·rw[bJ hp];refine .inr ⟨?_,rfl⟩;split
  ·cases a:dL T bL.toNat with
   |none=>rfl
   |some e=>exact absurd (d.get a).1 bu
  ·rfl
def DA{t:Nat}{T:c2}{p:Nat}{e:En}(g:Tok T)(hp:p<65536)(h:Sep E (cY t T::L) w):Calls P uF #[Pb t,Iv (p:Nat),.int .u64 (e.enc:Nat)] w
  (cW E (Iv 0) (cY t (eZ T p e)::L)):=by
 obtain⟨R,h1,h2,b⟩:=cY.open h;refine(aJG h1 b).mono ?_;rintro e' j ⟨v,rfl,i|⟨_,rfl,R',c,d,f⟩⟩;·exact absurd bu i.1
 ·refine⟨_,rfl,rfl,cY.mk c (λq a=>?_) f⟩;rw[d q,dA,u2 g.cX,h2 q a];have e:(16:Nat)^(3+1)=65536:=rfl;rw[e,mJ a,mJ hp];split<;>rfl
def aEQ{t:Nat}{T:c2}{p:Nat}(d:Tok T)(hp:p∈T.map Prod.fst)(h:Sep E (cY t T::L) w):Calls P BJ #[Pb t,Iv (p:Nat)] w
  (cW E (.bool true) (cY t (T.filter λx=>x.1 !=p)::L)):=by
 obtain⟨R,h1,h2,g⟩:=cY.open h;obtain⟨⟨q,e⟩,c,rfl⟩:=fA.1 hp;have a:q<65536:=(d.low _ c).1;refine(aIz h1 a (by rw[h2 _ a,sW d.cX c];rfl) g).mono ?_;rintro e' l ⟨v,rfl,rfl,R',i,j,k⟩;refine⟨_,rfl,rfl,cY.mk i (λf b=>?_) k⟩;rw[j f,Dz,h2 f b];have e:(16:Nat)^(3+1)=65536:=rfl;rw[e,mJ b,mJ a];split<;>rfl
def kT(T:c2):bA bE:=(T.map Prod.fst).map λp:Nat=>Iv (p:Nat)
def OW{t:Nat}{R:RT 3}{T:c2}(B:Tok T)(h1:RT.ok 3 R)(h2:nG R T):C9 P E n3 (λy=> #[Pb t,y]) emp emp (cy (dI 3 t R)) (kT T):=by
 intro l J X A L W h;have u:=Sep.cy.1 (h.ro 3 [1,0] rfl);have hp:=aIS B h2;have j:∀ {Z:Asn} {M:ct} {w:bI},Sep E (dI 3 t R++Z::M) w->Sep E (Z::cy (dI 3 t R)::M) w:=λq=>(Sep.cy.2 q).swap;have un:∀ {Z:Asn} {M:ct} {w:bI},Sep E (Z::cy (dI 3 t R)::M) w->Sep E (dI 3 t R++Z::M) w:=λq=>Sep.cy.1 q.swap;have em:∀ {Z S:Asn} {w:bI},Sep E (Z::S::L) w->Sep E (Z::S::emp::L) w:=λq=>(Sep.emp.2 q).ro 3 [1,2,0] rfl;refine Calls.mono (R:=cz λv d=>v=.tuple #[]/\(Sep E (J (kT T).length::cy (dI 3 t R)::L) d\/∃k,k<(kT T).length/\Sep E (X k::cy (dI 3 t R)::L) d)) ?_ (λe d he=>?_);rotate_left
 ·obtain⟨v,rfl,rfl,he⟩:=he;exact⟨⟨_,rfl⟩,he.imp em λ⟨k,hk,q⟩=>⟨k,hk,em q⟩⟩
 apply ZL;unfold Dk qF;have n:=aIt (E:=E) 3 (b:=t) (a:=0) (k0:=0) (l:=l) (t:=R) (xs:=kT T) (J:=J) (X:=X) (L:=L) (w:=W) bu h1 bN
  (λi p o=>by rw[hp]at o;unfold kT;rw[fx,eC,o];rfl)
  (λk x r hx z=>by
   obtain⟨fn,tmps,m,body,g,c⟩:=A L k x r hx (j z);exact⟨fn,tmps,m,body,g,c.mono λe C he=>he.imp (λq=>⟨q.1,un q.2⟩) (λq=>⟨q.1,un q.2⟩)⟩) u
 have e0:((3-3:Nat):Int)=0:=rfl;rw[e0,fx,hp]at n;have s:(kT T).length=(T.map Prod.fst).length:=by unfold kT;rw[ei]
 rw[s];refine⟨_,rfl,?_⟩;dsimp only;rw[cf];refine use n ?_;rintro _ w2 (⟨rfl,f⟩|⟨rfl,k,hk,f⟩);·exact⟨_,rfl,rfl,.inl (j f)⟩
 ·exact⟨_,rfl,rfl,.inr ⟨k,hk,j f⟩⟩
def OX{t:Nat}{T:c2}(g:Tok T):x2 P E n3 (λy=> #[Pb t,y]) (cY t T) (cY t T) (kT T):=by
 intro l J X f L W h;obtain⟨R,h1,h2,c⟩:=cY.open h.swap;have a:∀ {Z:Asn} {w:bI},Sep E (Z::cy (dI 3 t R)::emp::L) w->Sep E (Z::cY t T::L) w:=λq=>(cY.mk h1 h2 (Sep.cy.1 (q.ro 3 [1,0] rfl))).swap;refine(OW g h1 h2 l J X (λM k x b hx d=>f _ k x b hx d) L W (((Sep.emp.2 (Sep.cy.2 c))).ro 3 [2,1,0] rfl)).mono λe i he=>⟨he.1,he.2.imp a λ⟨k,hk,q⟩=>⟨k,hk,a q⟩⟩
def gO{T:c2}(c:Tok T):T.length<=65536:=by
 have h1:∀(n:Nat) (l:bA Nat),l.Pairwise (· < ·)->(∀x∈l,x<n)->l.length<=n:=by
  intro n;induction n with
  |zero=>intro l _ hl;cases l with
   |nil=>simp
   |cons x l=>exact absurd (hl x fE) bu
  |succ n a=>
   intro l hp hl;have h2:=a (l.filter λx=>x !=n) (hp.filter _) (λx hx=>by
    have b:=gG.1 hx;have:=hl x b.1;have:x≠n:=by simpa using b.2
    omega)
   have g:l.length<=(l.filter λx=>x !=n).length+1:=by
    clear a h2 hl;induction l with
    |nil=>simp
    |cons x l a=>
     obtain⟨f,p2⟩:=g7.1 hp;rw[jH];by_cases hx:x=n
     ·subst hx;rw[bJ (by simp)];have:l.filter (λy=>y !=x)=l:=vY.2 λy e=>by have:=f y e;simp;omega
      rw[this];simp
     ·rw[bK (by simpa using hx)];have:=a p2;simp;omega
   omega
 have h2:=h1 65536 (T.map Prod.fst) (kL.2 c.cX) (λx hx=>by obtain⟨q,d,rfl⟩:=fA.1 hx;exact(c.low q d).1);rwa[ei]at h2
def aJF{t:Nat}{T:c2}(a:Tok T)(h:Sep E (cY t T::L) w):Calls P H8 #[Pb t] w (cW E (Iv (T.length:Nat)) (cY t T::L)):=by
 apply Zk;unfold Nj qJ;have hx:kT T=((T.map Prod.fst).map Int.ofNat).map (Value.int .i64):=by unfold kT;rw[tG,tG,tG];rfl
 have hlen:=gO a;refine use (Ov (fi:= #[Pb t]) (ca:= #[]) (λy=>by simp) cS (hx▸OX a) (by rw[ei,ei];omega) h) ?_;rintro _ c ⟨s,rfl,b,h1⟩;refine⟨s,rfl,?_,h1.tail⟩;rw[b,ei,ei]
end Go.Mp
namespace Go.Kw
def walk(T:c2)(a b:Int):bS:=((T.map Prod.fst).filter (hq a b)).map Int.ofNat
end Go.Kw
namespace Go.Mp
open Go Go.Vc Go.Sp Go.Proofs Go.Kc Go.Kv Go.Kw
variable{E:Env}{L:ct}{w W:bI}
def jG(a:Int)(l:bA Nat):bS:=(l.filter λp:Nat=>decide (a<=(p:Int))).map Int.ofNat
def OY{a b:Int}{l:bA Nat}(h:∀x∈l,(x:Int)<b):(l.filter (hq a b)).map Int.ofNat=jG a l:=by
 unfold jG;congr 1;refine v8 λx hx=>?_;unfold hq;have:=h x hx;by_cases c:a<=(x:Int)
 ·rw[dF c,dF ⟨c,this⟩]
 ·rw[dg c,dg λe=>c e.1]
def aIW{a b:Int}{l:bA Nat}{k:Nat}(hr:l.Pairwise (· < ·))(h:∀x∈l.take k,(x:Int)<b)(hk:∀y,l[k]?=some y->b<=(y:Int)):(l.filter (hq a b)).map Int.ofNat=jG a (l.take k):=by
 have e:l.filter (hq a b)=(l.take k).filter (hq a b)++(l.drop k).filter (hq a b):=by rw[<- tv,fK]
 have g:(l.drop k).filter (hq a b)= []:=by
  rw[List.filter_eq_nil_iff];intro x hx;cases c:l[k]? with
  |none=>rw[List.drop_eq_nil_of_le (by rw[FK]at c;exact c)]at hx;cases hx
  |some y=>
   have j:=hk y c;have d:=(cZ.1 c).1;rw[lG d]at hx;have i:l[k]=y:=by rw[dO d]at c;exact cR c
   have:(y:Int)<=x:=by
    rcases ew.1 hx with rfl|hx;·omega
    ·have f:(l.drop k).Pairwise (· < ·):=List.Pairwise.drop hr;rw[lG d]at f;have:=(g7.1 f).1 x hx;omega
   unfold hq;simp;omega
 rw[e,g,hv];exact OY h
def wJ(c d e:Nat)(a b:Int)(xs:bA Nat)(k:Nat):Asn:=
 fa λs:Sl=>cG (s.n=(jG a (xs.take k)).length) (cy [bC e [Sv s],bw s 1 (bD (jG a (xs.take k))),bC c [Iv a],bC d [Iv b]])
def OZ{t:Nat}{T:c2}{a b:Int}(X:Tok T)(h:Sep E (cY t T::L) w):Calls P xv #[Pb t,Iv a,Iv b] w
  (cz λv w'=>∃s:Sl,v=Sv s/\s.n=(walk T a b).length/\Sep E (bw s 1 (bD (walk T a b))::cY t T::L) w'):=by
 obtain⟨xs,G⟩:∃xs,T.map Prod.fst=xs:=⟨_,rfl⟩
 have N:xs.Pairwise (· < ·):=by rw[<- G];exact kL.2 X.cX
 have hlen:xs.length<=65536:=by rw[<- G,ei];exact gO X
 have hw:walk T a b=(xs.filter (hq a b)).map Int.ofNat:=by unfold walk;rw[G]
 have Q:kT T=xs.map λp:Nat=>Iv (p:Nat):=by unfold kT;rw[G]
 have aa:∀k,(jG a (xs.take k)).length<=65536:=by
  intro k;unfold jG;rw[ei];have h1:=l2 (λp:Nat=>decide (a<=(p:Int))) (xs.take k);have h2:=List.length_take_le k xs;rw[hF]at h1;omega
 apply Zn;unfold Di qC qc;refine Al.i h (λi ai h1=>Al.i h1 (λj w2 h2=>Al.i h2 (λn ae A=>?_)));have I:Sep E (cG (∀x∈xs.take 0,(x:Int)<b) (wJ i j n a b xs 0)::cY t T::L) ae:=by
  refine Sep.cG.2 ⟨by simp,Sep.ex.2 ⟨⟨none,0,0⟩,Sep.cG.2 ⟨rfl,Sep.cy.2 ?_⟩⟩⟩;exact(bw.none_ (m:=1) A).ro 4 [1,0,3,2] rfl
 refine iB.iO (fi:= #[Pb t]) (ca:= #[]) (λy=>by simp) (τ:=fG) (ρ:=gM) (cx:=cx) (An:=sN) (yl:=Dj) mixed bN bN Zp cS (OX X)
  (λk=>cG (∀x∈xs.take k,(x:Int)<b) (wJ i j n a b xs k)) (λk=>cG ((∀x∈xs.take k,(x:Int)<b)/\∀y,xs[k]?=some y->b<=(y:Int)) (wJ i j n a b xs k)) ?_ I ?_ ?_
 ·intro l r L' k x W R u D hx J O U;obtain⟨y,Y,rfl⟩:∃y:Nat,xs[k]?=some y/\x=Iv (y:Nat):=by
   rw[Q,eC]at hx;cases hk:xs[k]? with
   |none=>rw[hk]at hx;cases hx
   |some y=>rw[hk]at hx;exact⟨y,rfl,(cR hx).symm⟩
  have ah:=(cZ.1 Y).1;have F:xs.take (k+1)=xs.take k++[y]:=by rw[mG,Y];rfl
  refine(Zo (some ⟨t,0,none⟩) a b ⟨i,0,none⟩ ⟨j,0,none⟩ ⟨n,0,none⟩ (y:Nat) l W R).mpr ?_;unfold Nx qC qD qc;refine lk.i J u (λaf g=>?_);obtain⟨f,g⟩:=Sep.cG.1 g.swap;obtain⟨s,g⟩:=Sep.ex.1 g;obtain⟨hn,g⟩:=Sep.cG.1 g;have g:=Sep.cy.1 g;have g:Sep E (bC n [Sv s]::bw s 1 (bD (jG a (xs.take k)))::bC i [Iv a]::bC j [Iv b]::c5 l (.loop {r with state:=.busy})::L') af:=g;have back:∀ {s':Sl} {k':Nat} {o:Obj} {w:bI},s'.n=(jG a (xs.take k')).length->Sep E (c5 l o::bC n [.slice s'.p s'.n s'.c]::bw s' 1 (bD (jG a (xs.take k')))::bC i [Iv a]::bC j [Iv b]::L') w->Sep E (wJ i j n a b xs k'::c5 l o::L') w:=by
   intro s' k' o w C q;exact Sep.ex.2 ⟨s',Sep.cG.2 ⟨C,Sep.cy.2 (q.ro 5 [1,2,3,4,0] rfl)⟩⟩
  refine⟨b,g.cellAt 3 rfl 0,hs (λK=>?_) (λM=>⟨a,g.cellAt 2 rfl 0,hs (λK=>⟨s,g.cell 0,Al.i g (λq aj ab=>?_)⟩) (λV=>?_)⟩)⟩
  ·refine e3.i (g.ro 5 [4,0,1,2,3] rfl) (λag S=>U ag (Sep.swap (Sep.cG.2 ⟨⟨f,λz d=>?_⟩,back hn S⟩)));rw[Y]at d;cases d;exact K
  ·refine sR hn (by have:=aa k;omega) (ab.ro 3 [0,2,1] rfl) (λs' ak C S=>?_);refine St.i S.swap (by show 0<1;decide) (λal ad=>?_);refine e3.i (ad.ro 5 [4,0,1,2,3] rfl) (λZ B=>?_);have e:({ {r with state:=.busy} with state:=if(none:bV Code).isNone then .ready else .done,pending:=none} :Loop)=r:=by
    cases r;simp only at u D;subst u D;rfl
   rw[e]at B;have es:jG a (xs.take (k+1))=jG a (xs.take k)++[(y:Int)]:=by
    unfold jG;rw[F,tv,k3];congr 1;rw[jH,bK (by simpa using K)];rfl
   rw[<- es]at B C;refine O Z (Sep.swap (Sep.cG.2 ⟨λz d=>?_,back C B⟩));rw[F]at d;rcases gH.1 d with d|d;·exact f z d
   ·rw[ia]at d;subst d;exact M
  ·refine e3.i (g.ro 5 [4,0,1,2,3] rfl) (λZ B=>?_);have e:({ {r with state:=.busy} with state:=if(none:bV Code).isNone then .ready else .done,pending:=none} :Loop)=r:=by
    cases r;simp only at u D;subst u D;rfl
   rw[e]at B;have es:jG a (xs.take (k+1))=jG a (xs.take k):=by
    unfold jG;rw[F,tv,k3,jH,bJ (by simpa using V)];simp
   rw[<- es]at B hn;refine O Z (Sep.swap (Sep.cG.2 ⟨λz d=>?_,back hn B⟩));rw[F]at d;rcases gH.1 d with d|d;·exact f z d
   ·rw[ia]at d;subst d;exact M
 ·intro c W J;obtain⟨f,h2⟩:=Sep.cG.1 J.swap;obtain⟨s,h2⟩:=Sep.ex.1 h2;obtain⟨hn,h2⟩:=Sep.cG.1 h2;have h2:=Sep.cy.1 h2;have el:(kT T).length=xs.length:=by rw[Q,ei]
  rw[el,gf]at hn h2 f;have h2:Sep E (bC n [Sv s]::bw s 1 (bD (jG a xs))::bC i [Iv a]::bC j [Iv b]::c5 c (.deferred (some []))::cY t T::L) W:=h2;have A:=h2.ro 6 [4,0,1,5,2,3] rfl;have I:=(A.putObj (o':=.deferred none)).tail;have H:walk T a b=jG a xs:=by rw[hw];exact OY f
  refine⟨s,h2.cell 0,A.di,s,rfl,by rw[H];exact hn,?_⟩;rw[H];exact(I.ro 5 [1,2] rfl)
 ·intro c k W _ J;obtain⟨⟨f,hk⟩,h2⟩:=Sep.cG.1 J.swap;obtain⟨s,h2⟩:=Sep.ex.1 h2;obtain⟨hn,h2⟩:=Sep.cG.1 h2;have h2:=Sep.cy.1 h2;have h2:Sep E (bC n [Sv s]::bw s 1 (bD (jG a (xs.take k)))::bC i [Iv a]::bC j [Iv b]::c5 c (.deferred (some []))::cY t T::L) W:=h2;have A:=h2.ro 6 [4,0,1,5,2,3] rfl;have I:=(A.putObj (o':=.deferred none)).tail;have H:walk T a b=jG a (xs.take k):=by rw[hw];exact aIW N f hk
  refine⟨s,h2.cell 0,A.di,s,rfl,by rw[H];exact hn,?_⟩;rw[H];exact(I.ro 5 [1,2] rfl)
end Go.Mp
namespace Go.Kw
def O0{p:Nat}{e:En}:∀ {T:c2},(∀q∈T,q.1<p)->eZ T p e=T++[(p,e)]
 |[],_=>rfl
 |(q,f)::r,h=>by
  have h1:q<p:=h _ fE;unfold eZ;rw[cD,cD,O0 λx hx=>h x (fY _ hx)];rfl
def Tok.take{T:c2}(h:Tok T)(k:Nat):Tok (T.take k):=⟨h.cX.take,λq a=>h.low q (nP a)⟩
end Go.Kw
namespace Go.Mp
open Go Go.Vc Go.Sp Go.Proofs Go.Kc Go.Kv Go.Kw
variable{E:Env}{L:ct}{w W:bI}
def aGH{t:Nat}{T:c2}(o:Tok T)(h:Sep E (cY t T::L) w):Calls P BR #[Pb t] w
  (cz λv w'=>∃c:Nat,v=Pb c/\Sep E (cY c T::cY t T::L) w'):=by
 obtain⟨R,H,I,F⟩:=cY.open h;have F:=Sep.cy.2 F;have V:∀ {M:ct} {w:bI},Sep E (cy (dI 3 t R)::M) w->Sep E (cY t T::M) w:=λq=>cY.mk H I (Sep.cy.1 q);apply Z4;unfold Dl qR qb;refine Al.i F (λa ab h1=>use (OU h1) ?_);rintro _ w2 ⟨c,rfl,h2⟩;refine⟨_,rfl,Al.i h2 (λd ad f=>St.i f (by show 0<1;decide) (λN i=>⟨some ⟨t,0,none⟩,i.cellAt 2 rfl 0,?_⟩))⟩;have i:Sep E (bC d [Pb c]::cY c []::bC a [Pb t]::cy (dI 3 t R)::L) N:=i;have G:Sep E (cy [bC a [Pb t],bC d [Pb c],cY c (T.take 0)]::cy (dI 3 t R)::emp::L) N:=
  Sep.cy.2 (Sep.ro (Sep.emp.2 i) 5 [3,1,2,4,0] rfl)
 have C:kT T=(T.map λq=>Iv (q.1:Nat)):=by unfold kT;rw[tG];rfl
 refine iB.Da (fi:= #[Pb t]) (ca:= #[]) (λy=>by simp) (τ:=fG) (ρ:=gM) (cx:=cx) (An:=sO) (yl:=Dn) mixed bN bN Z6 cS (OW o H I)
  (λk=>cy [bC a [Pb t],bC d [Pb c],cY c (T.take k)]) (λ_=>cG False emp) ?_ G ?_ ?_
 ·intro l r L' k x W R' n D hx j K _;obtain⟨⟨y,e⟩,p,rfl⟩:∃q,T[k]?=some q/\x=Iv (q.1:Nat):=by
   rw[C,eC]at hx;cases hk:T[k]? with
   |none=>rw[hk]at hx;cases hx
   |some y=>rw[hk]at hx;exact⟨y,rfl,(cR hx).symm⟩
  have m:(y,e)∈T:=eI p;have s:y<65536:=(o.low _ m).1;refine(Z5 (some ⟨t,0,none⟩) ⟨a,0,none⟩ (some ⟨c,0,none⟩) ⟨d,0,none⟩ (some ⟨t,0,none⟩) (y:Nat) l W R').mpr ?_;unfold N8 qQ qb zh;refine lk.i j n (λX Q=>?_);have u:=Sep.cy.1 Q.swap;have u:Sep E (bC a [Pb t]::bC d [Pb c]::cY c (T.take k)::c5 l (.loop {r with state:=.busy})::cy (dI 3 t R)::L') X:=u;refine⟨_,u.cell 0,?_⟩;have J:=Dq (bL:=(y:Nat)) H (Sep.cy.1 (u.ro 5 [4,0,1,2,3] rfl));have O:iq R (y:Int)=some e.enc:=by unfold iq;rw[eK,dA,I y s,sW o.cX m];rfl
  rw[O]at J;refine use J ?_;rintro _ Y ⟨rfl,S⟩;have z:=Sep.cy.2 S;have z:Sep E (cy (dI 3 t R)::bC a [Pb t]::bC d [Pb c]::cY c (T.take k)::c5 l (.loop {r with state:=.busy})::L') Y:=z;refine⟨_,_,rfl,_,z.cellAt 2 rfl 0,use (DA (o.take k) s (z.ro 5 [3,0,1,2,4] rfl)) ?_⟩;rintro _ Z ⟨rfl,g⟩;have es:eZ (T.take k) y e=T.take (k+1):=by
   rw[mG,p];refine O0 λq U=>?_;have hr:=o.cX;have B:=(cZ.1 p).1;rw[<- fK k T,lG B]at hr;have f:=(jy.1 hr).2.2 q U T[k] fE;rw[dO B]at p;rw[cR p]at f;exact f
  rw[es]at g;have g:Sep E (cY c (T.take (k+1))::cy (dI 3 t R)::bC a [Pb t]::bC d [Pb c]::c5 l (.loop {r with state:=.busy})::L') Z:=g;refine⟨_,rfl,e3.i (g.ro 5 [4,2,3,0,1] rfl) (λaa A=>?_)⟩;have er:({ {r with state:=.busy} with state:=if(none:bV Code).isNone then .ready else .done,pending:=none} :Loop)=r:=by
   cases r;simp only at n D;subst n D;rfl
  rw[er]at A;exact K aa (Sep.swap (Sep.cy.2 (A.ro 5 [1,2,3,0,4] rfl)))
 ·intro b W j;have el:(kT T).length=T.length:=by rw[C,ei]
  rw[el,gf]at j;have h2:=Sep.cy.1 j.swap;have h2:Sep E (bC a [Pb t]::bC d [Pb c]::cY c T::c5 b (.deferred (some []))::cy (dI 3 t R)::emp::L) W:=h2;have f:=h2.ro 6 [3,2,4,0,1,5] rfl;have i:=(f.putObj (o':=.deferred none)).tail;refine⟨_,h2.cellAt 1 rfl 0,f.di,c,rfl,?_⟩;have G:=V (i.ro 5 [1,0] rfl);exact G.swap
 ·intro b k W _ j;exact(Sep.cG.1 j.swap).1.elim
end Go.Mp
namespace Go.Sp
open Go Go.Vc
structure jU(w:bI)(s:Sl)(l:bS):Prop where
 n:s.n=l.length
 rd:∀(i:Nat) x,l[i]?=some x->∃a,s.p=some a/\w.cell? (a.add i)=some (Iv x)
variable{E:Env}{L:ct}{w W:bI}{P:cN}
def jU.grow{s:Sl}{l:bS}(h:jU W s l)(g:Grow W w):jU w s l:=⟨h.n,λi x hx=>let ⟨a,h1,h2⟩:=h.rd i x hx;⟨a,h1,g.cell h2⟩⟩
def jU.el{s:Sl}{l:bS}{i:Int}{F:Int->Prop}(h:jU w s l)(k:Nat)(d:i=k){x:Int}(hx:l[k]?=some x)(f:F x):cK s.p s.n i 1 λa=>∃v:Int,w.cell? a=some (Iv v)/\F v:=by
 have c:=(cZ.1 hx).1;obtain⟨a,hp,b⟩:=h.rd k x hx;have:=h.n;refine⟨a,hp,⟨bu,bu⟩,x,?_,f⟩;have e:i.toNat=k:=by omega
 rw[e,fR];exact b
def jU.row{s:Sl}{l:bS}{q:Nat}(h:Sep E L w)(c:L[q]?=some (bw s 1 (bD l)))(hn:s.n=l.length):jU w s l:=by
 refine⟨hn,λi x hx=>?_⟩;have a:=(cZ.1 hx).1;have h1:=h.fr q c;obtain⟨b,spare,hp,d,e,f,h2⟩:=bw.im h1 bu;refine⟨_,hp,?_⟩;rw[cf,fx,bw.cell h2 (by rw[YD];exact a),x3,hx];rfl
def oP{g:bE}{args:cb bE}{K:bf9}{R:Ending->bf8}(h:e1 P g args w (cz K))(k:∀v w',K v w'->R (.returned v) w'):e1 P g args w R:=by
 obtain⟨f,ca,b,ho,a⟩:=h;exact⟨f,ca,b,ho,a.mono λe w' he=>by obtain⟨v,rfl,c⟩:=he;exact k v w' c⟩
end Go.Sp
namespace Go.Mp
open Go Go.Vc Go.Sp Go.Proofs Go.Kt
variable{E:Env}{L:ct}{w W:bI}
def DB{s:Sl}{l:bS}(b:jU w s l)(hb:l.length<4611686018427387904)(v:Int):Calls P py #[Sv s,Iv v] w (cz λr w'=>r=.bool (l.contains v)/\w'=w):=by
 apply C0;unfold xZ qQ;have key:Calls P uK #[Sv s,Iv v] w (cz λr w'=>(∃x:Int,r=Iv x/\decide (x≥0)=l.contains v)/\w'=w):=by
  apply C6;unfold x0 qD qO qW;have hn:=b.n;refine⟨λi w'=>w'=w/\∃k:Nat,i=k/\k<=l.length/\(l.take k).contains v=false,λi _=>(l.length-i).toNat,⟨rfl,0,rfl,fj _,by simp⟩,?_⟩;rintro _ i d ⟨rfl,k,rfl,hk,a⟩;refine cU (λg=>?_) (λf=>?_)
  ·obtain⟨x,hx⟩:∃x,l[k]?=some x:=⟨_,dP⟩
   refine b.el k rfl hx ?_;refine eQ (λe=>?_) (λc=>?_)
   ·subst e;refine⟨⟨_,rfl,?_⟩,rfl⟩;rw[dF bu];exact(kZ.2 (eI hx)).symm
   ·refine⟨⟨rfl,k+1,dc,bu,?_⟩,by rw[dc];dsimp only;omega⟩;rw[fL hx,List.contains_eq_any_beq,Gh,<- List.contains_eq_any_beq,a];simpa using c
  ·refine⟨⟨_,rfl,?_⟩,rfl⟩;have:k=l.length:=by omega
   subst this;rw[gf]at a;rw[a];rfl
 refine use key ?_;rintro _ d ⟨⟨x,rfl,hx⟩,rfl⟩;refine⟨x,rfl,?_,rfl⟩;rw[hx]
def O1{b:Nat}{l:bA G}{A:Asn}{is:bE}{isB:Nat->Bool}(hw:WF l)(o:∀i x,l[i]?=some x->∀L w,Sep E (dT b l::A::L) w->e1 P is #[Iv (i:Nat)] w (cW E (.bool (isB i)) (dT b l::A::L)))(h:Sep E (dT b l::A::L) w):Calls P B7 #[Pb b,is] w (cz λv w'=>∃s:Sl,v=Sv s/\s.n=(nS l isB).length/\Sep E (bw s 1 (bD (nS l isB))::dT b l::A::L) w'):=by
 apply WR;unfold Lm qC qK qW qf qh qy;obtain⟨C,I,t⟩:=dT.get h;refine⟨_,rfl,C,t.cell 0,?_⟩;let part:Nat->bS:=λk=>((List.range k).filter λi:Nat=>ds l (i:Int)&&isB i).map Int.ofNat;have z:=hw.fk;have r:∀k,k<=l.length->(part k).length<=64:=λk hk=>by
  have:=l2 (λi:Nat=>ds l (i:Int)&&isB i) (List.range k);simp only[part,ei];rw[F8]at this;omega
 refine⟨λs i w'=>∃k:Nat,i=k/\k<=l.length/\s.n=(part k).length/\Sep E (bw s 1 (bD (part k))::dT b l::A::L) w',λ_ i _=>(l.length-i).toNat,⟨0,rfl,fj _,rfl,bw.none_ h⟩,?_⟩;rintro _ s i D ⟨k,rfl,hk,hn,h1⟩;have j:part (k+1)=part k++(if(ds l (k:Int)&&isB k)=true then[Int.ofNat k]else[]):=by
  simp only[part];rw[List.range_succ,tv,k3];congr 1;rw[jH];split<;>rfl
 refine cU (λH=>?_) (λF=>?_)
 ·have a:k<l.length:=by omega
  obtain⟨x,hx⟩:∃x,l[k]?=some x:=⟨_,dO a⟩
  have c:ds l (k:Int)=x.live:=by unfold ds;rw[dA,hx,dF bu];rfl
  refine⟨λy w'=>y=(ds l (k:Int)&&isB k)/\Sep E (bw s 1 (bD (part k))::dT b l::A::L) w',?_,?_⟩
  ·obtain⟨s1,p,h2⟩:=dT.get (h1.fr 1 rfl);refine⟨_,rfl,s1,h2.cell 0,sQ 1 h2 rfl p rfl hx (λJ _ u=>⟨x.live,?_,?_⟩)⟩;·rw[cf];exact u 1 bN
   ·refine cv (λd=>?_) (λd=>?_)
    ·refine oP (o k x hx (bw s 1 (bD (part k))::L) D (h1.ro 3 [1,2,0] rfl)) ?_;rintro _ w2 ⟨rfl,m⟩;refine⟨_,rfl,?_,m.ro 3 [2,0,1] rfl⟩;rw[c,d];rfl
    ·refine⟨?_,h1⟩;rw[c,d];rfl
  ·rintro _ y w2 ⟨f,h2⟩;refine cv (λB=>?_) (λhf=>?_)
   ·rw[B]at f;refine Al.i h2 (λq K m=>?_);refine sR hn (by have:=r k hk;omega) m (λs' M g n=>?_);have e:part (k+1)=part k++[(k:Int)]:=by rw[j,bK f.symm];rfl
    rw[<- e]at g n;exact⟨⟨k+1,dc,a,g,n⟩,by rw[dc];dsimp only;omega⟩
   ·rw[hf]at f;have e:part (k+1)=part k:=by rw[j,bJ (by rw[<- f];decide),hv]
    rw[<- e]at hn h2;exact⟨⟨k+1,dc,a,hn,h2⟩,by rw[dc];dsimp only;omega⟩
 ·have:k=l.length:=by omega
  subst this;exact⟨s,rfl,hn,h1⟩
def u3{b:Nat}{l:bA G}{g:Int}(hw:WF l)(h:Sep E (dT b l::L) w):Calls P so #[Pb b,Iv g] w (cz λv w'=>∃s:Sl,v=Sv s/\s.n=(ic l g).length/\
  Sep E (bw s 1 (bD (ic l g))::dT b l::L) w'):=by
 apply V8;unfold KL qC qD qF qJ qb;refine Al.i h (λj r h1=>Al.i h1 (λk w2 h2=>?_));refine⟨_,h2.cellAt 1 rfl 0,_,h2.cell 0,?_⟩;refine use (kC (q:=2) h2 rfl) ?_;rintro _ p ⟨rfl,rfl⟩;refine⟨_,rfl,cv (λf=>?_) (λf=>?_)⟩
 ·have:ds l g=false:=by simpa using f
  have e:ic l g= []:=by unfold ic;rw[this];rfl
  rw[e];exact⟨⟨none,0,0⟩,rfl,rfl,bw.none_ (h2.ro 3 [2] rfl)⟩
 ·have hl:ds l g=true:=by simpa using f
  refine⟨_,h2.cellAt 1 rfl 0,?_⟩;have n:Sep E (dT b l::star (bC j [Pb b]) (bC k [Iv g])::L) p:=(Sep.star.2 (h2.ro 3 [1,0,2] rfl)).swap;refine use (O1 (isB:=λi=>(dk l i).contains g) hw ?_ n) ?_
  ·intro i x hx L' m a;refine⟨B8,_,rfl,by kernel_rfl,?_⟩;show Calls P B8 #[Iv (i:Nat),Pb j,Pb k] m _;apply WS;unfold Ln qD qF qJ qb zG;have o:Sep E (bC j [Pb b]::bC k [Iv g]::dT b l::L') m:=Sep.star.1 a.swap;refine Dr.i o (λt c=>?_);refine⟨_,c.cell 0,_,c.cellAt 1 rfl 0,?_⟩;refine use (sS hw (c.fr 2 rfl)) ?_;rintro _ u ⟨s,rfl,hn,d⟩;refine⟨s,rfl,_,d.cellAt 3 rfl 0,rfl,?_⟩;refine use (DB (jU.row (q:=0) d rfl hn) (by have:=pG hw i;omega) g) ?_;rintro _ y ⟨rfl,rfl⟩;refine⟨_,rfl,rfl,?_⟩;exact(Sep.star.2 (d.ro 4 [2,3,1] rfl)).swap
  ·rintro _ m ⟨s,rfl,hn,a⟩;have e:ic l g=nS l (λi=>(dk l i).contains g):=by unfold ic;rw[bK hl]
   rw[e];exact⟨s,rfl,s,rfl,hn,a.ro 3 [0,1] rfl⟩
def aJr{b:Nat}{l:bA G}{g:Int}(hw:WF l)(h:Sep E (dT b l::L) w):Calls P IU #[Pb b,Iv g] w (cz λv w'=>∃s:Sl,v=Sv s/\s.n=(kk l g).length/\
  Sep E (bw s 1 (bD (kk l g))::dT b l::L) w'):=by
 apply WG;unfold Lc qC qD qF qJ qb;refine Al.i h (λf y h1=>Al.i h1 (λj w2 h2=>?_));refine⟨_,h2.cellAt 1 rfl 0,_,h2.cell 0,?_⟩;refine use (kC (q:=2) h2 rfl) ?_;rintro _ t ⟨rfl,rfl⟩;refine⟨_,rfl,cv (λd=>?_) (λd=>?_)⟩
 ·have:ds l g=false:=by simpa using d
  have e:kk l g= []:=by unfold kk;rw[this];rfl
  rw[e];exact⟨⟨none,0,0⟩,rfl,rfl,bw.none_ (h2.ro 3 [2] rfl)⟩
 ·have hl:ds l g=true:=by simpa using d
  refine⟨_,h2.cellAt 1 rfl 0,?_⟩;have o:Sep E (dT b l::star (bC f [Pb b]) (bC j [Iv g])::L) t:=(Sep.star.2 (h2.ro 3 [1,0,2] rfl)).swap;refine use (O1 (isB:=λi=>((l[i]?).map G.up).getD (-1)==g) hw ?_ o) ?_
  ·intro i x hx L' k c;refine⟨Cp,_,rfl,by kernel_rfl,?_⟩;show Calls P Cp #[Iv (i:Nat),Pb f,Pb j] k _;apply Xo;unfold LP qD qK qL qW qb;have p:Sep E (bC f [Pb b]::bC j [Iv g]::dT b l::L') k:=Sep.star.1 c.swap;refine Dr.i p (λz a=>?_);obtain⟨s1,n,m⟩:=dT.get (a.fr 2 rfl);refine⟨_,a.cell 0,⟨_,rfl,s1,m.cell 0,sQ 1 m rfl n rfl hx (λu _ r=>⟨x.up,?_,_,a.cellAt 1 rfl 0,?_,?_⟩)⟩⟩;·rw[cf];exact r 0 bN
   ·rw[hx];rfl
   ·exact(Sep.star.2 a).swap
  ·rintro _ k ⟨s,rfl,hn,c⟩;have e:kk l g=nS l (λi=>((l[i]?).map G.up).getD (-1)==g):=by unfold kk;rw[bK hl]
   rw[e];exact⟨s,rfl,s,rfl,hn,c.ro 3 [0,1] rfl⟩
def O2:hi P U4=some (16,2,[Iv 0,.bool false]):=by kernel_rfl
def DC{b:Nat}{l:bA G}{p:Int}(hw:WF l)(h:Sep E (dT b l::L) w):Calls P Iy #[Pb b,Iv p] w (cW E (.tuple #[Iv (gh l p).2.1,Iv (gh l p).2.2]) (dT b (gh l p).1::L)):=by
 apply VY;unfold KD qF qK qQ;have x:=hw.fk;refine use (kC (q:=0) h rfl) ?_;rintro _ D ⟨rfl,rfl⟩;refine⟨_,rfl,cv (λj=>?_) (λj=>?_)⟩
 ·have:ds l p=false:=by simpa using j
  unfold gh;rw[bK this];exact⟨rfl,h⟩
 have hl:¬ ds l p=false:=by simpa using j
 refine use (aIa hw h) ?_;rintro _ w2 ⟨rfl,h2⟩;refine⟨_,rfl,hs (λd=>?_) (λC=>?_)⟩;·unfold gh;rw[bJ hl,bK d];exact⟨rfl,h2⟩
 obtain⟨s,hn,g⟩:=dT.get h2;refine⟨_,rfl,s,g.cell 0,hs (λd=>?_) (λy=>?_)⟩;·unfold gh;rw[bJ hl,cD,eK];exact⟨rfl,h2⟩
 refine⟨_,rfl,s,g.cell 0,Al.i g (λq F k=>?_)⟩;have z:=Src.bC (n:=1) (c:=1) k (i:=0) rfl O2 rfl (λu hu=>by simp at hu;rcases hu with rfl|rfl<;>rfl);refine bw.append (k.ro 3 [2,0,1] rfl) O2 rfl z bu bu (λs' A f r=>?_);have t:Sep E (bC b [Sv s]::bw s' 2 (bQ G.vs (l++[⟨p,true⟩]))::L) A:=by
  have e:bQ G.vs (l++[⟨p,true⟩])=bQ G.vs l++[Iv p,.bool true]:=by rw[m6,oM];rfl
  rw[e];exact r.ro 3 [2,0] rfl
 refine⟨_,rfl,St.i t (by show 0<1;decide) (λB a=>?_)⟩;have a:Sep E (bC b [.slice s'.p s'.n s'.c]::bw s' 2 (bQ G.vs (l++[⟨p,true⟩]))::L) B:=a;refine⟨_,rfl,s',a.cell 0,?_⟩;have m:gh l p=(l++[⟨p,true⟩],(l.length:Int),0):=by unfold gh;rw[bJ hl,cD,cD]
 rw[m];refine⟨?_,dT.mk (by rw[f,hn];simp) a⟩;have o:i64.wrap (((s'.n:Nat):Int)-1)=(l.length:Int):=by rw[f,hn,cP bu bu];omega
 rw[o]
def nH{b:Nat}{l:bA G}{g:Int}(hw:WF l)(h:Sep E (dT b l::L) w):Calls P IA #[Pb b,Iv g] w (cW E (Iv (iX l g).2) (dT b (iX l g).1::L)):=by
 apply V2;unfold KF qF qJ qK qW;refine eQ (λa=>?_) (λa=>?_);·unfold iX;rw[bK a];exact⟨rfl,h⟩
 refine use (kC (q:=0) h rfl) ?_;rintro _ y ⟨rfl,rfl⟩;refine⟨_,rfl,cv (λi=>?_) (λi=>?_)⟩
 ·have:ds l g=false:=by simpa using i
  unfold iX;rw[bJ a,bK this];exact⟨rfl,h⟩
 have hl:ds l g=true:=by simpa using i
 have c:¬ ds l g=false:=by rw[hl];decide
 refine use (aJr hw h) ?_;rintro _ w2 ⟨s,rfl,hn,h2⟩;refine⟨s,rfl,fZ (λr=>?_) (λhle=>?_)⟩
 ·have:kk l g≠ []:=λe=>by rw[e]at hn;simp at hn;omega
  unfold iX;rw[bJ a,bJ c,bK this];exact⟨rfl,h2.tail⟩
 have hk:¬ kk l g≠ []:=λk=>k (tn bu);obtain⟨n,rfl,x,hx,t⟩:=iW.1 hl;obtain⟨s1,d,f⟩:=dT.get h2.tail;have m:iX l (n:Int)=(l.set n ⟨x.up,false⟩,0):=by
  unfold iX;rw[bJ a,bJ c,bJ hk,dA,hx];rfl
 rw[m];refine⟨_,rfl,s1,f.cell 0,sQ 1 f rfl d rfl hx (λu j _=>?_)⟩;have o:=f.swap;rw[cf];refine sJ G.kS (a':=⟨x.up,false⟩) o j hx bN rfl (λz p=>⟨rfl,dT.mk ?_ p.swap⟩);rw[dW];exact d
end Go.Mp
namespace Go.Kw
def Rg.vs(x:Rg):bA bE:=[Iv x.a,Iv x.b,Iv x.kind,Iv x.file,Iv x.idx,.bool x.wr]
def Rg.sX(x:Rg):x.vs.length=6:=rfl
def O3:∀ {l:bA Rg} {a:Int},e8 a l=true->0<=a->l= []\/a+l.length<=65536
 |[],_,_,_=>.inl rfl
 |x::r,a,h,d=>by
  right;simp only[e8,dy,gw,Rg.valid]at h;obtain⟨⟨⟨h1,_⟩,h2⟩,b⟩:=h;rcases O3 b (bu)with rfl|c;·simp;omega
  ·simp;omega
def yc{l:bA Rg}(h:e8 0 l=true):l.length<=65536:=by
 rcases O3 h (g2 0)with rfl|a;·simp
 ·omega
def yd:∀ {l:bA Rg} {a:Int},e8 a l=true->∀x∈l,x.valid=true
 |x::r,a,h,y,b=>by
  simp only[e8,dy]at h;rcases ew.1 b with rfl|b;·exact h.1.1
  ·exact yd h.2 y b
def DD(q:Rg->Bool):∀l:bA Rg,fN q l<=l.length
 |[]=>ek _
 |x::r=>by unfold fN;have:=DD q r;split<;>simp;omega
def DE{q:Rg->Bool}:∀ {l:bA Rg} {k:Nat} {x:Rg},l[k]?=some x->q x=true->(∀j y,j<k->l[j]?=some y->q y=false)->fN q l=k
 |y::r,0,x,h,b,_=>by simp at h;subst h;unfold fN;rw[bK b]
 |y::r,k+1,x,h,b,a=>by
  unfold fN;rw[bJ (by rw[a 0 y bu rfl];decide),DE (l:=r) (k:=k) (by simpa using h) b λj z d c=>a (j+1) z bu (by simpa using c)]
def O4{q:Rg->Bool}:∀ {l:bA Rg},(∀(j:Nat) y,l[j]?=some y->q y=false)->fN q l=l.length
 |[],_=>rfl
 |y::r,h=>by
  unfold fN;rw[bJ (by rw[h 0 y rfl];decide),O4 (l:=r) λj z a=>h (j+1) z (by simpa using a)];rfl
def ye{q:Rg->Bool}:∀ {l:bA Rg} {x:Rg},l[fN q l]?=some x->q x=true
 |y::r,x,h=>by
  unfold fN at h;split at h;·next a=>simp at h;subst h;exact a
  ·exact ye (l:=r) (by simpa using h)
end Go.Kw
namespace Go.Mp
open Go Go.Vc Go.Sp Go.Proofs Go.Kc Go.Kv Go.Kw
variable{E:Env}{L:ct}{w W:bI}
def cO(s:Sl)(l:bA Rg):Asn:=bw s 6 (bQ Rg.vs l)
def gB{b i:Nat}{x:Rg}{F:Int->Int->Int->Int->Int->Bool->Prop}(h:Sep E L w)(a:L[i]?=some (bC b x.vs))(k:F x.a x.b x.kind x.file x.idx x.wr):
  ∃c:Int,w.cell? ((⟨b,0,none⟩:Addr).add 0)=some (Iv c)/\∃d:Int,w.cell? ((⟨b,0,none⟩:Addr).add 1)=some (Iv d)/\∃e:Int,w.cell? ((⟨b,0,none⟩:Addr).add 2)=some (Iv e)/\∃f:Int,w.cell? ((⟨b,0,none⟩:Addr).add 3)=some (Iv f)/\∃g:Int,w.cell? ((⟨b,0,none⟩:Addr).add 4)=some (Iv g)/\∃j:Bool,w.cell? ((⟨b,0,none⟩:Addr).add 5)=some (.bool j)/\F c d e f g j:=
 ld h i rfl a rfl (ld h i rfl a rfl (ld h i rfl a rfl (ld h i rfl a rfl (ld h i rfl a rfl (ld h i rfl a rfl k)))))
def oQ{s:Sl}{l:bA Rg}{i:Int}{k:Nat}{x:Rg}{F:Addr->Int->Int->Int->Int->Int->Bool->Prop}(q:Nat)(h:Sep E L w)(o:L[q]?=some (cO s l))(hn:s.n=l.length)(n:i=k)(hx:l[k]?=some x)(p:∀a,F a x.a x.b x.kind x.file x.idx x.wr):
  cK s.p s.n i 6 λa=>∃d:Int,w.cell? (a.add 0)=some (Iv d)/\∃e:Int,w.cell? (a.add 1)=some (Iv e)/\∃f:Int,w.cell? (a.add 2)=some (Iv f)/\∃g:Int,w.cell? (a.add 3)=some (Iv g)/\∃j:Int,w.cell? (a.add 4)=some (Iv j)/\∃m:Bool,w.cell? (a.add 5)=some (.bool m)/\F a d e f g j m:=
 lV Rg.sX q h o hn n hx (λb _ c=>⟨_,by rw[cf];exact c 0 _ rfl,_,by rw[cf];exact c 1 _ rfl,_,by rw[cf];exact c 2 _ rfl,_,by rw[cf];exact c 3 _ rfl,_,by rw[cf];exact c 4 _ rfl,_,by rw[cf];exact c 5 _ rfl,p _⟩)
def O5(x:Rg)(h:Sep E L w):Calls P Cc #[.agg x.vs.toArray] w (cW E (.bool x.valid) L):=by
 apply awP;unfold NT qL qg zY;refine Al.i h (λp d h1=>?_);have h1:Sep E (bC p x.vs::L) d:=h1;have bad:¬ (0<=x.a/\x.a<x.b/\x.b<=65536)->x.valid=false:=λa=>by unfold Rg.valid;rw[dg a];rfl
 refine⟨λw'=>(0<=x.a/\x.a<x.b/\x.b<=65536)/\w'=d,ld h1 0 rfl rfl rfl (cU (λa=>⟨by rw[bad bu],h1.tail⟩) (λh2=>ld h1 0 rfl rfl rfl (ld h1 0 rfl rfl rfl (h6 (λa=>⟨by rw[bad bu],h1.tail⟩) (λf=>ld h1 0 rfl rfl rfl (fZ (λa=>⟨by rw[bad bu],h1.tail⟩) (λg=>⟨⟨h2,f,g⟩,rfl⟩))))))),?_⟩;rintro _ _ ⟨ho,rfl⟩;have i:x.valid=(if x.kind=1 then decide (x.file=0/\x.idx=0)else if x.kind=2 then decide (0<=x.file/\x.file<=1048576/\0<=x.idx/\x.idx<=2097152-(x.b-x.a))else false):=by unfold Rg.valid;rw[dF ho,l5]
 rw[i];refine ld h1 0 rfl rfl rfl (eQ (λhk=>?_) (λhk=>eQ (λb=>?_) (λb=>?_)))
 ·rw[bK hk];refine ld h1 0 rfl rfl rfl (eQ (λhf=>ld h1 0 rfl rfl rfl ⟨?_,h1.tail⟩) (λhf=>⟨?_,h1.tail⟩))
  ·congr 1;by_cases c:x.idx=0;·rw[dF ⟨hf,c⟩,c];rfl
   ·rw[dg λe=>c e.2];exact beq_false_of_ne c
  ·rw[dg λe=>hf e.1]
 ·rw[bJ hk,bK b];refine ld h1 0 rfl rfl rfl (h6 (λf1=>ld h1 0 rfl rfl rfl (h6 (λf2=>ld h1 0 rfl rfl rfl (h6 (λf3=>ld h1 0 rfl rfl rfl (ld h1 0 rfl rfl rfl (ld h1 0 rfl rfl rfl ⟨?_,h1.tail⟩))) (λa=>⟨?_,h1.tail⟩))) (λa=>⟨?_,h1.tail⟩))) (λa=>⟨?_,h1.tail⟩))
  ·rw[cP (n:=x.b-x.a) bu bu,cP bu bu];exact eJ Value.bool (tB.2 ⟨λe=>⟨f1,f2,f3,e⟩,λe=>e.2.2.2⟩)
  ·rw[dg λe=>bu]
  ·rw[dg λe=>bu]
  ·rw[dg λe=>bu]
 ·rw[bJ hk,bJ b];exact⟨rfl,h1.tail⟩
def DF{s:Sl}{l:bA Rg}(hn:s.n=l.length)(hb:l.length<1000000)(h:Sep E (cO s l::L) w):Calls P xI #[Sv s] w (cW E (.bool (e8 0 l)) (cO s l::L)):=by
 apply awO;unfold NS qF qI qL qU qW zR zg;refine⟨λa i w'=>∃k:Nat,i=k/\k<=l.length/\e8 a (l.drop k)=e8 0 l/\Sep E (cO s l::L) w',λ_ i _=>(l.length-i).toNat,⟨0,rfl,fj _,rfl,h⟩,?_⟩;rintro _ a _ o ⟨k,rfl,hk,hr,h1⟩;refine cU (λn=>?_) (λm=>?_)
 ·obtain⟨x,hx⟩:∃x,l[k]?=some x:=⟨_,dP⟩
  have f:l.drop k=x::l.drop (k+1):=by
   have e:=(cZ.1 hx).1;rw[lG e];rw[dO e]at hx;rw[cR hx]
  rw[f]at hr;simp only[e8]at hr;refine oQ 0 h1 rfl hn rfl hx (λ_=>Al.i h1 (λp w2 h2=>et _ h2 rfl (λj d=>?_)));have d:Sep E (bC p x.vs::cO s l::L) j:=d;refine gB d (i:=0) rfl (use (O5 x d) ?_);rintro _ q ⟨rfl,c⟩;refine⟨_,rfl,cv (λb=>?_) (λb=>ld c 0 rfl rfl rfl (cU (λg=>?_) (λg=>ld c 0 rfl rfl rfl ⟨⟨k+1,dc,bu,?_,c.tail⟩,?_⟩)))⟩
  ·have b:x.valid=false:=by simpa using b
   rw[b]at hr;exact⟨by rw[<- hr];rfl,c.tail⟩
  ·rw[dg bu,rJ,wg]at hr;exact⟨by rw[<- hr],c.tail⟩
  ·have b:x.valid=true:=by simpa using b
   rw[b,dF bu]at hr;exact hr
  ·rw[dc];dsimp only;omega
 ·have:k=l.length:=by omega
  subst this;rw[wc]at hr;exact⟨by rw[<- hr];rfl,h1⟩
def O6{s:Sl}{l:bA Rg}{f:bE}{q:Rg->Bool}{A:Asn}(m:∀x w,Sep E (A::cO s l::L) w->e1 P f #[.agg x.vs.toArray] w (cW E (.bool (q x)) (A::cO s l::L)))(hn:s.n=l.length)(hb:l.length<1000000)(h:Sep E (A::cO s l::L) w):
  Calls P Cd #[Sv s,f] w (cW E (Iv (if fN q l<l.length then(fN q l:Int)else -1)) (A::cO s l::L)):=by
 apply W8;unfold Lv qO qW zR;refine⟨λi w'=>∃k:Nat,i=k/\k<=l.length/\(∀j y,j<k->l[j]?=some y->q y=false)/\Sep E (A::cO s l::L) w',λi _=>(l.length-i).toNat,⟨0,rfl,fj _,λj y d=>absurd d bu,h⟩,?_⟩;rintro _ _ n ⟨k,rfl,hk,a,h1⟩;refine cU (λp=>?_) (λo=>?_)
 ·obtain⟨x,hx⟩:∃x,l[k]?=some x:=⟨_,dP⟩
  refine oQ 1 h1 rfl hn rfl hx (λ_=>oP (m x n h1) ?_);rintro _ w2 ⟨rfl,h2⟩;refine⟨_,rfl,cv (λc=>⟨?_,h2⟩) (λc=>⟨⟨k+1,dc,bu,λj y d b=>?_,h2⟩,?_⟩)⟩;·rw[DE hx c a,eK]
  ·rcases hN j k with e|e;·exact a j y e b
   ·have:j=k:=by omega
    subst this;rw[hx]at b;cases b;exact c
  ·rw[dc];dsimp only;omega
 ·have g:k=l.length:=by omega
  subst g;refine⟨?_,h1⟩;rw[O4 λj y b=>a j y (cZ.1 b).1 b,cD]
end Go.Mp
namespace Go.Sp
open Go Go.Vc
variable{E:Env}{L:ct}{w:bI}{P:cN}{s:Sl}{m:Nat}{vs:bA bE}
def aJU{n c:Nat}(a:c<n):Builtin.nextslicecap n c<=4*n:=by
 unfold Builtin.nextslicecap;split;·omega
 ·split;·omega
  ·have go:∀r c,c<=n+(n+768)/4->Builtin.growBy n r c<=n+(n+768)/4:=by
    intro r;induction r with
    |zero=>intro c a;exact a
    |succ r b=>
     intro c a;unfold Builtin.growBy;split;·exact a
     ·exact b _ bu
   have:=go 4 c bu;omega
def bw.pre{x:bE}{k j:Nat}{news:bA bE}{st D ty:cc}{c9:Nat}{zs:bA bE}(h:Sep E (bw s m vs::L) w)(A:hi P st=some (c9,m,zs))(B:zs.length=m)(r:Src P m D x j news w)(y:0<j)(hk:k<=s.n)(q:4*(k+j)*c9<=281474976710656)(N:k+j<4611686018427387904){G:Sl->bf8}(g:∀s' d,s'.n=k+j->Sep E (bw s' m (vs.take (k*m)++news)::bw s m vs::L) d->G s' d):
  ∃C:Sl,∃d,Sem.run P (Builtin.append_ #[st,D] ty #[.slice (gi s.p 0 k m) (k-0) (k-0),x]) w=.ok (Sv C) d/\G C d:=by
 have l:=r.newsLen;have f:∀c,c<k+j->Builtin.nextslicecap (k+j) c*c9<=281474976710656:=λc K=>mK (k1 _ (aJU K)) q;rw[Gr];have F:=h;unfold bw at h;split at h
 ·next hp=>
  obtain⟨⟨h1,h2,u⟩,h⟩:=Sep.cG.1 h;have z:k=0:=by omega
  subst z;have e:gi s.p 0 0 m=none:=by unfold gi;rw[bK rfl,hp]
  rw[e];rw[fx]at g f;refine jA.i F A r y bu (f 0 y) (λt c' d i n=>g _ d rfl ?_);rw[ou,wi,lJ];refine bw.make (spare:=(Builtin.zeroCells zs.toArray (c'-j)).toList) n l ?_ i;rw[sF];simp only[l,F7,B,<- kj];congr 1;omega
 ·next a p=>
  obtain⟨spare,h⟩:=Sep.ex.1 h;obtain⟨⟨h1,h2,u,n,H⟩,h⟩:=Sep.cG.1 h;obtain⟨b,o,sp⟩:=a;simp only at h1 h2;subst h1 h2;have e:gi s.p 0 k m=some ⟨b,0,none⟩:=by
   unfold gi;split;·exact p
   ·rw[p];show some (Addr.add ⟨b,0,none⟩ (0*m))=_;rw[cf,ou]
  rw[e];have O:k*m<=s.n*m:=k1 _ hk;refine append.i h A r (by simp;omega) (λM=>bu) bu (f _) (λM=>bu) (λ_ t c' d i v=>g _ d rfl ?_);have e:((vs++spare).drop 0).take (k*m)=vs.take (k*m):=by rw[rI,rC bu]
  rw[e]at v;have I:Sep E (bC t (vs.take (k*m)++news++(Builtin.zeroCells zs.toArray (c'-(k+j))).toList)::bw s m vs::L) d:=by
   refine Sep.swap ?_;unfold bw;rw[p];exact Sep.ex.2 ⟨spare,Sep.cG.2 ⟨⟨rfl,rfl,u,n,H⟩,v.swap⟩⟩
  have Q:(k+j)*m=k*m+j*m:=kj _ _ _;refine bw.make (spare:=(Builtin.zeroCells zs.toArray (c'-(k+j))).toList) I (by simp;omega) ?_ i;rw[sF];have J:(vs.take (k*m)++news).length=(k+j)*m:=by simp;omega
  rw[J,F7,B,<- kj];congr 1;omega
end Go.Sp
namespace Go.Mp
open Go Go.Vc Go.Sp Go.Proofs Go.Kc Go.Kv Go.Kw
variable{E:Env}{L:ct}{w W:bI}
def pH:hi P U5=some (48,6,[Iv 0,Iv 0,Iv 0,Iv 0,Iv 0,.bool false]):=by kernel_rfl
def DG(x:Rg):∀u∈x.vs,u.oneCell'=true:=by
 intro u hu;simp only[Rg.vs,ew,tC,tI]at hu;rcases hu with rfl|rfl|rfl|rfl|rfl|rfl<;>rfl
def O7(l:bA Rg):∀u∈bQ Rg.vs l,u.oneCell'=true:=by
 intro u hu;obtain⟨c,a,hu⟩:=List.mem_flatten.1 hu;obtain⟨x,_,rfl⟩:=fA.1 a;exact DG x u hu
def aJz{s:Sl}{l:bA Rg}(x:Rg)(hn:s.n=l.length)(hb:l.length<1000000)(h:Sep E (cO s l::L) w):
  Calls P IG #[Sv s,.agg x.vs.toArray] w (cz λv w'=>∃s':Sl,v=.tuple #[.slice s'.p s'.n s'.c,Iv (eB l x).2]/\
   (((eB l x).2≠0/\(eB l x).1=l/\Sep E (cO s l::L) w')\/((eB l x).2=0/\s'.n=(eB l x).1.length/\Sep E (cO s' (eB l x).1::L) w'))):=by
 obtain⟨n,k⟩:∃n,fN (λy=>decide (x.a<y.b)) l=n:=⟨_,rfl⟩
 have V:n<=l.length:=by rw[<- k];exact DD _ _
 obtain⟨K,hK⟩:∃K:bf9,K= λv w'=>∃s':Sl,v=.tuple #[.slice s'.p s'.n s'.c,Iv (eB l x).2]/\
   (((eB l x).2≠0/\(eB l x).1=l/\Sep E (cO s l::L) w')\/((eB l x).2=0/\s'.n=(eB l x).1.length/\Sep E (cO s' (eB l x).1::L) w')):=⟨_,rfl⟩
 rw[<- hK];have bad:∀w',(e8 0 l=false\/x.valid=false\/64<=l.length)->Sep E (cO s l::L) w'->K (.tuple #[aN8,Iv 1]) w':=by
  intro w' j q;have e:eB l x=(l,1):=by unfold eB;rw[bK j]
  rw[hK,e];exact⟨⟨none,0,0⟩,rfl,.inl ⟨by show(1:Int)≠0;decide,rfl,q⟩⟩
 apply ZQ;unfold NC q9 qF qL qQ qW qg zR zY;refine Al.i h (λp Q h1=>?_);have h1:Sep E (bC p x.vs::cO s l::L) Q:=h1;refine⟨λw'=>(e8 0 l=true/\x.valid=true/\l.length<64)/\Sep E (bC p x.vs::cO s l::L) w',use (DF hn hb h1.swap) ?_,?_⟩
 ·rintro _ w2 ⟨rfl,h2⟩;refine⟨_,rfl,cv (λhr=>bad _ (.inl (by simpa using hr)) (h2.fr 0 rfl |>.ro 2 [0] rfl)) (λhr=>gB h2.swap (i:=0) rfl (use (O5 x h2.swap) ?_))⟩;rintro _ C ⟨rfl,d⟩;refine⟨_,rfl,cv (λm=>bad _ (.inr (.inl (by simpa using m))) d.tail) (λm=>hs (λj=>bad _ (.inr (.inr bu)) d.tail) (λj=>⟨⟨by simpa using hr,by simpa using m,bu⟩,d⟩))⟩
 rintro _ w2 ⟨⟨hr,m,O⟩,h2⟩;have a:eB l x=(match l[n]? with|some y=>if y.a<x.b then(l,4)else(l.take n++x::l.drop n,0)|none=>(l.take n++x::l.drop n,0)):=by
  unfold eB;rw[bJ (by rw[hr,m];rintro(e|e|e)<;>first|cases e|omega),k];rfl
 refine use (O6 (q:=λy=>decide (x.a<y.b)) (λy C d=>⟨_,_,rfl,by kernel_rfl,?_⟩) hn hb h2) ?_
 ·show Calls P I3 #[.agg y.vs.toArray,Pb p] C _;apply awM;unfold NU qL zY;refine Al.i d (λr M g=>?_);have g:Sep E (bC r y.vs::bC p x.vs::cO s l::L) M:=g;exact ld g 0 rfl rfl rfl (ld g 1 rfl rfl rfl ⟨rfl,g.tail⟩)
 rintro _ C ⟨rfl,d⟩;rw[k];refine⟨_,rfl,λi w'=>i=n/\Sep E (bC p x.vs::cO s l::L) w',cU (λj=>⟨?_,d⟩) (λj=>⟨?_,d⟩),?_⟩;·split at j<;>omega
 ·split at j;·next e=>rw[bK e]
  ·omega
 rintro _ _ M ⟨rfl,g⟩;refine⟨λw'=>(eB l x=(l.take n++x::l.drop n,0))/\Sep E (bC p x.vs::cO s l::L) w',Dr.i g (λR f=>cU (λU=>?_) (λT=>⟨?_,f⟩)),?_⟩
 ·obtain⟨y,I⟩:∃y,l[n]?=some y:=⟨_,dP⟩
  rw[I]at a;dsimp only at a;refine lV Rg.sX 1 f rfl hn rfl I (λb _ t=>⟨y.a,by rw[cf];exact t 0 _ rfl,?_⟩);refine ld f 0 rfl rfl rfl (cU (λt=>?_) (λt=>⟨?_,f⟩))
  ·rw[bK t]at a;rw[hK,a];exact⟨⟨none,0,0⟩,rfl,.inl ⟨by show(4:Int)≠0;decide,rfl,f.tail⟩⟩
  ·rw[cD]at a;exact a
 ·rw[gQ bu]at a;exact a
 rintro _ R ⟨A,f⟩;have N:=bw.cap f.tail;refine Dr.i f (λW D=>⟨⟨bu,bu⟩,⟨bu,bu⟩,gB D (i:=0) rfl ⟨⟨bu,bu⟩,Al.i D (λq S o=>?_)⟩⟩);have o:Sep E (bC q x.vs::bC p x.vs::cO s l::L) S:=o;rw[dA];have G:=Src.bC (n:=1) (c:=1) o (i:=0) rfl pH rfl (DG x);refine bw.pre (o.ro 3 [2,0,1] rfl) pH rfl G bu bu bu bu (λs' X u z=>?_);rw[Df Rg.sX]at z;have H:=Src.sub (l:=n) (n':=s.n-n) (c':=s.c-n) z (q:=1) rfl pH bu (O7 l);refine bw.app z pH rfl H (by rw[u];omega) (λJ Y B F=>?_);rw[YG Rg.sX,Df Rg.sX (l.drop n),iw (l:=l.drop n) (by rw[nR,hn];exact ek _)]at F;rw[hK,A];refine⟨J,rfl,.inr ⟨rfl,?_,?_⟩⟩;·rw[B,u,hn];simp;omega
 ·have e:bQ Rg.vs (l.take n++x::l.drop n)=bQ Rg.vs (l.take n)++x.vs++bQ Rg.vs (l.drop n):=by
   rw[m6];show _++bQ Rg.vs ([x]++l.drop n)=_;rw[m6,oM,dj]
  unfold cO;rw[e];exact F.ro 4 [0] rfl
end Go.Mp
namespace Go.Kw
def Rg.fits(x:Rg):Prop:=(0<=x.a/\x.a<x.b/\x.b<=65536)/\0<=x.idx/\x.idx<=2097152
def Rg.fe{x:Rg}(h:x.valid=true):x.fits:=by
 unfold Rg.valid at h;simp only[dy,gw]at h;refine⟨h.1,?_⟩;obtain⟨h1,h2⟩:=h;split at h2;·simp at h2;omega
 ·split at h2;·simp at h2;omega
  ·cases h2
end Go.Kw
namespace Go.Mp
open Go Go.Vc Go.Sp Go.Proofs Go.Kc Go.Kv Go.Kw
variable{E:Env}{L:ct}{w W:bI}
def aIp{x:Rg}{a b:Int}(hx:x.fits)(s:0<=a/\a<=131072)(h:Sep E L w):Calls P I4 #[.agg x.vs.toArray,Iv a,Iv b] w (cW E (.agg (prt x a b).vs.toArray) L):=by
 apply axV;unfold NW qL qU qg zR zY zg;refine Al.i h (λp t h1=>Al.i h1 (λq w2 h2=>?_));have h2:Sep E (bC q [Iv 0,Iv 0,Iv 0,Iv 0,Iv 0,.bool false]::bC p x.vs::L) w2:=h2;obtain⟨y,g⟩:∃y:Rg,y= {x with idx:=if x.kind=2 then x.idx+(a-x.a)else x.idx} :=⟨_,rfl⟩
 refine⟨λw'=>Sep E (bC p y.vs::bC q [Iv 0,Iv 0,Iv 0,Iv 0,Iv 0,.bool false]::L) w',ld h2 1 rfl rfl rfl (eQ (λhk=>ld h2 1 rfl rfl rfl (ld h2 1 rfl rfl rfl ?_)) (λhk=>?_)),?_⟩
 ·obtain⟨o,r⟩:=hx;rw[cP (n:=a-x.a) bu bu,cP bu bu];refine St.i h2.swap (by show 4<6;decide) (λk f=>?_);have e:(x.vs.set 4 (Iv (x.idx+(a-x.a))))=y.vs:=by rw[g];show _= [_,_,_,_,Value.int .i64 (if x.kind=2 then x.idx+(a-x.a)else x.idx),_];rw[bK hk];rfl
  exact e▸f
 ·have e:y=x:=by rw[g,bJ hk]
  rw[e];exact h2.swap
 rintro _ k f;refine St.i f (by show 0<6;decide) (λu j=>St.i j (by show 1<6;decide) (λl c=>?_));have e:((y.vs.set 0 (Iv a)).set 1 (Iv b))=(prt x a b).vs:=by rw[g];rfl
 have c:Sep E (bC p (prt x a b).vs::bC q [Iv 0,Iv 0,Iv 0,Iv 0,Iv 0,.bool false]::L) l:=e▸c;refine gB c (i:=0) rfl (et _ c.swap rfl (λm d=>?_));have d:Sep E (bC q (prt x a b).vs::bC p (prt x a b).vs::L) m:=d;exact gB d (i:=0) rfl ⟨rfl,d.tail.tail⟩
def DH{x:Rg}{a b:Int}{o:Nat}{s:Sl}{l:bA Rg}(hx:x.fits)(m:0<=a/\a<=131072)(hn:s.n=l.length)(hb:l.length<1000000)(h:Sep E (bC o [Sv s]::cO s l::L) w):
  Calls P xJ #[.agg x.vs.toArray,Iv a,Iv b,Pb o] w (cz λv w'=>v=.tuple #[]/\∃s':Sl,s'.n=(l++fF x a b).length/\Sep E (bC o [.slice s'.p s'.n s'.c]::cO s' (l++fF x a b)::L) w'):=by
 apply awN;unfold NV qc zR zY zf;refine Al.i h (λp t h1=>cU (λf=>?_) (λy=>⟨rfl,s,?_⟩))
 ·have h1:Sep E (bC p x.vs::bC o [Sv s]::cO s l::L) t:=h1;refine Dr.i h1 (λw2 h2=>⟨s,h2.cellAt 1 rfl 0,gB h2 (i:=0) rfl (use (aIp hx m h2) ?_)⟩);rintro _ z ⟨rfl,e⟩;refine⟨_,_,_,_,_,_,rfl,s,e.cellAt 1 rfl 0,rfl,Al.i e (λq u d=>⟨s,d.cellAt 2 rfl 0,rfl,?_⟩)⟩;have d:Sep E (bC q (prt x a b).vs::bC p x.vs::bC o [Sv s]::cO s l::L) u:=d;have r:=Src.bC (n:=1) (c:=1) d (i:=0) rfl pH rfl (DG (prt x a b));refine bw.append (d.ro 4 [3,0,1,2] rfl) pH rfl r bu (by rw[hn];omega) (λs' A g j=>?_);refine St.i (j.ro 4 [3,0] rfl) (by show 0<1;decide) (λB k=>⟨rfl,s',?_⟩);have hk:fF x a b= [prt x a b]:=bK f;rw[hk];refine⟨by rw[g,hn];simp,?_⟩;unfold cO;rw[m6,oM];exact k
 ·have hk:fF x a b= []:=cD;rw[hk,hv];exact⟨hn,h1.tail⟩
def aJA{s:Sl}{l:bA Rg}{a b:Int}(Q:0<=a/\a<=65536)(K:0<=b/\b<=131072)(hn:s.n=l.length)(hb:l.length<400000)(h:Sep E (cO s l::L) w):
  Calls P II #[Sv s,Iv a,Iv b] w (cz λv w'=>∃s':Sl,v=.slice s'.p s'.n s'.c/\s'.n=(gX l a b).length/\Sep E (cO s' (gX l a b)::cO s l::L) w'):=by
 apply ZS;unfold NF qE qF qO qU qW qc zR zZ zg;refine use (DF hn bu h) ?_;rintro _ S ⟨rfl,h1⟩;refine⟨_,rfl,cv (λhr=>⟨⟨none,0,0⟩,rfl,?_⟩) (λhr=>?_)⟩
 ·have hr:e8 0 l=false:=by simpa using hr
  have e:gX l a b= []:=by unfold gX;rw[hr];rfl
  rw[e];exact⟨rfl,bw.none_ h1⟩
 have hr:e8 0 l=true:=by simpa using hr
 have e:gX l a b=l.flatMap (fq a b):=by unfold gX;rw[bK hr]
 rw[e];have hlen:∀k,((l.take k).flatMap (fq a b)).length<=2*k:=by
  intro k;induction k with
  |zero=>simp
  |succ k R=>
   rw[mG,FZ,dd];have:(l[k]?.toList.flatMap (fq a b)).length<=2:=by
    cases l[k]? with
    |none=>simp
    |some x=>
     simp only[Option.toList_some,nQ,List.flatMap_nil,hv];unfold fq fF;split;·split<;>simp
     ·rw[dd];split<;>split<;>simp
   omega
 refine Al.i h1 (λo w2 h2=>⟨λi w'=>∃k:Nat,i=k/\k<=l.length/\∃s':Sl,s'.n=((l.take k).flatMap (fq a b)).length/\Sep E (bC o [.slice s'.p s'.n s'.c]::cO s' ((l.take k).flatMap (fq a b))::cO s l::L) w',λi _=>(l.length-i).toNat,
  ⟨0,rfl,fj _,⟨none,0,0⟩,rfl,(bw.none_ (m:=6) h2).swap⟩,?_⟩)
 rintro _ _ T ⟨k,rfl,hk,s',j,r⟩;refine cU (λO=>?_) (λz=>?_)
 ·obtain⟨x,hx⟩:∃x,l[k]?=some x:=⟨_,dP⟩
  have A:=Rg.fe (yd hr x (eI hx));have N:=hlen k;have c:(l.take (k+1)).flatMap (fq a b)=(l.take k).flatMap (fq a b)++fq a b x:=by rw[mG,hx,FZ];simp
  obtain⟨t,u⟩:=A;refine oQ 2 r rfl hn rfl hx (λ_=>Al.i r (λp U F=>et _ F rfl (λJ d=>?_)));have d:Sep E (bC p x.vs::bC o [.slice s'.p s'.n s'.c]::cO s' ((l.take k).flatMap (fq a b))::cO s l::L) J:=d;have g:((l.length:Int)-((k+1:Nat):Int)).toNat<((l.length:Int)-(k:Int)).toNat:=by omega
  have em:∀p q:Int,min1 p q=min p q:=λp q=>by unfold min1;split<;>omega
  have D:∀p q:Int,eE p q=max p q:=λp q=>by unfold eE;split<;>omega
  simp only[em,D];refine hs (λz=>gB d (i:=0) rfl (ld d 0 rfl rfl rfl (ld d 0 rfl rfl rfl (use (DH ⟨t,u⟩ bu j bu (d.ro 3 [1,2,0] rfl)) ?_)))) (λH=>gB d (i:=0) rfl (ld d 0 rfl rfl rfl (ld d 0 rfl rfl rfl (use (DH ⟨t,u⟩ bu j bu (d.ro 3 [1,2,0] rfl)) ?_))))
  ·rintro _ C ⟨rfl,s2,y,f⟩;have n:fq a b x=fF x x.a x.b:=bK z;refine⟨rfl,⟨k+1,dc,bu,s2,?_,?_⟩,?_⟩;·rw[c,n];exact y
   ·rw[c,n];exact f.ro 4 [0,1,3] rfl
   ·rw[dc];exact g
  ·rintro _ C ⟨rfl,s2,y,f⟩;have n:fq a b x=fF x x.a (min x.b a)++fF x (max x.a b) x.b:=cD;have M:(fF x x.a (min x.b a)).length<=1:=by unfold fF;split<;>simp
   have f:Sep E (bC o [Sv s2]::cO s2 ((l.take k).flatMap (fq a b)++fF x x.a (min x.b a))::bC p x.vs::cO s l::L) C:=f;refine⟨rfl,gB f (i:=2) rfl (ld f 2 rfl rfl rfl (ld f 2 rfl rfl rfl (use (DH ⟨t,u⟩ bu y (by rw[dd];omega) f) ?_)))⟩;rintro _ V ⟨rfl,I,B,G⟩;refine⟨rfl,⟨k+1,dc,bu,I,?_,?_⟩,?_⟩;·rw[c,n,<- dj];exact B
   ·rw[c,n,<- dj];exact G.ro 4 [0,1,3] rfl
   ·rw[dc];exact g
 ·have:k=l.length:=by omega
  subst this;rw[gf]at j r;exact⟨s',r.cell 0,s',rfl,j,r.tail⟩
def sY(o:bV Rg):bE:=match o with
 |some x=>.tuple #[.agg x.vs.toArray,.bool true]
 |none=>.tuple #[.agg (Rg.vs ⟨0,0,0,0,0,false⟩).toArray,.bool false]
def aIo{s:Sl}{l:bA Rg}{p:Int}(hn:s.n=l.length)(hb:l.length<1000000)(h:Sep E (cO s l::L) w):Calls P I5 #[Sv s,Iv p] w (cW E (sY (jP l p)) (cO s l::L)):=by
 apply axU;unfold NX qC qF qQ qU qW zR zg;refine Al.i h (λq J h1=>Al.i h1 (λr w2 h2=>?_));have h2:Sep E (bC r (Rg.vs ⟨0,0,0,0,0,false⟩)::bC q [Iv p]::cO s l::L) w2:=h2;refine use (O6 (A:=bC q [Iv p]) (L:=bC r (Rg.vs ⟨0,0,0,0,0,false⟩)::L) (q:=λx=>x.has p) (λy k d=>⟨_,_,rfl,by kernel_rfl,?_⟩) hn hb (h2.ro 3 [1,2,0] rfl)) ?_
 ·show Calls P Jk #[.agg y.vs.toArray,Pb q] k _;apply avn;unfold N2 qD qL zY;refine Al.i d (λt m a=>?_);have a:Sep E (bC t y.vs::bC q [Iv p]::cO s l::bC r (Rg.vs ⟨0,0,0,0,0,false⟩)::L) m:=a;refine ld a 0 rfl rfl rfl (ld a 1 rfl rfl rfl (h6 (λg=>ld a 1 rfl rfl rfl (ld a 0 rfl rfl rfl ⟨?_,a.tail⟩)) (λg=>⟨?_,a.tail⟩)));·exact eJ Value.bool (tB.2 ⟨λe=>⟨g,e⟩,λe=>e.2⟩)
  ·exact eJ Value.bool (dg λe=>bu).symm
 rintro _ k ⟨rfl,d⟩;have d:Sep E (bC q [Iv p]::cO s l::bC r (Rg.vs ⟨0,0,0,0,0,false⟩)::L) k:=d;have hle:=DD (λx=>x.has p) l;obtain⟨n,j⟩:∃n,fN (λx=>x.has p) l=n:=⟨_,rfl⟩
 have hf:jP l p=if e8 0 l then l[n]? else none:=by unfold jP;rw[j]
 rw[j]at hle ⊢;have zero:∀ {w:bI},jP l p=none->Sep E (bC q [Iv p]::cO s l::bC r (Rg.vs ⟨0,0,0,0,0,false⟩)::L) w->kN (Rg.vs ⟨0,0,0,0,0,false⟩) ⟨r,0,none⟩ (λb=>∃z:Int,b.cell? ((⟨r,0,none⟩:Addr).add 0)=some (Iv z)/\∃B:Int,b.cell? ((⟨r,0,none⟩:Addr).add 1)=some (Iv B)/\∃C:Int,b.cell? ((⟨r,0,none⟩:Addr).add 2)=some (Iv C)/\∃D:Int,b.cell? ((⟨r,0,none⟩:Addr).add 3)=some (Iv D)/\∃F:Int,b.cell? ((⟨r,0,none⟩:Addr).add 4)=some (Iv F)/\∃G:Bool,b.cell? ((⟨r,0,none⟩:Addr).add 5)=some (.bool G)/\
   Value.tuple #[.agg #[Iv z,Iv B,Iv C,Iv D,Iv F,.bool G],.bool false]=sY (jP l p)/\Sep E (cO s l::L) b) w:=by
  intro w g H;refine et _ (H.ro 3 [2,0,1] rfl) rfl (λb o=>gB o (i:=0) rfl ⟨by rw[g];rfl,o.ro 3 [2] rfl⟩)
 refine⟨_,rfl,cU (λc=>zero ?_ d) (λu=>use (DF hn hb (d.ro 3 [1,0,2] rfl)) ?_)⟩
 ·rw[hf];split at c;·omega
  ·rw[gQ bu];split<;>rfl
 rintro _ m ⟨rfl,a⟩;have a:Sep E (cO s l::bC q [Iv p]::bC r (Rg.vs ⟨0,0,0,0,0,false⟩)::L) m:=a;have c:n<l.length:=by
  rcases hN n l.length with e|e;·exact e
  ·rw[cD]at u;omega
 rw[bK c];refine⟨_,rfl,cv (λhr=>zero ?_ (a.ro 3 [1,0,2] rfl)) (λhr=>?_)⟩
 ·have hr:e8 0 l=false:=by simpa using hr
  rw[hf,hr];rfl
 ·have hr:e8 0 l=true:=by simpa using hr
  obtain⟨x,hx⟩:∃x,l[n]?=some x:=⟨_,dO c⟩
  refine oQ 0 a rfl hn rfl hx (λ_=>et _ (a.ro 3 [2,0,1] rfl) rfl (λI f=>?_));have f:Sep E (bC r x.vs::cO s l::bC q [Iv p]::L) I:=f;refine gB f (i:=0) rfl ⟨?_,f.ro 3 [1] rfl⟩;rw[hf,hr,bK rfl,hx];rfl
def aJB{x:Rg}{p:Int}(hx:x.fits)(hp:0<=p/\p<65536)(h:Sep E L w):Calls P IK #[.agg x.vs.toArray,Iv p] w (cW E (.agg #[Iv (dC x p).1,Iv (dC x p).2]) L):=by
 apply ZX;unfold NJ qL qU zY zZ;refine Al.i h (λq f h1=>Al.i h1 (λr w2 h2=>?_));have h2:Sep E (bC r [Iv 0,Iv 0]::bC q x.vs::L) w2:=h2;obtain⟨c,d⟩:=hx;refine ld h2 1 rfl rfl rfl (eQ (λhk=>ld h2 1 rfl rfl rfl (ld h2 1 rfl rfl rfl (ld h2 1 rfl rfl rfl (et _ h2 rfl (λb a=>?_))))) (λhk=>et _ h2 rfl (λb a=>?_)))
 ·rw[cP (n:=x.idx+p) bu bu,cP bu bu]at a;have e:dC x p=(x.file,x.idx+p-x.a):=bK hk;rw[e];exact ld a 0 rfl rfl rfl (ld a 0 rfl rfl rfl ⟨rfl,a.tail.tail⟩)
 ·have e:dC x p=(-1,p):=bJ hk;rw[e];exact ld a 0 rfl rfl rfl (ld a 0 rfl rfl rfl ⟨rfl,a.tail.tail⟩)
end Go.Mp
namespace Go.Kw
structure fC(s:Sp):Prop where
 cH:Tok s.cH
 g6:e8 0 s.dp=true
def fC.new:fC Sp.new:=⟨⟨List.Pairwise.nil,λ_ h=>by cases h⟩,rfl⟩
def u4:∀ {l r:bA Rg} {a:Int},e8 a (l++r)=true↔e8 a l=true/\e8 ((l.getLast?.map Rg.b).getD a) r=true
 |[],r,a=>by simp[e8]
 |[x],r,a=>by simp[e8]
 |x::y::l,r,a=>by
  have:=u4 (l:=y::l) (r:=r) (a:=x.b);have e:((y::l).getLast?.map Rg.b).getD x.b=((y::l).getLast?.map Rg.b).getD a:=by
   rw[List.getLast?_cons];rfl
  rw[e]at this;rw[List.getLast?_cons_cons];show((x.valid&&decide (a<=x.a))&&e8 x.b (y::l++r))=true↔((x.valid&&decide (a<=x.a))&&e8 x.b (y::l))=true/\_;generalize (x.valid&&decide (a<=x.a))=c;rw[dy,dy,this,and_assoc]
def DI{l:bA Rg}{a b:Int}(h:e8 a l=true)(hb:∀x,l[0]?=some x->b<=x.a):e8 b l=true:=by
 cases l with
 |nil=>rfl
 |cons x l=>
  simp only[e8,dy,gw]at h ⊢;exact⟨⟨h.1.1,hb x rfl⟩,h.2⟩
def O8{q:Rg->Bool}:∀ {l:bA Rg} {j:Nat} {y:Rg},j<fN q l->l[j]?=some y->q y=false
 |x::r,0,y,h,a=>by
  simp at a;subst a;unfold fN at h;split at h;·omega
  ·next b=>simpa using b
 |x::r,j+1,y,h,a=>by
  unfold fN at h;split at h;·omega
  ·exact O8 (l:=r) (j:=j) bu (by simpa using a)
def O9{l:bA Rg}{x:Rg}(h:e8 0 l=true):e8 0 (eB l x).1=true:=by
 unfold eB;split;·exact h
 next d=>
 rw[o9,o9]at d;have f:x.valid=true:=by cases hx:x.valid with|true=>rfl|false=>exact absurd hx d.2.1
 have g:=(Rg.fe f).1;dsimp only;generalize hn:fN (λy=>decide (x.a<y.b)) l=n;have key:(∀y,l[n]?=some y->x.b<=y.a)->e8 0 (l.take n++x::l.drop n)=true:=by
  intro b;rw[<- fK n l]at h;obtain⟨h1,h2⟩:=u4.1 h;refine u4.2 ⟨h1,?_⟩;simp only[e8,dy,gw];refine⟨⟨f,?_⟩,DI h2 (λy i=>b y ?_)⟩
  ·cases k:(l.take n).getLast? with
   |none=>exact g.1
   |some z=>
    show z.b<=x.a;have a:=SY k;obtain⟨j,c⟩:=SZ a;rw[o3]at c;split at c
    ·next e=>
     have:=O8 (by rw[hn];exact e) c;simpa using this
    ·cases c
  ·rwa[pY,lK]at i
 split
 ·next y b=>
  split;·exact h
  ·next m=>exact key λz a=>by rw[b]at a;cases a;omega
 ·next b=>exact key λz a=>by rw[b]at a;cases a
def fC.map{s:Sp}(h:fC s)(x:Rg):fC (s.map x).1:=⟨h.cH,O9 h.g6⟩
end Go.Kw
namespace Go.Mp
open Go Go.Vc Go.Sp Go.Proofs Go.Kc Go.Kv Go.Kw
variable{E:Env}{L:ct}{w W:bI}{s:Kw.Sp}{p:Nat}
def dX(p:Nat)(s:Kw.Sp):Asn:=fa λq:Sl×Nat=>cG (q.1.n=s.dp.length) (cy [bC p [.slice q.1.p q.1.n q.1.c,Pb q.2],cO q.1 s.dp,cY q.2 s.cH])
def dX.open(h:Sep E (dX p s::L) w):∃(r:Sl) (t:Nat),r.n=s.dp.length/\Sep E (bC p [Sv r,Pb t]::cO r s.dp::cY t s.cH::L) w:=by
 obtain⟨⟨r,t⟩,h⟩:=Sep.ex.1 h;obtain⟨hn,h⟩:=Sep.cG.1 h;exact⟨r,t,hn,Sep.cy.1 h⟩
def dX.mk{r:Sl}{t:Nat}(hn:r.n=s.dp.length)(h:Sep E (bC p [Sv r,Pb t]::cO r s.dp::cY t s.cH::L) w):Sep E (dX p s::L) w:=
 Sep.ex.2 ⟨(r,t),Sep.cG.2 ⟨hn,Sep.cy.2 h⟩⟩
def aIw(h:Sep E L w):Calls P Ii #[] w (cz λv w'=>∃p:Nat,v=Pb p/\Sep E (dX p Sp.new::L) w'):=by
 apply Zs;unfold Nm qR;refine use (OU h) ?_;rintro _ a ⟨t,rfl,h1⟩;refine⟨_,rfl,Al.i h1 (λp w2 h2=>⟨p,rfl,dX.mk (r:=⟨none,0,0⟩) (t:=t) rfl ?_⟩)⟩;exact(bw.none_ (m:=6) h2).swap
def aIv(x:Rg)(j:fC s)(h:Sep E (dX p s::L) w):Calls P xz #[Pb p,.agg x.vs.toArray] w (cW E (Iv (s.map x).2) (dX p (s.map x).1::L)):=by
 obtain⟨r,t,hn,h⟩:=dX.open h;have hlen:=yc j.g6;apply Zv;unfold Np qK zF zR zY;refine Al.i h (λq l h1=>Dr.i h1 (λw2 h2=>⟨_,rfl,?_⟩));have h2:Sep E (bC q x.vs::bC p [Sv r,Pb t]::cO r s.dp::cY t s.cH::L) w2:=h2;refine⟨r,h2.cellAt 1 rfl 0,gB h2 (i:=0) rfl (use (aJz x hn bu (h2.ro 4 [2,0,1,3] rfl)) ?_)⟩;rintro _ k ⟨s',rfl,g⟩;have c:(s.map x).2=(eB s.dp x).2:=rfl;rcases g with⟨a,hr,b⟩|⟨a,d,b⟩
 ·refine⟨s',_,rfl,eQ (λe=>absurd e a) (λ_=>⟨by rw[c],dX.mk (r:=r) (t:=t) ?_ ?_⟩)⟩
  ·show r.n=(eB s.dp x).1.length;rw[hr];exact hn
  ·show Sep E (_::cO r (eB s.dp x).1::cY t s.cH::L) k;rw[hr];exact b.ro 4 [2,0,3] rfl
 ·refine⟨s',_,rfl,eQ (λ_=>⟨_,rfl,?_⟩) (λe=>absurd a e)⟩;refine St.i (b.ro 4 [2,0,3] rfl) (by show 0<2;decide) (λm f=>⟨by rw[c],dX.mk (r:=s') (t:=t) d f⟩)
def Pa(bL:Int)(c:fC s)(h:Sep E (dX p s::L) w):Calls P BK #[Pb p,Iv bL] w (cW E (sY (s.cw bL)) (dX p s::L)):=by
 obtain⟨r,t,hn,h⟩:=dX.open h;have hlen:=yc c.g6;apply ZT;unfold NG qK qU zR zg zm;refine Al.i h (λq e h1=>⟨_,rfl,r,h1.cellAt 1 rfl 0,use (aIo hn bu (h1.ro 4 [2,0,1,3] rfl)) ?_⟩);rintro _ w2 ⟨rfl,h2⟩;have hw:s.cw bL=jP s.dp bL:=rfl;have h2:Sep E (cO r s.dp::bC q (Rg.vs ⟨0,0,0,0,0,false⟩)::bC p [Sv r,Pb t]::cY t s.cH::L) w2:=h2;rw[hw];obtain⟨x,b,hx⟩:∃(x:Rg) (b:Bool),sY (jP s.dp bL)=.tuple #[.agg x.vs.toArray,.bool b]:=by
  cases jP s.dp bL with
  |some x=>exact⟨x,true,rfl⟩
  |none=>exact⟨⟨0,0,0,0,0,false⟩,false,rfl⟩
 rw[hx];refine⟨x.a,x.b,x.kind,x.file,x.idx,x.wr,b,rfl,et _ (h2.ro 4 [1,0,2,3] rfl) rfl (λd a=>?_)⟩;have a:Sep E (bC q x.vs::cO r s.dp::bC p [Sv r,Pb t]::cY t s.cH::L) d:=a;exact gB a (i:=0) rfl ⟨rfl,dX.mk hn (a.ro 4 [2,1,3] rfl)⟩
def u5:bA bE:=[Iv 0,Iv 0,.bool false,.bool false]
def Pc(o:bV En):bE:=match o with
 |some e=>.tuple #[.agg e.vs.toArray,.bool true]
 |none=>.tuple #[.agg u5.toArray,.bool false]
def rl{b i:Nat}{e:En}{F:Int->Int->Bool->Bool->Prop}(h:Sep E L w)(a:L[i]?=some (bC b e.vs))(k:F e.k e.id e.wr e.tc):
  ∃c:Int,w.cell? ((⟨b,0,none⟩:Addr).add 0)=some (Iv c)/\∃d:Int,w.cell? ((⟨b,0,none⟩:Addr).add 1)=some (Iv d)/\∃f:Bool,w.cell? ((⟨b,0,none⟩:Addr).add 2)=some (.bool f)/\∃g:Bool,w.cell? ((⟨b,0,none⟩:Addr).add 3)=some (.bool g)/\F c d f g:=
 ld h i rfl a rfl (ld h i rfl a rfl (ld h i rfl a rfl (ld h i rfl a rfl k)))
def u6(bL:Int)(f:fC s)(h:Sep E (dX p s::L) w):Calls P sj #[Pb p,Iv bL] w (cW E (Pc (s.entry bL)) (dX p s::L)):=by
 obtain⟨r,t,hn,h⟩:=dX.open h;apply Zq;unfold Nk qU qZ zh zn zt zu;refine Al.i h (λq o h1=>⟨_,rfl,_,h1.cellAt 1 rfl 1,use (OV f.cH (h1.ro 4 [3,0,1,2] rfl)) ?_⟩);rintro _ w2 ⟨k,h2⟩;have h2:Sep E (cY t s.cH::bC q u5::bC p [Sv r,Pb t]::cO r s.dp::L) w2:=h2;have he:s.entry bL=if 0<=bL then dL s.cH bL.toNat else none:=rfl
 rcases k with⟨e,g,d,rfl⟩|⟨d,rfl⟩
 ·rw[he,bK g,d];have ho:=(f.cH.get d).2;refine⟨_,_,rfl,bF rfl (use (OR ho h2) ?_)⟩;rintro _ l ⟨rfl,a⟩;refine⟨_,_,_,_,_,rfl,Al.i a (λz u j=>et _ j rfl (λm b=>?_))⟩;have b:Sep E (bC z e.vs::cY t s.cH::bC q u5::bC p [Sv r,Pb t]::cO r s.dp::L) m:=b;refine rl b (i:=0) rfl (et _ (b.ro 5 [2,0,1,3,4] rfl) rfl (λn c=>?_));have c:Sep E (bC q e.vs::bC z e.vs::cY t s.cH::bC p [Sv r,Pb t]::cO r s.dp::L) n:=c;exact rl c (i:=0) rfl ⟨rfl,dX.mk hn (c.ro 5 [3,4,2] rfl)⟩
 ·rw[he,d];refine⟨_,_,rfl,bT rfl (et _ (h2.ro 4 [1,0,2,3] rfl) rfl (λl a=>?_))⟩;exact ld a 0 rfl rfl rfl (ld a 0 rfl rfl rfl (ld a 0 rfl rfl rfl (ld a 0 rfl rfl rfl ⟨rfl,dX.mk hn (a.ro 4 [2,3,1] rfl)⟩)))
def aIx{bL id:Int}{k:Nat}{wr:Bool}(hk:k=1\/k=2)(eS:0<=id/\id<9223372036854775808)(d:fC s)(h:Sep E (dX p s::L) w):
  Calls P I6 #[Pb p,Iv bL,.agg #[Iv (k:Int),Iv id,.bool wr,.bool false]] w (cz λv w'=>(∃r:Int,v=Iv r)/\Sep E (dX p (s.enter bL id k wr)::L) w'):=by
 obtain⟨n,rfl⟩:∃n:Nat,id=n:=⟨id.toNat,bu⟩
 obtain⟨e,he⟩:∃e:En,e=⟨k,n,wr,false⟩:=⟨_,rfl⟩
 have A:e.vs= [Iv (k:Int),Iv (n:Int),.bool wr,.bool false]:=by rw[he];rfl
 apply ar8;unfold N0 qL qQ qU qZ qg zB zg zm zn;refine Al.i h (λq F h1=>?_);have h1:Sep E (bC q e.vs::dX p s::L) F:=by rw[A];exact h1
 refine use (Pa bL d h1.swap) ?_;rintro _ w2 ⟨rfl,h2⟩;obtain⟨x,hx⟩:∃(x:Rg),sY (s.cw bL)=.tuple #[.agg x.vs.toArray,.bool (s.cw bL).isSome]:=by
  cases s.cw bL with
  |some x=>exact⟨x,rfl⟩
  |none=>exact⟨⟨0,0,0,0,0,false⟩,rfl⟩
 rw[hx];refine⟨x.a,x.b,x.kind,x.file,x.idx,x.wr,_,rfl,Al.i h2 (λz J D=>et _ D rfl (λG b=>?_))⟩;have b:Sep E (bC z x.vs::dX p s::bC q e.vs::L) G:=b;have j:s.enter bL n k wr=if(s.cw bL).isSome/\0<=(n:Int)/\(n:Int)<16777216 then {s with cH:=eZ s.cH bL.toNat ⟨k,n,wr,false⟩} else s:=by unfold Sp.enter;rw[dA]
 rw[j];cases hw:s.cw bL with
 |none=>
  rw[bJ (by rintro⟨B,_⟩;cases B)];exact bT rfl ⟨⟨_,rfl⟩,b.ro 3 [1] rfl⟩
 |some y=>
  have C:0<=bL/\bL<65536:=by
   have hf:jP s.dp bL=some y:=hw;unfold jP at hf;rw[d.g6,bK rfl]at hf;have a:=ye hf;have m:=(Rg.fe (yd d.g6 y (eI hf))).1;unfold Rg.has at a;simp only[gw]at a;omega
  have g:e.k=1\/e.k=2:=by rw[he];exact hk
  have f:e.id=n:=by rw[he]
  refine bF rfl (rl b (i:=2) rfl (use (aIl g (by rw[f];omega) (b.ro 3 [0,2,1] rfl)) ?_));rintro _ H ⟨rfl,a⟩;have a:Sep E (bC z x.vs::bC q e.vs::dX p s::L) H:=a;rw[f];by_cases c:n<16777216
  ·rw[bK c,bK ⟨rfl,bu,bu⟩];refine⟨_,_,rfl,λw'=>Sep E (bC z x.vs::bC q e.vs::dX p s::L) w',bF rfl (ld a 1 rfl rfl rfl (bF ?_ a)),?_⟩;·rcases g with h|h<;>rw[h]<;>rfl
   rintro _ I m;obtain⟨r,t,hn,o⟩:=dX.open (m.ro 3 [2] rfl);obtain⟨l,rfl⟩:∃l:Nat,bL=l:=⟨bL.toNat,bu⟩
   refine⟨_,rfl,_,o.cell 1,use (DA (p:=l) (e:=e) d.cH bu (o.ro 3 [2,0,1] rfl)) ?_⟩;rintro _ K ⟨rfl,u⟩;rw[he]at u;exact⟨_,rfl,⟨_,rfl⟩,dX.mk hn (u.ro 3 [1,2,0] rfl)⟩
  ·rw[bJ c,bJ (by rintro⟨_,_,B⟩;omega)];exact⟨_,_,rfl,λ_=>False,bT rfl ⟨⟨_,rfl⟩,a.ro 3 [2] rfl⟩,λ_ I hf=>hf.elim⟩
end Go.Mp
namespace Go.Kw
def lX(T:c2)(a b:Int):walk T a b=(T.filter λq=>hq a b q.1).map λq=>(q.1:Int):=by
 unfold walk;rw[List.filter_map,tG];rfl
def DJ{x:Rg}{a b:Int}(hx:x.valid=true)(i:x.a<=a)(hb:b<=x.b):∀y∈fF x a b,y.valid=true/\a<=y.a/\y.b<=b:=by
 intro y d;unfold fF at d;split at d
 ·next g=>
  rw[ia]at d;subst d;have hf:=Rg.fe hx;obtain⟨h1,h2⟩:=hf;refine⟨?_,g2 _,g2 _⟩;unfold Rg.valid at hx ⊢;simp only[dy,gw]at hx ⊢;obtain⟨h,c⟩:=hx;refine⟨by show 0<=a/\a<b/\b<=65536;omega,?_⟩;show(if x.kind=1 then decide (x.file=0/\(if x.kind=2 then x.idx+(a-x.a)else x.idx)=0)else if x.kind=2 then decide (0<=x.file/\x.file<=1048576/\0<=(if x.kind=2 then x.idx+(a-x.a)else x.idx)/\(if x.kind=2 then x.idx+(a-x.a)else x.idx)<=2097152-(b-a))else false)=true;by_cases f:x.kind=1
  ·rw[bK f]at c ⊢;rw[cD];exact c
  ·rw[bJ f]at c ⊢;by_cases e:x.kind=2
   ·rw[bK e]at c ⊢;rw[bK e];simp only[gw]at c ⊢;omega
   ·rw[bJ e]at c;cases c
 ·cases d
def DK{x:Rg}{a b:Int}:(fF x a b).length<=1:=by unfold fF;split<;>simp
def DL{l:bA Rg}{a:Int}(h1:l.length<=1)(h:∀y∈l,y.valid=true/\a<=y.a):e8 a l=true:=by
 match l,h1,h with
 |[],_,_=>rfl
 |[x],_,h=>simp[e8,(h x fE).1,(h x fE).2]
def aIE{x:Rg}{a b:Int}(hx:x.valid=true):e8 x.a (fq a b x)=true/\∀y∈fq a b x,y.valid=true/\x.a<=y.a/\y.b<=x.b:=by
 have hf:=(Rg.fe hx).1;unfold fq;split
 ·have h:=DJ hx (g2 x.a) (g2 x.b);exact⟨DL DK λy c=>⟨(h y c).1,(h y c).2.1⟩,h⟩
 ·next e=>
  have h1:=DJ (a:=x.a) (b:=min x.b a) hx (g2 _) bu;have h2:=DJ (a:=max x.a b) (b:=x.b) hx bu (g2 _);refine⟨u4.2 ⟨DL DK λy c=>⟨(h1 y c).1,(h1 y c).2.1⟩,DL DK λy c=>⟨(h2 y c).1,?_⟩⟩,λy c=>?_⟩
  ·have f:=(h2 y c).2.1;cases d:(fF x x.a (min x.b a)).getLast? with
   |none=>show x.a<=y.a;omega
   |some z=>
    have:=(h1 z (SY d)).2.2;show z.b<=y.a;omega
  ·rcases gH.1 c with c|c;·have:=h1 y c;exact⟨this.1,this.2.1,bu⟩
   ·have:=h2 y c;exact⟨this.1,bu,this.2.2⟩
def Pd:∀ {l:bA Rg} {p a b:Int},e8 p l=true->e8 p (l.flatMap (fq a b))=true
 |[],_,_,_,_=>rfl
 |x::r,p,a,b,h=>by
  simp only[e8,dy,gw]at h;obtain⟨⟨h1,h2⟩,i⟩:=h;have d:=aIE (a:=a) (b:=b) h1;have hr:=Pd (a:=a) (b:=b) i;rw[nQ];refine u4.2 ⟨DI d.1 λy e=>?_,?_⟩;·have:=(d.2 y (eI e)).2.1;omega
  ·refine DI hr λy e=>?_;have f:∀ {l:bA Rg} {p:Int} {y:Rg},e8 p l=true->l[0]?=some y->p<=y.a:=by
    intro l p y g c;cases l with
    |nil=>simp at c
    |cons z l=>
     simp at c;subst c;simp only[e8,dy,gw]at g;exact g.1.2
   have k:=f hr e;cases j:(fq a b x).getLast? with
   |none=>show p<=y.a;have:=(Rg.fe h1).1;omega
   |some z=>show z.b<=y.a;have:=(d.2 z (SY j)).2.2;omega
def fC.cut{s:Sp}(h:fC s)(a b:Int):fC (s.cut a b).1:=by
 refine⟨h.cH.filter _,?_⟩;show e8 0 (gX s.dp a b)=true;unfold gX;rw[bK h.g6];exact Pd h.g6
def fC.entry{s:Sp}(h:fC s){p:Int}{e:En}(he:s.entry p=some e):0<=p/\p<65536/\e.ok/\dL s.cH p.toNat=some e:=by
 unfold Sp.entry at he;split at he;·next hp=>have:=h.cH.get he;exact⟨hp,bu,this.2,he⟩
 ·cases he
def fC.cm{s:Sp}(h:fC s)(p:Int):fC (s.cm p):=by
 unfold Sp.cm;split
 ·next e he=>
  obtain⟨h1,h2,a,b⟩:=h.entry he;exact⟨h.cH.set bu a,h.g6⟩
 ·exact h
def sZ{s:Sp}(h:fC s){p:Int}{x:Rg}(hw:s.cw p=some x):0<=p/\p<65536/\x.valid=true/\x.a<=p/\p<x.b:=by
 unfold Sp.cw jP at hw;rw[h.g6,bK rfl]at hw;have a:=ye hw;have b:=yd h.g6 x (eI hw);have c:=(Rg.fe b).1;unfold Rg.has at a;simp only[gw]at a;exact⟨bu,bu,b,a⟩
def fC.enter{s:Sp}(h:fC s){p id:Int}{k:Nat}{wr:Bool}(hk:k=1\/k=2):fC (s.enter p id k wr):=by
 unfold Sp.enter;split
 ·next a=>
  obtain⟨hw,b,h1⟩:=a;obtain⟨x,hx⟩:=kX.1 hw;have hp:=sZ h hx;exact⟨h.cH.set bu ⟨hk,by show id.toNat<_;omega⟩,h.g6⟩
 ·exact h
end Go.Kw
namespace Go.Mp
open Go Go.Vc Go.Sp Go.Proofs Go.Kc Go.Kv Go.Kw
variable{E:Env}{L:ct}{w W:bI}{s:Kw.Sp}{p:Nat}
def yf(c:fC s)(a b:Int):(s.ids a b).length<=65536:=by
 unfold Sp.ids;rw[ei];exact mK (l2 _ _) (gO c.cH)
def Pe(a b:Int)(f:fC s)(h:Sep E (dX p s::L) w):Calls P Bn #[Pb p,Iv a,Iv b] w
  (cz λv w'=>∃q:Sl,v=Sv q/\q.n=(s.ids a b).length/\Sep E (bw q 1 (bD (s.ids a b))::dX p s::L) w'):=by
 obtain⟨F,m⟩:∃F,s.cH.filter (λq=>hq a b q.1)=F:=⟨_,rfl⟩
 have d:s.ids a b=F.map λq=>(q.2.id:Int):=by rw[<- m];rfl
 have B:walk s.cH a b=F.map λq=>(q.1:Int):=by rw[lX,m]
 have hlen:=yf f a b;rw[d,ei]at hlen;rw[d];apply Y5;unfold M3 qC qD qJ qL qU qW qZ qf zu zy;obtain⟨r,t,hn,h⟩:=dX.open h;refine⟨_,rfl,_,h.cell 1,use (OZ (a:=a) (b:=b) f.cH (h.ro 3 [2,0,1] rfl)) ?_⟩;rintro _ K ⟨y,rfl,n,h1⟩;rw[B]at n h1;have h1:Sep E (bw y 1 (bD (F.map λq=>(q.1:Int)))::cY t s.cH::bC p [Sv r,Pb t]::cO r s.dp::L) K:=h1;have h2:=(dX.mk (s:=s) (p:=p) (r:=r) (t:=t) hn (h1.ro 4 [2,3,1,0] rfl)).swap;refine⟨y,rfl,λl i w'=>∃k:Nat,i=k/\k<=F.length/\l.n=((F.take k).map λq=>(q.2.id:Int)).length/\Sep E (bw l 1 (bD ((F.take k).map λq=>(q.2.id:Int)))::bw y 1 (bD (F.map λq=>(q.1:Int)))::dX p s::L) w',λ_ i _=>(y.n-i).toNat,⟨0,rfl,fj _,rfl,bw.none_ h2⟩,?_⟩;rw[ei]at n;rintro _ l _ R ⟨k,rfl,hk,hl,e⟩;refine cU (λQ=>?_) (λO=>?_)
 ·obtain⟨x,hx⟩:∃x,F[k]?=some x:=⟨_,dP⟩
  have D:x∈s.cH:=by
   have:=eI hx;rw[<- m]at this;exact(gG.1 this).1
  have C:s.entry (x.1:Int)=some x.2:=by
   unfold Sp.entry;rw[eK,dA];exact sW f.cH.cX D
  refine mu 1 e rfl (by rw[ei];exact n) bu (by rw[ei];omega) (λc A=>?_);have J:(F.map λq=>(q.1:Int)).getD ((k:Int)).toNat 0=(x.1:Int):=by
   rw[dA,dJ,eC,hx];rfl
  rw[J]at A;refine⟨_,A,use (u6 (x.1:Int) f (e.ro 3 [2,0,1] rfl)) ?_⟩;rintro _ S ⟨rfl,H⟩;rw[C];refine⟨_,_,_,_,_,rfl,Al.i H (λz T I=>et _ I rfl (λU o=>ld o 0 rfl rfl (x:=(x.2.id:Int)) rfl (Al.i o (λN M j=>?_))))⟩;have j:Sep E (bC N [Iv (x.2.id:Int)]::bC z x.2.vs::dX p s::bw l 1 (bD ((F.take k).map λq=>(q.2.id:Int)))::bw y 1 (bD (F.map λq=>(q.1:Int)))::L) M:=j;refine sR hl (by rw[ei,hF];omega) (j.ro 5 [0,3,4,2] rfl) (λs' V g u=>?_);have G:(F.take (k+1)).map (λq=>(q.2.id:Int))=(F.take k).map (λq=>(q.2.id:Int))++[(x.2.id:Int)]:=by rw[fL hx,k3];rfl
  rw[<- G]at g u;exact⟨⟨k+1,dc,bu,g,u⟩,by rw[dc];dsimp only;omega⟩
 ·have:k=F.length:=by omega
  subst this;rw[gf]at hl e;exact⟨l,rfl,hl,e.ro 3 [0,2] rfl⟩
def aIu(b:fC s)(h:Sep E (dX p s::L) w):Calls P H3 #[Pb p] w
  (cz λv w'=>∃q:Sl,v=Sv q/\q.n=(s.ids 0 65536).length/\Sep E (bw q 1 (bD (s.ids 0 65536))::dX p s::L) w'):=by
 apply Y0;unfold MZ qJ;refine use (Pe 0 65536 b h) ?_;rintro _ c ⟨q,rfl,a,h1⟩;exact⟨q,rfl,q,rfl,a,h1⟩
def aGG(a:fC s)(h:Sep E (dX p s::L) w):Calls P H7 #[Pb p] w (cW E (Iv (s.cH.length:Nat)) (dX p s::L)):=by
 obtain⟨r,t,hn,h⟩:=dX.open h;apply Y4;unfold M1 qQ qZ;refine⟨_,rfl,_,h.cell 1,use (aJF a.cH (h.ro 3 [2,0,1] rfl)) ?_⟩;rintro _ b ⟨rfl,h1⟩;exact⟨_,rfl,rfl,dX.mk hn (h1.ro 3 [1,2,0] rfl)⟩
def Pf(bL:Int)(f:fC s)(h:Sep E (dX p s::L) w):Calls P BD #[Pb p,Iv bL] w (cz λv w'=>(∃b:Bool,v=.bool b)/\Sep E (dX p (s.cm bL)::L) w'):=by
 obtain⟨r,t,hn,h⟩:=dX.open h;have he:s.entry bL=if 0<=bL then dL s.cH bL.toNat else none:=rfl
 apply ZA;unfold Nu qG qQ qZ zU zh;refine⟨_,rfl,_,h.cell 1,use (OV f.cH (h.ro 3 [2,0,1] rfl)) ?_⟩;rintro _ m ⟨l,h1⟩;have h1:Sep E (cY t s.cH::bC p [Sv r,Pb t]::cO r s.dp::L) m:=h1;rcases l with⟨e,j,d,rfl⟩|⟨d,rfl⟩
 ·have a:s.entry bL=some e:=by rw[he,bK j,d]
  obtain⟨_,n,ho,_⟩:=f.entry a;have c:s.cm bL= {s with cH:=eZ s.cH bL.toNat e.cm} :=by unfold Sp.cm;rw[a];rfl
  rw[c];obtain⟨g,rfl⟩:∃g:Nat,bL=g:=⟨bL.toNat,bu⟩
  rw[dA];refine⟨_,_,rfl,bT rfl (Dr.i h1 (λw2 h2=>⟨_,rfl,_,h2.cellAt 1 rfl 1,use (aGA ho h2) ?_⟩))⟩;rintro _ o ⟨rfl,i⟩;refine⟨_,rfl,_,i.cellAt 1 rfl 1,rfl,use (DA (p:=g) (e:=e.cm) f.cH bu i) ?_⟩;rintro _ q ⟨rfl,k⟩;exact⟨_,rfl,⟨_,rfl⟩,dX.mk hn (k.ro 3 [1,2,0] rfl)⟩
 ·have a:s.entry bL=none:=by rw[he,d]
  have c:s.cm bL=s:=by unfold Sp.cm;rw[a]
  rw[c];exact⟨_,_,rfl,bF rfl ⟨⟨_,rfl⟩,dX.mk hn (h1.ro 3 [1,2,0] rfl)⟩⟩
def Ph{a b:Int}(U:0<=a/\a<=65536)(hb:0<=b/\b<=131072)(l:fC s)(h:Sep E (dX p s::L) w):Calls P Bz #[Pb p,Iv a,Iv b] w
  (cz λv w'=>∃q:Sl,v=Sv q/\q.n=(s.cut a b).2.length/\Sep E (bw q 1 (bD (s.cut a b).2)::dX p (s.cut a b).1::L) w'):=by
 obtain⟨F,j⟩:∃F,s.cH.filter (λq=>hq a b q.1)=F:=⟨_,rfl⟩
 have O:walk s.cH a b=F.map λq=>(q.1:Int):=by rw[lX,j]
 have K:F.Pairwise λx y=>x.1<y.1:=by rw[<- j];exact l.cH.cX.filter _
 have aa:F.length<=65536:=by rw[<- j];exact mK (l2 _ _) (gO l.cH)
 have H:s.cut a b=(⟨gX s.dp a b,s.cH.filter λq=> !hq a b q.1⟩,s.ids a b):=rfl;rw[H];dsimp only;apply Zw;unfold Nq qD qF qJ qK qO qW qZ;refine use (Pe a b l h) ?_;rintro _ ae ⟨q,rfl,W,h1⟩;obtain⟨r,t,hn,h2⟩:=dX.open h1.swap;refine⟨q,rfl,_,rfl,_,h2.cell 1,use (OZ (a:=a) (b:=b) l.cH (h2.ro 4 [2,0,1,3] rfl)) ?_⟩;rintro _ X ⟨y,rfl,I,B⟩;rw[O]at I B;rw[ei]at I;obtain⟨d,e⟩:∃d:Nat->c2,d= λk=>s.cH.filter λx=> !((F.take k).map Prod.fst).contains x.1:=⟨_,rfl⟩
 have R:d 0=s.cH:=by rw[e];exact vY.2 λx _=>by simp
 have B:Sep E (bC p [Sv r,Pb t]::cO r s.dp::cY t (d 0)::bw y 1 (bD (F.map λq=>(q.1:Int)))::bw q 1 (bD (s.ids a b))::L) X:=by rw[R];exact B.ro 5 [2,3,1,0,4] rfl
 refine⟨y,rfl,λi w'=>∃k:Nat,i=k/\k<=F.length/\Sep E (bC p [Sv r,Pb t]::cO r s.dp::cY t (d k)::bw y 1 (bD (F.map λq=>(q.1:Int)))::bw q 1 (bD (s.ids a b))::L) w',λi _=>(y.n-i).toNat,⟨0,rfl,fj _,B⟩,?_⟩;rintro _ _ af ⟨k,rfl,hk,g⟩;refine cU (λo=>?_) (λab=>?_)
 ·obtain⟨x,hx⟩:∃x,F[k]?=some x:=⟨_,dP⟩
  refine mu 3 g rfl (by rw[ei];exact I) bu (by rw[ei];omega) (λc C=>?_);have V:(F.map λq=>(q.1:Int)).getD ((k:Int)).toNat 0=(x.1:Int):=by
   rw[dA,dJ,eC,hx];rfl
  rw[V]at C;have Q:x∈d k:=by
   rw[e];have f:=eI hx;rw[<- j]at f;refine gG.2 ⟨(gG.1 f).1,?_⟩;have A:¬ x.1∈(F.take k).map Prod.fst:=by
    intro n;obtain⟨z,J,ad⟩:=fA.1 n;have o:=(cZ.1 hx).1;have hr:=K;rw[<- fK k F,lG o]at hr;have m:=(jy.1 hr).2.2 z J F[k] fE;rw[dO o]at hx;rw[cR hx]at m;omega
   simpa using A
  have G:Tok (d k):=by rw[e];exact l.cH.filter _
  refine⟨_,C,_,rfl,_,g.cell 1,use (aEQ (p:=x.1) G (fA.2 ⟨x,Q,rfl⟩) (g.ro 5 [2,0,1,3,4] rfl)) ?_⟩;rintro _ Y ⟨rfl,f⟩;have T:(d k).filter (λz=>z.1 !=x.1)=d (k+1):=by
   rw[e];dsimp only;rw[List.filter_filter];refine v8 λz _=>?_;rw[fL hx,k3];show((z.1 !=x.1)&& !((F.take k).map Prod.fst).contains z.1)= !((F.take k).map Prod.fst++[x.1]).contains z.1;rw[S1];by_cases n:z.1=x.1<;>simp[n,Bool.and_comm]
  rw[T]at f;exact⟨_,rfl,⟨k+1,dc,bu,f.ro 5 [1,2,0,3,4] rfl⟩,by rw[dc];dsimp only;omega⟩
 ·have:k=F.length:=by omega
  subst this;have S:d F.length=s.cH.filter λq=> !hq a b q.1:=by
   rw[e];dsimp only;refine v8 λz J=>?_;congr 1;rw[gf];cases D:hq a b z.1 with
   |true=>exact kZ.2 (fA.2 ⟨z,by rw[<- j];exact gG.2 ⟨J,D⟩,rfl⟩)
   |false=>
    have A:¬ z.1∈F.map Prod.fst:=by
     intro n;obtain⟨u,hu,N⟩:=fA.1 n;rw[<- j]at hu;have:=(gG.1 hu).2;rw[N,D]at this;cases this
    cases C:(F.map Prod.fst).contains z.1 with
    |false=>rfl
    |true=>exact absurd (kZ.1 C) A
  rw[S]at g;refine⟨_,rfl,r,g.cell 0,use (aJA U hb hn (by have:=yc l.g6;omega) (g.ro 5 [1,0,2,3,4] rfl)) ?_⟩;rintro _ Y ⟨r',rfl,M,f⟩;refine⟨r',rfl,_,rfl,St.i (f.ro 6 [2,0,3,5] rfl) (by show 0<2;decide) (λZ m=>⟨q,rfl,W,?_⟩)⟩;have m:Sep E (bC p [.slice r'.p r'.n r'.c,Pb t]::cO r' (gX s.dp a b)::cY t (s.cH.filter λq=> !hq a b q.1)::bw q 1 (bD (s.ids a b))::L) Z:=m;exact(dX.mk (s:=⟨gX s.dp a b,s.cH.filter λq=> !hq a b q.1⟩) M m).swap
def u7{r:Sl}{m:Nat}{vs:bA bE}(h:Sep E (bw r m vs::L) w)(c:Nat):gi r.p 0 c m=r.p:=by
 unfold gi;split;·rfl
 ·unfold bw at h;split at h;·next hp=>rw[hp];rfl
  ·next a d=>
   obtain⟨spare,h⟩:=Sep.ex.1 h;obtain⟨⟨h1,h2,_⟩,_⟩:=Sep.cG.1 h;obtain⟨b,o,q⟩:=a;simp only at h1 h2;subst h1 h2;rw[d];show some (Addr.add ⟨b,0,none⟩ (0*m))=_;rw[cf,ou]
def aGB{r:Sl}{l:bA Rg}(hn:r.n=l.length)(hb:l.length<1000000)(h:Sep E (cO r l::L) w):
  Calls P IS #[Sv r] w (cz λv w'=>∃r':Sl,v=.slice r'.p r'.n r'.c/\r'.n=l.length/\Sep E (cO r' l::cO r l::L) w'):=by
 apply Wq;unfold K2 zY;refine cv (λc=>⟨⟨none,0,0⟩,rfl,?_⟩) (λg=>Al.i h (λq i h1=>?_))
 ·have a:=h;unfold cO bw at a;have hp:r.p=none:=SV.1 c;rw[hp]at a;obtain⟨⟨h1,_,b⟩,_⟩:=Sep.cG.1 a;have hl:l= []:=tn bu;subst hl;exact⟨rfl,bw.none_ h⟩
 ·have h2:Sep E (bw ⟨some ⟨q,0,none⟩,0,0⟩ 6 []::cO r l::L) i:=bw.make (vs:=[]) (spare:=[]) h1 rfl rfl (ek 0);have f:=Src.sub (l:=0) (n':=r.n) (c':=r.c) h2 (q:=1) rfl pH bu (O7 l);rw[u7 (h2.swap) r.c]at f;refine bw.app h2 pH rfl f (by rw[hn];show(0+l.length)*_<=_;omega) (λr' w2 d b=>⟨r',rfl,by rw[d,hn];exact fx _,?_⟩);have e: []++((bQ Rg.vs l).drop (0*6)).take (r.n*6)=bQ Rg.vs l:=by
   rw[ou,rI,lJ,Df Rg.sX,iw bu]
  rw[e]at b;exact b
def aEP(d:fC s)(h:Sep E (dX p s::L) w):Calls P Iu #[Pb p] w (cz λv w'=>∃c:Nat,v=Pb c/\Sep E (dX c s::dX p s::L) w'):=by
 obtain⟨r,t,hn,h⟩:=dX.open h;apply ZH;unfold Nz qG qJ qK qR qZ;refine Dr.i h (λi h1=>⟨_,rfl,r,h1.cell 0,_,rfl,_,h1.cell 1,use (aGB hn (by have:=yc d.g6;omega) (h1.ro 3 [1,0,2] rfl)) ?_⟩);rintro _ w2 ⟨r',rfl,b,h2⟩;refine⟨r',rfl,_,h2.cellAt 2 rfl 1,rfl,use (aGH d.cH (h2.ro 4 [3,0,1,2] rfl)) ?_⟩;rintro _ j ⟨c,rfl,e⟩;refine⟨_,rfl,Al.i e (λq g a=>⟨q,rfl,?_⟩)⟩;have a:Sep E (bC q [.slice r'.p r'.n r'.c,Pb c]::cY c s.cH::cY t s.cH::cO r' s.dp::cO r s.dp::bC p [Sv r,Pb t]::L) g:=a;have f:=dX.mk (s:=s) (p:=p) hn (a.ro 6 [5,4,2,0,3,1] rfl);exact dX.mk (s:=s) (p:=q) b (f.ro 4 [1,2,3,0] rfl)
end Go.Mp
namespace Go.Mp
open Go Go.Vc
def Pj:dQ:={quiet:=λd=>[20,24,27,30,33,36,39,41,43,46,49,50,51,54,56,58,61,65,66,68,72,74,76,77,80,83,85,87,89,92,93,96,100,101,103,107,109,111,112,115,118,120,122,124,126,128,131,132,134].contains d,head:=λr=>(bif r==6 then 8 else 0),loop:=λr=>(bif r==17 then[(15,.int .u64),(16,.int .u64)]else bif r==24 then[(16,.int .u64),(18,.int .u64)]else[]),join:=λr=>(bif r==3 then some []else bif r==5 then some []else bif r==18 then some []else bif r==21 then some [(15,.int .u64)]else bif r==25 then some []else bif r==28 then some [(18,.int .u64)]else none)}
def DM(h f y:Int)(K:bf9)(E:bA PanicEntry->bf8)(w:bI):Prop:=
 ∃C:bf8,(bif(y==0)then(∃H:bE,w.cell? (⟨0,0,none⟩:Addr)=some H/\(match H with | .iface t v=>E [pe (.iface t v)] w|_=>False))else(C w))/\
  (∀S:Nat->bE,∀w2:bI,C w2->∃D:bf8,(bif(decide (y<=h))then(∃I:bE,w2.cell? (⟨1,0,none⟩:Addr)=some I/\(match I with
  |.iface t v=>E [pe (.iface t v)] w2|_=>False))else(D w2))/\(∀T:Nat->bE,∀B:bI,D B->bif(h==0)then(Dr (λR=>y≠0/\y≠0/\K (.tuple
  #[(.int .u64 (u64.wrap (f.tdiv y))),(.int .u64 (f.tmod y))]) R) B)else(Calls P U9 #[(.int .u64 y)] B λF G=>∃a:Int,F=
  .returned (Iv a)/\0<=(u64.wrap a)/\0<=(32:Int)/\0<=(u64.wrap a)/\0<=(u64.wrap (64-(u64.wrap a)))/\0<=
  (u64.wrap a)/\0<=(32:Int)/\((u64.wrap (y*2^(min (u64.wrap a).toNat 64))).fdiv (2^(min (32:Int).toNat 64)))≠0/\∃p:Int->bI->
  Prop,(∃(n:Int->Int->bf8) (u:Int->Int->bI->Nat),n (u64.wrap ((iY .u64 (u64.wrap (h*2^(min (u64.wrap a).toNat 64)))
  (f.fdiv (2^(min (u64.wrap (64-(u64.wrap a))).toNat 64)))).tdiv ((u64.wrap (y*2^(min (u64.wrap a).toNat 64))).fdiv (2^(min (32:
  Int).toNat 64))))) (u64.wrap ((iY .u64 (u64.wrap (h*2^(min (u64.wrap a).toNat 64))) (f.fdiv (2^(min (u64.wrap (64-(u64.wrap
  a))).toNat 64))))-(u64.wrap ((u64.wrap ((iY .u64 (u64.wrap (h*2^(min (u64.wrap a).toNat 64))) (f.fdiv (2^(min (u64.wrap
  (64-(u64.wrap a))).toNat 64)))).tdiv ((u64.wrap (y*2^(min (u64.wrap a).toNat 64))).fdiv (2^(min (32:Int).toNat 64)))))*((u64.wrap
  (y*2^(min (u64.wrap a).toNat 64))).fdiv (2^(min (32:Int).toNat 64))))))) G/\∀L:Nat->bE,∀e:Int,∀b:Int,∀i:bI,n e
  b i->∃q:bf8,(bif(decide (e≥4294967296))then(q i)else(bif(decide ((u64.wrap (e*(dm .u64 (u64.wrap (y*2^(min
  (u64.wrap a).toNat 64))) 4294967295)))>(u64.wrap ((u64.wrap (4294967296*b))+((u64.wrap (f*2^(min (u64.wrap a).toNat
  64))).fdiv (2^(min (32:Int).toNat 64)))))))then(q i)else(p e i)))/\(∀M:Nat->bE,∀l:bI,q l->bif(decide ((u64.wrap (b+
  ((u64.wrap (y*2^(min (u64.wrap a).toNat 64))).fdiv (2^(min (32:Int).toNat 64)))))≥4294967296))then(p (u64.wrap (e-1)) l)else
  ((n (u64.wrap (e-1)) (u64.wrap (b+((u64.wrap (y*2^(min (u64.wrap a).toNat 64))).fdiv (2^(min (32:Int).toNat 64))))) l/\
  u (u64.wrap (e-1)) (u64.wrap (b+((u64.wrap (y*2^(min (u64.wrap a).toNat 64))).fdiv (2^(min (32:Int).toNat 64))))) l<
  u e b i))))/\(∀J:Nat->bE,∀g z,p g z->((u64.wrap (y*2^(min (u64.wrap a).toNat 64))).fdiv (2^(min
  (32:Int).toNat 64)))≠0/\∃r:Int->bf8,(∃(o:Int->Int->bf8) (x:Int->Int->bI->Nat),o (u64.wrap ((u64.wrap
  ((u64.wrap ((u64.wrap ((iY .u64 (u64.wrap (h*2^(min (u64.wrap a).toNat 64))) (f.fdiv (2^(min (u64.wrap (64-(u64.wrap
  a))).toNat 64))))*4294967296))+((u64.wrap (f*2^(min (u64.wrap a).toNat 64))).fdiv (2^(min (32:Int).toNat 64)))))-(u64.wrap (g*
  (u64.wrap (y*2^(min (u64.wrap a).toNat 64)))))))-(u64.wrap ((u64.wrap ((u64.wrap ((u64.wrap ((u64.wrap ((iY .u64
  (u64.wrap (h*2^(min (u64.wrap a).toNat 64))) (f.fdiv (2^(min (u64.wrap (64-(u64.wrap a))).toNat 64))))*4294967296))+
  ((u64.wrap (f*2^(min (u64.wrap a).toNat 64))).fdiv (2^(min (32:Int).toNat 64)))))-(u64.wrap (g*(u64.wrap (y*2^(min
  (u64.wrap a).toNat 64))))))).tdiv ((u64.wrap (y*2^(min (u64.wrap a).toNat 64))).fdiv (2^(min (32:Int).toNat 64)))))*((u64.wrap (y*
  2^(min (u64.wrap a).toNat 64))).fdiv (2^(min (32:Int).toNat 64))))))) (u64.wrap ((u64.wrap ((u64.wrap ((u64.wrap ((iY .u64
  (u64.wrap (h*2^(min (u64.wrap a).toNat 64))) (f.fdiv (2^(min (u64.wrap (64-(u64.wrap a))).toNat 64))))*4294967296))+
  ((u64.wrap (f*2^(min (u64.wrap a).toNat 64))).fdiv (2^(min (32:Int).toNat 64)))))-(u64.wrap (g*(u64.wrap (y*2^(min
  (u64.wrap a).toNat 64))))))).tdiv ((u64.wrap (y*2^(min (u64.wrap a).toNat 64))).fdiv (2^(min (32:Int).toNat 64))))) z/\∀O:Nat->
  bE,∀c:Int,∀d:Int,∀j:bI,o c d j->∃s:bf8,(bif(decide (d≥4294967296))then(s j)else(bif(decide
  ((u64.wrap (d*(dm .u64 (u64.wrap (y*2^(min (u64.wrap a).toNat 64))) 4294967295)))>(u64.wrap ((u64.wrap (4294967296*
  c))+(dm .u64 (u64.wrap (f*2^(min (u64.wrap a).toNat 64))) 4294967295)))))then(s j)else(r d j)))/\(∀Q:Nat->bE,∀m:
  bI,s m->bif(decide ((u64.wrap (c+((u64.wrap (y*2^(min (u64.wrap a).toNat 64))).fdiv (2^(min (32:Int).toNat 64)))))≥
  4294967296))then(r (u64.wrap (d-1)) m)else((o (u64.wrap (c+((u64.wrap (y*2^(min (u64.wrap a).toNat 64))).fdiv (2 ^
  (min (32:Int).toNat 64))))) (u64.wrap (d-1)) m/\x (u64.wrap (c+((u64.wrap (y*2^(min (u64.wrap a).toNat 64))).fdiv (2 ^
  (min (32:Int).toNat 64))))) (u64.wrap (d-1)) m<x c d j))))/\(∀N:Nat->bE,∀k A,r k A->0<=
  (u64.wrap a)/\K (.tuple #[(.int .u64 (u64.wrap ((u64.wrap (g*4294967296))+k))),(.int .u64 ((u64.wrap ((u64.wrap
  ((u64.wrap ((u64.wrap ((u64.wrap ((u64.wrap ((iY .u64 (u64.wrap (h*2^(min (u64.wrap a).toNat 64))) (f.fdiv (2^(min
  (u64.wrap (64-(u64.wrap a))).toNat 64))))*4294967296))+((u64.wrap (f*2^(min (u64.wrap a).toNat 64))).fdiv (2^(min (32:
  Int).toNat 64)))))-(u64.wrap (g*(u64.wrap (y*2^(min (u64.wrap a).toNat 64)))))))*4294967296))+(dm .u64 (u64.wrap (f*2 ^
  (min (u64.wrap a).toNat 64))) 4294967295)))-(u64.wrap (k*(u64.wrap (y*2^(min (u64.wrap a).toNat 64))))))).fdiv (2^(min
  (u64.wrap a).toNat 64))))]) A)))))
def as0(b c y:Int)(K:bf9)(a:bA PanicEntry->bf8)(w:bI):kp P fG gM cx Pj f245 #[(.int .u64 b),(.int .u64 c),(.int .u64 y)] K a w=DM b c y K a w:=by kernel_rfl
def ass:k7 P Pj f245 3=true:=by kernel_rfl
def arT(b c y:Int){K:bf9}{a:bA PanicEntry->bf8}{w:bI}(h:DM b c y K a w):Calls P uL #[(.int .u64 b),(.int .u64 c),(.int .u64 y)] w (qq K a):=G9 mixed func245 ass (by rw[as0];exact h)
end Go.Mp
namespace Go.Mp
open Go Go.Vc Go.Sp Go.Proofs Go.Kc
def aId{x y:Nat}(hx:x<4294967296)(i:y<4294967296)(w:bI):Calls P xN #[.int .u64 (x:Nat),.int .u64 (y:Nat)] w (cz λv w'=>v=.tuple #[.int .u64 0,.int .u64 ((x*y:Nat):Int)]/\w'=w):=by
 apply Mj;unfold C4;have c:x*y<18446744073709551616:=by
  have:x*y<=4294967295*4294967295:=Gk bu bu;omega
 have f:(x:Int).fdiv (2^(min (32:Int).toNat 64))=((0:Nat):Int):=by
  rw[show(x:Int).fdiv (2^(min (32:Int).toNat 64))=((x/2^32:Nat):Int)from sh x 32,y4 bu]
 have g:(y:Int).fdiv (2^(min (32:Int).toNat 64))=((0:Nat):Int):=by
  rw[show(y:Int).fdiv (2^(min (32:Int).toNat 64))=((y/2^32:Nat):Int)from sh y 32,y4 bu]
 have m:∀ {z:Nat},z<18446744073709551616->dm .u64 (z:Int) 4294967295=((z%4294967296:Nat):Int):=by
  intro z j;have h:=sC (a:=z) (b:=4294967295) j bu;have e:z &&& 4294967295=z%4294967296:=tm z 32;rw[e]at h;exact h
 rw[f,g,m bu,m bu,mJ hx,mJ i];have d:∀a:Int,((0:Nat):Int)*a=((0:Nat):Int):=λa=>by simp
 have k:∀a:Int,a*((0:Nat):Int)=((0:Nat):Int):=λa=>by simp
 rw[d,d,k,dq (n:=0) bu,<- tD,dq c];rw[show((x*y:Nat):Int).fdiv (2^(min (32:Int).toNat 64))=((x*y/4294967296:Nat):Int)from sh _ 32];rw[show((0:Nat):Int)+((x*y/4294967296:Nat):Int)=((x*y/4294967296:Nat):Int) by omega,dq (n:=x*y/4294967296) bu];rw[show((x*y/4294967296:Nat):Int).fdiv (2^(min (32:Int).toNat 64))=((x*y/4294967296/4294967296:Nat):Int)from sh _ 32];rw[m bu,show x*y/4294967296/4294967296=0 by omega,mJ bu];rw[show((x*y/4294967296:Nat):Int)+((0:Nat):Int)=((x*y/4294967296:Nat):Int) by omega,dq (n:=x*y/4294967296) bu];rw[show((x*y/4294967296:Nat):Int).fdiv (2^(min (32:Int).toNat 64))=((x*y/4294967296/4294967296:Nat):Int)from sh _ 32,show x*y/4294967296/4294967296=0 by omega];refine⟨bN,bN,bN,bN,bN,?_,rfl⟩;simp[nB]
def Pk{E:Env}{L:ct}{x s:Nat}(hx:x<18446744073709551616)(g:s≠0){w:bI}(h:Sep E L w):Calls P uL #[.int .u64 0,.int .u64 (x:Nat),.int .u64 (s:Nat)] w (cW E (.tuple #[.int .u64 ((x/s:Nat):Int),.int .u64 ((x%s:Nat):Int)]) L):=by
 have key:Calls P uL #[.int .u64 0,.int .u64 (x:Nat),.int .u64 (s:Nat)] w (qq (λv w'=>v=.tuple #[.int .u64 ((x/s:Nat):Int),.int .u64 ((x%s:Nat):Int)]/\Sep E L w') (λ_ _=>False)):=by
  apply arT;unfold DM;refine⟨λw'=>w'=w,eQ (λe=>absurd e bu) (λ_=>rfl),?_⟩;rintro _ d rfl;refine⟨λw'=>w'=d,h6 (λe=>absurd e bu) (λ_=>rfl),?_⟩;rintro _ w2 rfl;refine bT rfl (Dr.i h (λi c=>⟨bu,bu,?_,c⟩));have a:((x:Int)).tdiv (s:Int)=((x/s:Nat):Int):=by rw[Int.tdiv_eq_ediv_of_nonneg bu];exact(Int.natCast_ediv x s).symm
  have b:((x:Int)).tmod (s:Int)=((x%s:Nat):Int):=by rw[Int.tmod_eq_emod_of_nonneg bu];exact(Int.natCast_emod x s).symm
  have:=Gf x s;rw[a,b,dq]
 refine key.mono λe w' he=>?_;rcases he with he|⟨f,_,hf⟩
 ·exact he
 ·exact hf.elim
end Go.Mp
namespace Go.Kc
open Go.Kt
def Pl:∀ {l:bA ez} {n i:Nat} {x:ez},gI n l=true->l[i]?=some x->((n+i=0/\x.parent= -1)\/(0<=x.parent/\x.parent<((n+i:Nat):Int)))/\gT x.use=true/\gT x.own=true
 |[],_,_,_,_,h=>by simp at h
 |y::l,n,0,x,h,hx=>by
  simp only[lH,fS]at hx;subst hx;unfold gI at h;simp only[dy,jI,gw]at h;exact⟨by simpa using h.1.1.1,h.1.1.2,h.1.2⟩
 |y::l,n,i+1,x,h,hx=>by
  unfold gI at h;rw[dy]at h;have:=Pl h.2 (i:=i) (by simpa using hx);rw[show n+(i+1)=n+1+i by omega];exact this
def Pm:∀ {l:bA ez} {n k:Nat},gI n l=true->gI n (l.take k)=true
 |[],n,k,h=>by simp[gI]
 |y::l,n,0,h=>by simp[gI]
 |y::l,n,k+1,h=>by
  unfold gI at h;rw[dy]at h;show gI n (y::l.take k)=true;unfold gI;rw[dy];exact⟨h.1,Pm h.2⟩
def Pn:∀ {l:bA ez} {n:Nat} {x:ez},gI n (l++[x])=(gI n l&&gI (n+l.length) [x])
 |[],n,x=>by simp[gI]
 |y::l,n,x=>by
  obtain⟨c,a⟩:∃c,∀r:bA ez,gI n (y::r)=(c&&gI (n+1) r):=⟨_,λr=>rfl⟩
  rw[o5,a,a,Pn (l:=l),hM,show n+(l.length+1)=n+1+l.length by omega,Bool.and_assoc]
def u9{n:Nat}{x:ez}:gI n [x]=(((decide (n=0)&&decide (x.parent= -1))||(decide (0<=x.parent)&&decide (x.parent<(n:Int))))&&gT x.use&&gT x.own):=by
 unfold gI;unfold gI;rw[Bool.and_true]
variable{l:bA ez}{t:Int}
def oR(h:h3 l=true){i:Nat}{x:ez}(hx:l[i]?=some x):((i=0/\x.parent= -1)\/(0<=x.parent/\x.parent<(i:Int)))/\(0<=x.use/\x.use<=top)/\0<=x.own/\x.own<=top:=by
 unfold h3 at h;rw[dy]at h;have:=Pl h.1 hx;rw[fx,wU,wU]at this;exact this
def aGc(h:h3 l=true):l.length<=64:=by
 unfold h3 at h;rw[dy,gw]at h;exact h.2
def va{i:Nat}{x:ez}(hx:l[i]?=some x):nt l (i:Int)=x:=by unfold nt;rw[dA,dJ,hx];rfl
def Po(h:h3 l=true):∀(f f':Nat) (x:Int),x<l.length->(x+1).toNat<f->(x+1).toNat<f'->lM l t f x=lM l t f' x
 |0,_,_,_,h1,_=>bu
 |_,0,_,_,_,h1=>bu
 |f+1,f'+1,x,hx,h1,h2=>by
  unfold lM;split;·rfl
  ·split;·rfl
   ·next b c=>
    obtain⟨n,rfl⟩:∃n:Nat,x=n:=⟨x.toNat,bu⟩
    obtain⟨y,a⟩:∃y,l[n]?=some y:=⟨_,dP⟩
    rw[va a];have d:=(oR h a).1;rw[Po h f f' y.parent bu bu bu]
def yg{f:Nat}{x:Int}(a:x≠t):lM l t (f+1) x=x::(if x<0 then[]else lM l t f (nt l x).parent):=by
 rw[lM,bJ a];split<;>rfl
def Pp(h:h3 l=true):∀(f:Nat) (g:Int),g<l.length->∀x∈lM l t f g,x<l.length
 |0,_,_,x,hx=>by simp[lM]at hx
 |f+1,g,c,x,hx=>by
  by_cases a:g=t;·rw[lM,bK a]at hx;cases hx
  ·rw[yg a]at hx;rcases ew.1 hx with rfl|hx;·exact c
   ·split at hx;·cases hx
    ·next d=>
     obtain⟨n,rfl⟩:∃n:Nat,g=n:=⟨g.toNat,bu⟩
     obtain⟨y,b⟩:∃y,l[n]?=some y:=⟨_,dP⟩
     rw[va b]at hx;have e:=(oR h b).1;exact Pp h f y.parent bu x hx
def azZ(h:h3 l=true)(c:0<=t){i:Nat}{x:ez}(hx:l[i]?=some x)(hb:mR l i t=true)(a:(i:Int)≠t):0<=x.parent/\x.parent<(i:Int):=by
 have b:=(cZ.1 hx).1;rcases(oR h hx).1 with⟨rfl,hp⟩|hp
 ·exfalso;unfold mR h4 at hb;rw[yg a,cD,va hx,hp]at hb;obtain⟨m,hm⟩:∃m,l.length=m+1:=⟨l.length-1,bu⟩
  rw[hm,yg bu]at hb;simp at hb
 ·exact hp
def Pq(l:bA ez)(t:Int):∀(a b:bA ez) (out:bS),lN l t (a++b) out=lN l t b (lN l t a out)
 |[],b,out=>rfl
 |x::a,b,out=>by
  show lN l t (a++b) _=lN l t b (lN l t a _);rw[Pq l t a b]
def Pt(l:bA ez)(t:Int):∀(a:bA ez) (out:bS),(lN l t a out).length=out.length+a.length
 |[],out=>rfl
 |x::a,out=>by
  show(lN l t a _).length=_;rw[Pt l t a,dd];simp;omega
def ga(l:bA ez)(t:Int)(k:Nat):bS:=lN l t (l.take k) []
def DN{k:Nat}(hk:k<=l.length):(ga l t k).length=k:=by
 unfold ga;rw[Pt,hF];simp;omega
def DO{k:Nat}{x:ez}(hx:l[k]?=some x):ga l t (k+1)=ga l t k++[mS l t (ga l t k) k x]:=by
 have a:=(cZ.1 hx).1;have hl:=DN (l:=l) (t:=t) (k:=k) bu;have:l.take (k+1)=l.take k++[x]:=by rw[mG,hx];rfl
 unfold ga at hl ⊢;rw[this,Pq];show lN l t (l.take k) []++[mS l t _ (lN l t (l.take k) []).length x]=_;rw[hl]
def vb{x:ez}(hu:0<=x.use/\x.use<=top)(ho:0<=x.own/\x.own<=top):0<=x.eX/\x.eX<=x.use:=by unfold ez.eX;omega
def aGQ{x:ez}(hx:0<=x.eX){out:bS}(a:∀y∈out,0<=y)(i:Nat):0<=mS l t out i x/\mS l t out i x<=x.eX:=by
 unfold mS;split;·exact⟨g2 _,hx⟩
 ·split
  ·next h=>
   have b:0<=out.getD x.parent.toNat 0:=by
    rw[dJ];cases c:out[x.parent.toNat]? with
    |none=>exact g2 _
    |some y=>exact a y (eI c)
   have d:0<sumOf l x.parent:=by omega
   refine⟨y6 (y7 hx b) bu,?_⟩;have h1:x.eX*out.getD x.parent.toNat 0<=x.eX*sumOf l x.parent:=be0 bu hx;have h2:=Int.ediv_le_ediv d h1;rw[Int.mul_ediv_cancel _ bu]at h2;exact h2
  ·exact⟨hx,g2 _⟩
def DP(h:h3 l=true):∀(k:Nat),k<=l.length->∀(i:Nat) (y:Int),(ga l t k)[i]?=some y->0<=y/\∃x,l[i]?=some x/\y<=x.eX
 |0,_,i,y,a=>by simp[ga,lN]at a
 |k+1,hk,i,y,a=>by
  obtain⟨x,hx⟩:∃x,l[k]?=some x:=⟨_,dP⟩
  rw[DO hx]at a;have hl:=DN (l:=l) (t:=t) (k:=k) bu;rcases hN i k with d|d
  ·rw[eM bu]at a;exact DP h k bu i y a
  ·rw[fM bu,hl]at a;have b:i-k=0:=by
    rcases k2 (i-k)with e|e;·exact e
    ·rw[gQ (by simp;omega)]at a;cases a
   rw[b]at a;simp only[lH,fS]at a;have b:i=k:=by omega
   subst b;have c:=oR h hx;have:=aGQ (l:=l) (t:=t) (x:=x) (vb c.2.1 c.2.2).1 (out:=ga l t i) (λy a=>by
    obtain⟨j,f,rfl⟩:=je.1 a;exact(DP h i bu j _ (dO f)).1) i
   rw[a]at this;exact⟨this.1,x,hx,this.2⟩
def m7(l:bA ez)(k:Nat)(p:Int):Int:=(((l.drop 1).take k).filter λx=>x.parent==p).foldl (λs x=>s+x.eX) 0
def Pu{k:Nat}{x:ez}(hx:(l.drop 1)[k]?=some x)(p:Int):m7 l (k+1) p=if x.parent=p then m7 l k p+x.eX else m7 l k p:=by
 unfold m7;have:(l.drop 1).take (k+1)=(l.drop 1).take k++[x]:=by rw[mG,hx];rfl
 rw[this,tv,y1,jH];by_cases e:x.parent=p;·rw[bK e,bK (by simpa using e)];rfl
 ·rw[bJ e,bJ (by simpa using e)];rfl
def Pw(p:Int):m7 l (l.length-1) p=sumOf l p:=by
 unfold m7 sumOf;rw[iw (by simp)]
def DQ(h:h3 l=true)(p:Int):∀(k:Nat),k<l.length->0<=m7 l k p/\m7 l k p<=k*top
 |0,_=>by show 0<=(0:Int)/\(0:Int)<=_;omega
 |k+1,hk=>by
  obtain⟨x,hx⟩:∃x,l[k+1]?=some x:=⟨_,dP⟩
  have b:(l.drop 1)[k]?=some x:=by rw[pY,rK];exact hx
  have c:=DQ h p k bu;have a:=oR h hx;have ho:=vb a.2.1 a.2.2;rw[Pu b];have e:((k+1:Nat):Int)*top=(k:Int)*top+top:=by rw[Gg,Int.add_mul];simp
  rw[e];have:0<=top:=by decide
  split<;>omega
end Go.Kc
namespace Go.Sp
open Go Go.Vc
variable{E:Env}{L:ct}{w:bI}{P:cN}
abbrev Px(P:cN)(E:Env)(f:bg5)(ca:cb bE)(A A' S:Asn)(xs:bA bE):Prop:=C9 P E f (λy=> #[y]++ca) A A' S xs
def iB.iS{τ:cc->K1}{ρ:cc->Kd}{cx:bg5->Bool}{An:dQ}{yl:Nat->Bool}{N p:Nat}{f:bg5}{ca:cb bE}{A A' S:Asn}{xs:bA bE}{e body c:Code}{T:Tr}{done ret:Nat->bf8}(hm:P.follows .mixedOrders=true)(o:N<=8000)(hp:p<N)(n:gL P N An e=true/\gL P N An body=true)(hf:kO P f=true)(q:Px P E f ca A A' S xs)(a j:Nat->Asn)(g:∀(l:Nat) (r:Loop) L k x W R,r.state=.ready->r.pending=none->xs[k]?=some x->Sep E (c5 l (.loop r)::a k::S::L) W->(∀d,Sep E (c5 l (.loop r)::a (k+1)::S::L) d->R (.returned (.bool true)) d)->
   (∀d,Sep E (c5 l (.loop {r with state:=.done,pending:=some c})::j k::S::L) d->R (.returned (.bool false)) d)->mo P τ ρ cx An yl N l e body (ln [(p,x)] T) W R)(h:Sep E (a 0::S::A::L) w)(i:∀b W,Sep E (c5 b (.deferred (some []))::a xs.length::S::A'::L) W->done b W)(m:∀b k W,k<xs.length->Sep E (c5 b (.deferred (some []))::j k::S::A'::L) W->ret b W):iB P N (.func (.func f) #[] ca) #[p] e body c T w done ret:=
 iB.Da (fi:= #[]) (λy=>by simp) hm o hp n hf q a j g h i m
end Go.Sp
namespace Go.Kc
open Go
def ez.vs(x:ez):bA bE:=[Iv x.parent,Iv x.use,Iv x.own]
def ez.mx(x:ez):x.vs.length=3:=rfl
end Go.Kc
namespace Go.Mp
open Go Go.Vc Go.Sp Go.Proofs Go.Kc
variable{E:Env}{L:ct}{w W:bI}
abbrev en(s:Sl)(l:bA ez):Asn:=bw s 3 (bQ ez.vs l)
def vd{s:Sl}{l:bA ez}{i:Int}{f:Addr->Prop}(q:Nat)(h:Sep E L w)(e:L[q]?=some (en s l))(hn:s.n=l.length){k:Nat}(d:i=k){x:ez}(hx:l[k]?=some x)(g:∀a,w.cell? (a.add 0)=some (Iv x.parent)->w.cell? (a.add 1)=some (Iv x.use)->w.cell? (a.add 2)=some (Iv x.own)->f a):cK s.p s.n i 3 f:=
 lV ez.mx q h e hn d hx (λb _ c=>g _ (by rw[cf];exact c 0 _ rfl) (by rw[cf];exact c 1 _ rfl) (by rw[cf];exact c 2 _ rfl))
def yh(g:Int)(w:bI):Calls P uM #[Iv g] w (cz λv w'=>v=.bool (gT g)/\w'=w):=by
 apply XU;unfold Mh gT top;exact h6 (λh=>⟨by rw[dF h];rfl,rfl⟩) (λh=>⟨by rw[dg bu];rfl,rfl⟩)
def Py{x:ez}(h:Sep E L w):Calls P Ct #[.agg #[Iv x.parent,Iv x.use,Iv x.own]] w (cW E (Iv x.eX) L):=by
 apply Xr;unfold LS qL;refine Al.i h (λp a h1=>⟨_,by rw[cf];exact h1.cell 2,_,by rw[cf];exact h1.cell 1,?_,h1.tail⟩);unfold ez.eX min1;congr 1;split<;>omega
def Pz{s:Sl}{l:bA ez}{q:Nat}(G:L[q]?=some (en s l))(hn:s.n=l.length)(hb:l.length<1000000)(h:Sep E L w):Calls P Cr #[Sv s] w (cW E (.bool (h3 l)) L):=by
 apply Xq;unfold LR qF qL qO qU qW qh qi ql;refine⟨λx w'=>∃k:Nat,x=k/\k<=l.length/\gI 0 (l.take k)=true/\Sep E L w',λx _=>(l.length-x).toNat,⟨0,rfl,fj _,by simp[gI],h⟩,?_⟩;rintro _ x N ⟨k,rfl,hk,o,h1⟩;refine cU (λM=>?_) (λJ=>?_)
 ·obtain⟨y,A⟩:∃y,l[k]?=some y:=⟨_,dP⟩
  refine vd q h1 G hn rfl A (λa C D F=>⟨_,C,_,D,_,F,Al.i h1 (λp w2 h2=>et _ h2 rfl (λr b=>?_))⟩);have m:gI 0 (l.take (k+1))=gI k [y]:=by
   rw[fL A,Pn,o,l5,fx,hF,o6 hk]
  have bad:gI k [y]=false->h3 l=false:=by
   intro f;unfold h3;cases z:gI 0 l with
   |false=>rfl
   |true=>
    have:=Pm (k:=k+1) z;rw[m,f]at this;cases this
  have cell:∀(j:Nat) {w':bI},Sep E (bC p [Iv y.parent,Iv y.use,Iv y.own]::L) w'->w'.cell? ((⟨p,0,none⟩:Addr).add j)=([Iv y.parent,Iv y.use,Iv y.own]:bA bE)[j]? :=by
   intro j w' H;rw[cf,H.cell,fx]
  have g:gI k [y]=true->(∃k':Nat,i64.wrap ((k:Int)+1)=k'/\k'<=l.length/\gI 0 (l.take k')=true/\Sep E L r)/\(l.length-i64.wrap ((k:Int)+1)).toNat<(l.length-(k:Int)).toNat:=by
   intro f;exact⟨⟨k+1,dc,bu,by rw[m,f],b.tail⟩,by rw[dc];omega⟩
  have two:∀(B:bf8),(∀w',w'=r->B w')->((decide (k=0)&&decide (y.parent= -1))||(decide (0<=y.parent)&&decide (y.parent<(k:Int))))=true->
    (gI k [y]=(gT y.use&&gT y.own)):=by
   intro _ _ f;rw[u9,f,l5]
  refine⟨λroot w'=>root=(decide (k=0)&&decide (y.parent= -1))/\w'=r,eQ (λe=>⟨_,cell 0 b,?_,rfl⟩) (λe=>⟨?_,rfl⟩),?_⟩
  ·rw[dF (show k=0 by omega),l5];by_cases n:y.parent= -1;·rw[n];rfl
   ·rw[dg n];simpa using n
  ·rw[dg (show ¬ k=0 by omega),wg]
  ·rintro _ root i ⟨rfl,rfl⟩;have tail:((decide (k=0)&&decide (y.parent= -1))||(decide (0<=y.parent)&&decide (y.parent<(k:Int))))=true->∀ {K:bf8},(gI k [y]=true->K i)->(gI k [y]=false->Value.bool false=.bool (h3 l)/\Sep E L i->True)->True:=λ_ _ _ _=>trivial;have _:=tail;have _:=two;cases c:(decide (k=0)&&decide (y.parent= -1))with
   |false=>
    refine bT rfl ⟨_,cell 0 b,cU (λf=>⟨?_,b.tail⟩) (λf=>⟨_,cell 0 b,hs (λu=>⟨?_,b.tail⟩) (λu=>⟨_,cell 1 b,use (yh _ i) ?_⟩)⟩)⟩
    ·rw[bad];rw[u9,c,dg (show ¬ 0<=y.parent by omega)];rfl
    ·rw[bad];rw[u9,c,dg (show ¬ y.parent<(k:Int) by omega),rJ];rfl
    ·rintro _ t ⟨rfl,rfl⟩;have d:gI k [y]=(gT y.use&&gT y.own):=by
      rw[u9,c,dF (show 0<=y.parent by omega),dF (show y.parent<(k:Int) by omega)];rfl
     refine⟨_,rfl,?_⟩;cases hu:gT y.use with
     |false=>exact bT rfl ⟨by rw[bad];rw[d,hu];rfl,b.tail⟩
     |true=>
      refine bF rfl ⟨_,cell 2 b,use (yh _ t) ?_⟩;rintro _ I ⟨rfl,rfl⟩;refine⟨_,rfl,?_⟩;cases ho:gT y.own with
      |false=>exact bT rfl ⟨by rw[bad];rw[d,hu,ho];rfl,b.tail⟩
      |true=>exact bF rfl (g (by rw[d,hu,ho];rfl))
   |true=>
    refine bF rfl ⟨_,cell 1 b,use (yh _ i) ?_⟩;rintro _ t ⟨rfl,rfl⟩;have d:gI k [y]=(gT y.use&&gT y.own):=by
     rw[u9,c];rfl
    refine⟨_,rfl,?_⟩;cases hu:gT y.use with
    |false=>exact bT rfl ⟨by rw[bad];rw[d,hu];rfl,b.tail⟩
    |true=>
     refine bF rfl ⟨_,cell 2 b,use (yh _ t) ?_⟩;rintro _ I ⟨rfl,rfl⟩;refine⟨_,rfl,?_⟩;cases ho:gT y.own with
     |false=>exact bT rfl ⟨by rw[bad];rw[d,hu,ho];rfl,b.tail⟩
     |true=>exact bF rfl (g (by rw[d,hu,ho];rfl))
 ·have:k=l.length:=by omega
  subst this;rw[gf]at o;refine⟨?_,h1⟩;unfold h3;rw[o,l5,hn];congr 1;exact tB.2 bu
def PC:kO P sv=true:=by kernel_rfl
def PD{s:Sl}{g t:Int}(h:Sep E L w):Calls P Cu #[Sv s,Iv g,Iv t] w (cz λv w'=>∃a b c,v=.func (.func sv) #[] #[Pb b,Pb c,Pb a]/\
  Sep E (bC b [Iv g]::bC c [Iv t]::bC a [Sv s]::L) w'):=by
 apply Xz;unfold LW qC;exact Al.i h (λa e h1=>Al.i h1 (λb w2 h2=>Al.i h2 (λc f d=>⟨a,b,c,rfl,d.ro 3 [1,0,2] rfl⟩)))
def lq(a b c:Nat)(s:Sl)(t g:Int):Asn:=star (bC b [Iv g]) (star (bC c [Iv t]) (bC a [Sv s]))
def PE{c b d:Nat}{s:Sl}{l:bA ez}{g t:Int}(hn:s.n=l.length)(D:h3 l=true)(N:g<l.length)(T:0<=t):
  Px P E sv #[Pb b,Pb d,Pb c] (lq c b d s t g) (fa λx:Int=>lq c b d s t x) (en s l) ((h4 l t g).map (Value.int .i64)):=by
 intro F J X M L W h;have pack:∀ {A:Asn} {x:Int} {i:bI},Sep E (A::en s l::bC b [Iv x]::bC d [Iv t]::bC c [Sv s]::L) i->Sep E (A::en s l::(fa λx:Int=>lq c b d s t x)::L) i:=by
  intro A x i O;have h1:Sep E (bC d [Iv t]::bC c [Sv s]::bC b [Iv x]::A::en s l::L) i:=O.ro 5 [3,4,2,0,1] rfl;have h2:=Sep.star.2 ((Sep.star.2 h1).swap);exact(Sep.ex.2 ⟨x,h2⟩:Sep E ((fa λx:Int=>lq c b d s t x)::A::en s l::L) i).ro 3 [1,2,0] rfl
 refine Calls.mono (R:=cz λv i=>v=.tuple #[]/\(Sep E (J ((h4 l t g).map (Value.int .i64)).length::en s l::(fa λx:Int=>lq c b d s t x)::L) i\/
  ∃k,k<((h4 l t g).map (Value.int .i64)).length/\Sep E (X k::en s l::(fa λx:Int=>lq c b d s t x)::L) i)) ?_ (λe i he=>?_)
 rotate_left
 ·obtain⟨v,rfl,rfl,he⟩:=he;exact⟨⟨_,rfl⟩,he⟩
 have h1:Sep E (J 0::en s l::bC b [Iv g]::bC d [Iv t]::bC c [Sv s]::L) W:=by
  have h2:Sep E (lq c b d s t g::J 0::en s l::L) W:=h.ro 3 [2,0,1] rfl;have f:=Sep.star.1 ((Sep.star.1 h2).swap);exact f.ro 5 [3,4,2,0,1] rfl
 show Calls P sv #[.func (.yield F) #[] #[],Pb b,Pb d,Pb c] W _;apply XY;unfold C5 qD qL qW qc qd;rw[ei];refine⟨λw'=>∃(k:Nat) (x:Int),x<l.length/\k<=(h4 l t g).length/\(h4 l t g).drop k=lM l t (l.length+1) x/\Sep E (J k::en s l::bC b [Iv x]::bC d [Iv t]::bC c [Sv s]::L) w',
  λw'=>match w'.cell? ⟨b,0,none⟩with|some (.int _ x)=>(x+1).toNat|_=>0,⟨0,g,N,fj _,rfl,h1⟩,?_⟩
 rintro _ w2 ⟨k,x,hx,Q,n,h2⟩;refine⟨x,h2.cellAt 2 rfl 0,t,h2.cellAt 3 rfl 0,hJ (λC=>?_) (λhe=>?_)⟩
 ·refine⟨x,h2.cellAt 2 rfl 0,F,rfl,?_⟩;rw[yg C]at n;have hk:(h4 l t g)[k]?=some x:=by
   have:((h4 l t g).drop k)[0]?=some x:=by rw[n];rfl
   rwa[pY,lK]at this
  have B:((h4 l t g).map (Value.int .i64))[k]?=some (Iv x):=by rw[eC,hk];rfl
  have q:=(cZ.1 hk).1;have j:(h4 l t g).drop (k+1)=if x<0 then[]else lM l t l.length (nt l x).parent:=by rw[<- p1,n];rfl
  obtain⟨fn,tmps,w,body,r,o⟩:=M _ k _ _ B h2;refine⟨fn,tmps,w,body,r,o.mono λe U he=>?_⟩;rcases he with⟨rfl,f⟩|⟨rfl,f⟩
  ·refine⟨true,rfl,bF rfl ⟨x,f.cellAt 2 rfl 0,cU (λz=>⟨rfl,.inl ?_⟩) (λz=>?_)⟩⟩
   ·rw[bK z]at j;have:(h4 l t g).length=k+1:=by
     have:=eJ List.length j;rw[nR]at this;simp at this;omega
    rw[this];exact pack f
   ·rw[cD]at j;obtain⟨m,rfl⟩:∃m:Nat,x=m:=⟨x.toNat,bu⟩
    obtain⟨y,u⟩:∃y,l[m]?=some y:=⟨_,dP⟩
    rw[va u]at j;have S:=(oR D u).1;refine⟨s,f.cellAt 4 rfl 0,_,f.cellAt 2 rfl 0,vd 1 f rfl hn rfl u (λa H _ _=>⟨_,H,?_⟩)⟩;refine St.i (f.ro 5 [2,0,1,3,4] rfl) (by show 0<1;decide) (λG p=>?_);have p:Sep E (bC b [Iv y.parent]::J (k+1)::en s l::bC d [Iv t]::bC c [Sv s]::L) G:=p;have I:G.cell? ⟨b,0,none⟩=some (Iv y.parent):=p.cell 0;have K:w2.cell? ⟨b,0,none⟩=some (Iv (m:Int)):=h2.cellAt 2 rfl 0;dsimp only;rw[I,K];refine⟨rfl,⟨k+1,y.parent,bu,q,?_,p.ro 5 [1,2,0,3,4] rfl⟩,?_⟩
    ·rw[j];exact Po D _ _ _ bu bu bu
    ·show(y.parent+1).toNat<((m:Int)+1).toNat;omega
  ·exact⟨false,rfl,bT rfl ⟨rfl,.inr ⟨k,q,pack f⟩⟩⟩
 ·refine⟨rfl,.inl ?_⟩;rw[lM,bK he]at n;have:(h4 l t g).length=k:=by
   have:=eJ List.length n;rw[nR]at this;simp at this;omega
  rw[this];exact pack h2
def PF{r:Loop}(h1:r.state=.ready)(h2:r.pending=none):({ {r with state:=.busy} with state:=if(none:bV Code).isNone then .ready else .done,pending:=none} :Loop)=r:=by
 cases r;simp only at h1 h2;subst h1 h2;rfl
def PG{s:Sl}{l:bA ez}{g t:Int}{q:Nat}(M:L[q]?=some (en s l))(hn:s.n=l.length)(O:h3 l=true)(H:g<l.length)(N:0<=t)(h:Sep E L w):
  Calls P xM #[Sv s,Iv g,Iv t] w (cW E (.bool (mR l g t)) (en s l::L.eraseIdx q)):=by
 apply Xu;unfold C3 qN;refine Al.i (h.fr q M) (λp S h1=>use (PD h1) ?_);rintro _ w2 ⟨m,n,o,rfl,h2⟩;refine⟨_,rfl,?_⟩;have F:Sep E (cG (((h4 l t g).take 0).all (λx=>decide (0<=x))=true) (bC p [.bool false])::en s l::lq m n o s t g::L.eraseIdx q) w2:=by
  have G:Sep E (bC o [Iv t]::bC m [Sv s]::bC n [Iv g]::bC p [.bool false]::en s l::L.eraseIdx q) w2:=h2.ro 5 [1,2,0,3,4] rfl;have c:=Sep.star.2 ((Sep.star.2 G).swap);exact Sep.cG.2 ⟨rfl,(show Sep E (lq m n o s t g::bC p [.bool false]::en s l::L.eraseIdx q) w2 from c).ro 3 [1,2,0] rfl⟩
 refine iB.iS (τ:=fG) (ρ:=gM) (cx:=cx) (An:=sB) (yl:=C7) mixed bN bN Xw PC (PE hn O H N)
  (λk=>cG (((h4 l t g).take k).all (λx=>decide (0<=x))=true) (bC p [.bool false])) (λ_=>cG (mR l g t=false) (bC p [.bool false])) ?_ F ?_ ?_
 ·intro Q r L' k x W R u B hx f A j;obtain⟨y,C,rfl⟩:∃y,(h4 l t g)[k]?=some y/\x=Iv y:=by
   rw[eC]at hx;cases hk:(h4 l t g)[k]? with
   |none=>rw[hk]at hx;cases hx
   |some y=>rw[hk]at hx;exact⟨y,rfl,(cR hx).symm⟩
  refine(Xv s g t ⟨p,0,none⟩ _ y Q W R).mpr ?_;unfold Mi;refine lk.i f u (λD c=>?_);obtain⟨a,d⟩:=Sep.cG.1 c.swap;refine cU (λJ=>?_) (λK=>?_)
  ·refine St.i d (by show 0<1;decide) (λT e=>?_);refine e3.i e.swap (λz i=>j z ?_);refine Sep.swap (Sep.cG.2 ⟨?_,i.swap⟩);unfold mR;cases I:(h4 l t g).all λx=>decide (0<=x)with
   |false=>rfl
   |true=>
    have:=fQ.1 I y (eI C);simp at this;omega
  ·refine e3.i d.swap (λz i=>A z ?_);rw[PF u B]at i;refine Sep.swap (Sep.cG.2 ⟨?_,i.swap⟩);rw[fL C,List.all_append,a];simp;omega
 ·intro b W f;obtain⟨a,c⟩:=Sep.cG.1 f.swap;rw[ei,gf]at a;refine St.i c (by show 0<1;decide) (λD d=>?_);have d:Sep E (bC p [.bool true]::c5 b (.deferred (some []))::en s l::(fa λx:Int=>lq m n o s t x)::L.eraseIdx q) D:=d;have e:=d.swap.putObj (o':=.deferred none);refine⟨d.swap.di,_,e.cellAt 1 rfl 0,?_,e.ro 4 [2] rfl⟩;unfold mR;rw[a]
 ·intro b k W _ f;obtain⟨hb,c⟩:=Sep.cG.1 f.swap;have e:=c.swap.putObj (o':=.deferred none);refine⟨c.swap.di,_,e.cellAt 1 rfl 0,?_,e.ro 4 [2] rfl⟩;rw[hb]
def aGE{s e:Sl}{l:bA ez}{t:Int}{q:Nat}(b:L[q]?=some (en s l))(hn:s.n=l.length)(hb:l.length<1000000)(h:Sep E L w):
  Calls P Jb #[Sv s,Sv e,Iv t] w (cW E (.bool (h3 l&&decide (e.n=l.length)&&decide (0<=t)&&decide (t<l.length))) L):=by
 apply Xy;unfold LV qF;refine use (Pz b hn hb h) ?_;rintro _ d ⟨rfl,h1⟩;refine⟨_,rfl,?_⟩;cases h3 l with
 |false=>exact bF rfl ⟨rfl,h1⟩
 |true=>
  refine bT rfl (eQ (λhe=>?_) (λc=>?_))
  ·have he:e.n=l.length:=by omega
   refine h6 (λa=>⟨?_,h1⟩) (λa=>⟨?_,h1⟩);·rw[dF he,dF a,hn];rfl
   ·rw[dg (show ¬ 0<=t by omega),rJ,wg]
  ·rw[dg (show ¬ e.n=l.length by omega)];exact⟨rfl,h1⟩
def aJq{s e:Sl}{l:bA ez}{dU:bS}{g t:Int}(hn:s.n=l.length)(he:e.n=dU.length)(hb:l.length<1000000)(h:Sep E (en s l::bw e 1 (bD dU)::L) w):
  Calls P B9 #[Sv s,Sv e,Iv t,Iv g] w (cW E (.bool (nu l dU t g)) (en s l::bw e 1 (bD dU)::L)):=by
 apply WX;unfold CY qF qN qc qm;refine Al.i h (λp aF h1=>Al.i h1 (λu w2 h2=>Al.i h2 (λf az S=>?_)));have S:Sep E (bC f [.bool false]::bC u [Sv e]::bC p [Sv s]::en s l::bw e 1 (bD dU)::L) az:=S;refine⟨s,S.cellAt 2 rfl 0,e,S.cellAt 1 rfl 0,use (aGE (q:=3) rfl hn hb S) ?_⟩;rintro _ aG ⟨rfl,J⟩;refine⟨_,rfl,?_⟩;have fin:∀ {ab:bI} {M:ct},Sep E (bC f [.bool false]::M) ab->(∀i,Sep E (bC f [.bool false]::M) i->Value.bool false=.bool (nu l dU t g)/\Sep E (en s l::bw e 1 (bD dU)::L) i)->
   St ⟨f,0,none⟩ (.bool false) (λi=>∃r:Bool,i.cell? ⟨f,0,none⟩=some (.bool r)/\(λv w'=>v=Value.bool (nu l dU t g)/\Sep E (en s l::bw e 1 (bD dU)::L) w') (.bool r) i) ab:=by
  intro ab M B hk;exact St.i B (by show 0<1;decide) (λi n=>⟨false,n.cell 0,hk i n⟩)
 have o:∀ {i:bI},(h3 l=false\/dU.length≠l.length\/t<0\/(l.length:Int)<=t\/g<0\/(l.length:Int)<=g\/mR l g t=false)->Sep E (bC f [.bool false]::bC u [Sv e]::bC p [Sv s]::en s l::bw e 1 (bD dU)::L) i->
   Value.bool false=.bool (nu l dU t g)/\Sep E (en s l::bw e 1 (bD dU)::L) i:=by
  intro i ax n;unfold nu;rw[bK ax];exact⟨rfl,n.ro 5 [3,4] rfl⟩
 cases hr:(h3 l&&decide (e.n=l.length)&&decide (0<=t)&&decide (t<l.length))with
 |false=>
  refine bT rfl (fin J (λi n=>o ?_ n));by_cases A:h3 l=true
  ·by_cases aj:e.n=l.length
   ·by_cases a3:0<=t
    ·rw[A,dF aj,dF a3]at hr;have:¬ t<l.length:=by simpa using hr
     exact .inr (.inr (.inr (.inl bu)))
    ·exact .inr (.inr (.inl bu))
   ·exact .inr (.inl bu)
  ·exact .inl (by simpa using A)
 |true=>
  simp only[dy,gw]at hr;obtain⟨⟨⟨A,aj⟩,a3⟩,a4⟩:=hr;refine bF rfl (cU (λal=>fin J (λi n=>o (.inr (.inr (.inr (.inr (.inl al))))) n)) (λal=>?_));refine⟨s,J.cellAt 2 rfl 0,hs (λaA=>fin J (λi n=>o (.inr (.inr (.inr (.inr (.inr (.inl bu)))))) n)) (λaC=>?_)⟩;refine⟨s,J.cellAt 2 rfl 0,use (PG (q:=3) rfl hn A bu a3 J) ?_⟩;rintro _ ab ⟨rfl,B⟩;have B:Sep E (en s l::bC f [.bool false]::bC u [Sv e]::bC p [Sv s]::bw e 1 (bD dU)::L) ab:=B;refine⟨_,rfl,?_⟩;cases V:mR l g t with
  |false=>exact bT rfl (fin (B.ro 5 [1,2,3,0,4] rfl) (λi n=>o (.inr (.inr (.inr (.inr (.inr (.inr V)))))) n))
  |true=>
   refine bF rfl ⟨s,B.cellAt 3 rfl 0,use (PD B) ?_⟩;rintro _ i ⟨K,N,O,rfl,n⟩;refine⟨_,rfl,?_⟩;have Y:nu l dU t g=(h4 l t g).any λx=>decide ((nt l x).use<=dU.getD x.toNat 0):=by
    unfold nu;rw[bJ];rintro(c|c|c|c|c|c|c);·rw[A]at c;cases c
    ·omega
    ·omega
    ·omega
    ·omega
    ·omega
    ·rw[V]at c;cases c
   let ad:Nat->Asn:=λk=>cG (((h4 l t g).take k).any (λx=>decide ((nt l x).use<=dU.getD x.toNat 0))=false) (star (bC f [.bool false]) (star (bC u [Sv e]) (star (bC p [Sv s]) (bw e 1 (bD dU)))));have Z:∀ {k:Nat} {M:ct} {w':bI},Sep E (ad k::M) w'->((h4 l t g).take k).any (λx=>decide ((nt l x).use<=dU.getD x.toNat 0))=false/\Sep E (bC f [.bool false]::bC u [Sv e]::bC p [Sv s]::bw e 1 (bD dU)::M) w':=by
    intro k M w' X;obtain⟨c,X⟩:=Sep.cG.1 X;refine⟨c,?_⟩;have Q:=Sep.star.1 X;have I:=Sep.star.1 Q.swap;have aE:=Sep.star.1 (I.swap);exact(Sep.star.1 ((I.ro 3 [1,2,0] rfl))).ro 4 [2,3,0,1] rfl
   have ai:∀ {k:Nat} {M:ct} {w':bI},((h4 l t g).take k).any (λx=>decide ((nt l x).use<=dU.getD x.toNat 0))=false->Sep E (bC f [.bool false]::bC u [Sv e]::bC p [Sv s]::bw e 1 (bD dU)::M) w'->Sep E (ad k::M) w':=by
    intro k M w' c X;refine Sep.cG.2 ⟨c,?_⟩;have Q:=Sep.star.2 (X.ro 4 [2,3,0,1] rfl);have I:=Sep.star.2 (Q.ro 3 [2,0,1] rfl);exact Sep.star.2 I.swap
   have aw:Sep E (ad 0::en s l::lq K N O s t g::L) i:=by
    have Q:Sep E (bC O [Iv t]::bC K [Sv s]::bC N [Iv g]::en s l::bC f [.bool false]::bC u [Sv e]::bC p [Sv s]::bw e 1 (bD dU)::L) i:=n.ro 8 [1,2,0,3,4,5,6,7] rfl;have I:Sep E (lq K N O s t g::en s l::bC f [.bool false]::bC u [Sv e]::bC p [Sv s]::bw e 1 (bD dU)::L) i:=Sep.star.2 ((Sep.star.2 Q).swap);exact ai (by simp) (I.ro 6 [2,3,4,5,1,0] rfl)
   refine iB.iS (τ:=fG) (ρ:=gM) (cx:=cx) (An:=sA) (yl:=C2) mixed bN bN WZ PC (PE hn A bu a3)
    ad (λ_=>cG (nu l dU t g=true) (star (bC f [.bool true]) (bw e 1 (bD dU)))) ?_ aw ?_ ?_
   ·intro ag r L' k x W R ah ap hx U ao ae;obtain⟨y,af,rfl⟩:∃y,(h4 l t g)[k]?=some y/\x=Iv y:=by
     rw[eC]at hx;cases hk:(h4 l t g)[k]? with
     |none=>rw[hk]at hx;cases hx
     |some y=>rw[hk]at hx;exact⟨y,rfl,(cR hx).symm⟩
    have aD:0<=y:=by
     have:=fQ.1 (show(h4 l t g).all (λx=>decide (0<=x))=true from V) y (eI af);simpa using this
    have ay:y<l.length:=Pp A _ _ bu y (eI af);obtain⟨m,rfl⟩:∃m:Nat,y=m:=⟨y.toNat,bu⟩
    obtain⟨z,aq⟩:∃z,l[m]?=some z:=⟨_,dP⟩
    refine(WY s e t g ⟨p,0,none⟩ ⟨u,0,none⟩ ⟨f,0,none⟩ _ _ _ _ _ _ _ _ (m:Int) ag W R).mpr ?_;unfold LL qD qL qW qc;refine lk.i U ah (λaa T=>Dr.i T (λar C=>?_));obtain⟨G,d⟩:=Z C.swap;have d:Sep E (bC f [.bool false]::bC u [Sv e]::bC p [Sv s]::bw e 1 (bD dU)::c5 ag (.loop {r with state:=.busy})::en s l::L') ar:=d;refine⟨s,d.cellAt 2 rfl 0,vd 5 d rfl hn rfl aq (λa _ av _=>⟨_,av,e,d.cellAt 1 rfl 0,mu 3 d rfl he bu bu (λaj an=>⟨_,an,?_⟩)⟩)⟩;have F:decide ((nt l (m:Int)).use<=dU.getD ((m:Int)).toNat 0)=decide (z.use<=dU.getD ((m:Int)).toNat 0):=by rw[va aq]
    refine h6 (λhle=>?_) (λaB=>?_)
    ·refine St.i d (by show 0<1;decide) (λau j=>?_);have j:Sep E (bC f [.bool true]::bC u [Sv e]::bC p [Sv s]::bw e 1 (bD dU)::c5 ag (.loop {r with state:=.busy})::en s l::L') au:=j;refine e3.i (j.ro 6 [4,0,3,5] rfl) (λH D=>ae H ?_);refine Sep.swap (Sep.cG.2 ⟨?_,?_⟩)
     ·rw[Y];exact tA.2 ⟨(m:Int),eI af,by rw[F];exact dF hle⟩
     ·have am:Sep E (bC f [.bool true]::bw e 1 (bD dU)::c5 ag (.loop {r with state:=.done,pending:=some .ret})::en s l::L') H:=D.ro 3 [1,2,0] rfl;exact Sep.star.2 am
    ·refine e3.i (d.ro 6 [4,0,1,2,3,5] rfl) (λH D=>ao H ?_);rw[PF ah ap]at D;refine Sep.swap (ai ?_ (D.ro 5 [1,2,3,4,0] rfl));rw[fL af,Gh,G];simp only[List.any_cons,List.any_nil,o7,Gl];rw[F];exact dg bu
   ·intro b W U;obtain⟨G,T⟩:=Z U.swap;rw[ei,gf]at G;refine St.i T (by show 0<1;decide) (λaa C=>?_);have C:Sep E (bC f [.bool false]::bC u [Sv e]::bC p [Sv s]::bw e 1 (bD dU)::c5 b (.deferred (some []))::en s l::(fa λx:Int=>lq K N O s t x)::L) aa:=C;have d:Sep E (c5 b (.deferred (some []))::bC f [.bool false]::bC u [Sv e]::bC p [Sv s]::bw e 1 (bD dU)::en s l::(fa λx:Int=>lq K N O s t x)::L) aa:=C.ro 5 [4,0,1,2,3] rfl;have j:=d.putObj (o':=.deferred none);exact⟨d.di,_,j.cellAt 1 rfl 0,by rw[Y,G],j.ro 7 [5,4] rfl⟩
   ·intro b k W _ U;obtain⟨ak,T⟩:=Sep.cG.1 U.swap;have C:=Sep.star.1 T;have d:Sep E (c5 b (.deferred (some []))::bC f [.bool true]::bw e 1 (bD dU)::en s l::(fa λx:Int=>lq K N O s t x)::L) W:=C.ro 3 [2,0,1] rfl;have j:=d.putObj (o':=.deferred none);exact⟨d.di,_,j.cellAt 1 rfl 0,by rw[ak],j.ro 5 [3,2] rfl⟩
def aJE{a p s:Int}(e:0<=a/\a<2147483648)(hp:0<=p/\p<2147483648)(f:0<s/\s<9223372036854775808)(h:Sep E L w):Calls P Ja #[Iv a,Iv p,Iv s] w (cW E (Iv (a*p/s)) L):=by
 apply Xx;unfold LU zN;obtain⟨x,rfl⟩:∃x:Nat,a=x:=⟨a.toNat,bu⟩
 obtain⟨y,rfl⟩:∃y:Nat,p=y:=⟨p.toNat,bu⟩
 obtain⟨z,rfl⟩:∃z:Nat,s=z:=⟨s.toNat,bu⟩
 rw[dq (n:=x) bu,dq (n:=y) bu,dq (n:=z) bu];have b:x*y<18446744073709551616:=by
  have:x*y<=4294967295*4294967295:=Gk bu bu;omega
 refine use (aId bu bu w) ?_;rintro _ g ⟨rfl,rfl⟩;refine⟨_,_,rfl,use (Pk b bu h) ?_⟩;rintro _ w2 ⟨rfl,h2⟩;refine⟨_,_,rfl,?_,h2⟩;have c:x*y/z<=x*y:=Gf _ _;have d:x*y<=2147483647*2147483647:=Gk bu bu;rw[<- tD,<- Int.natCast_ediv];generalize x*y/z=q at*
 rw[cP bu bu]
def aJ9(n:Nat):((List.range (((n:Nat):Int).toNat*1)).map λi=>(([Value.int .i64 0]:bA bE).toArray)[i%([Value.int .i64 0]:bA bE).length]!)=bD (List.replicate n 0):=by
 rw[dA,fR];apply hg;intro i;rw[eC,x3,om];by_cases a:i<n
 ·rw[na a,bK a];simp[Nat.mod_one]
 ·rw[gQ (by simpa using a),bJ a];rfl
def s0{n:Nat}(hb:n<1000000)(h:Sep E L w){G:Sl->bf8}(k:∀s a,s.n=n->Sep E (bw s 1 (bD (List.replicate n 0))::L) a->G s a):
  ∃x:Sl,∃a,Sem.run P (Instr.makeSlice mr (Iv ((n:Nat):Int)) (Iv ((n:Nat):Int))) w=.ok (Sv x) a/\G x a:=by
 refine makeSlice.i h (by kernel_rfl:hi P mr=some (8,1,[Iv 0])) bu (g2 _) bu bu (λb a h1=>k _ a (by simp) ?_);rw[aJ9]at h1;exact bw.make (spare:=[]) (by simpa using h1) (by simp) (by simp) (ek _)
def kE{s:Sl}{l:bS}{i x:Int}{F:bf8}(h:Sep E (bw s 1 (bD l)::L) w)(hn:s.n=l.length)(d:0<=i)(h1:i<l.length)(k:∀c,Sep E (bw s 1 (bD (l.set i.toNat x))::L) c->F c):cK s.p s.n i 1 λa=>St a (Iv x) F w:=by
 refine bw.el 0 h rfl d bu (λb hb _=>?_);rw[fR];refine bw.st h hb (by simp;omega) (λc h1=>k c ?_);have:bD (l.set i.toNat x)=(bD l).set i.toNat (Iv x):=by simp[bD,hG]
 rw[this];exact h1
def ob:top=1099511627776:=rfl
def aBI{s:Sl}{l:bA ez}{t:Int}(hn:s.n=l.length)(hb:l.length<1000000)(a7:s.n<=s.c)(aw:∀x∈l,x.use<2147483648)(h:Sep E (en s l::L) w):
  Calls P IY #[Sv s,Iv t] w (cz λv w'=>∃e:Sl,v=Sv e/\e.n=(mT l t).length/\Sep E (bw e 1 (bD (mT l t))::en s l::L) w'):=by
 apply WU;unfold Lp qD qF qL qO qQ qU qW qg qh qi ql zG zH;have ag:(h3 l=false\/t<0\/(l.length:Int)<=t)->∀w',Sep E (en s l::L) w'->∃e:Sl,Value.slice none 0 0=Sv e/\e.n=(mT l t).length/\Sep E (bw e 1 (bD (mT l t))::en s l::L) w':=by
  intro Y w' h';have e:mT l t= []:=by unfold mT;rw[bK Y]
  rw[e];exact⟨⟨none,0,0⟩,rfl,rfl,bw.none_ h'⟩
 refine⟨λw'=>h3 l=true/\0<=t/\t<l.length/\Sep E (en s l::L) w',use (Pz (q:=0) rfl hn hb h) ?_,?_⟩
 ·rintro _ br ⟨rfl,h1⟩;refine⟨_,rfl,?_⟩;cases u:h3 l with
  |false=>exact bT rfl (ag (.inl u) _ h1)
  |true=>exact bF rfl (cU (λaD=>ag (.inr (.inl aD)) _ h1) (λaD=>hs (λa9=>ag (.inr (.inr bu)) _ h1) (λa9=>⟨rfl,aD,bu,h1⟩)))
 rintro _ w2 ⟨u,ax,bq,h2⟩;have a8:=aGc u;refine s0 (n:=s.n) bu h2 (λA bs ak aB=>?_);rw[hn]at ak aB;refine⟨⟨bN,bu⟩,?_⟩;have aL:(1:Int).toNat=1:=rfl;rw[aL];let d:Nat->bS:=λk=>(List.range l.length).map λj:Nat=>m7 l k (j:Int);have C:∀k,(d k).length=l.length:=λk=>by simp[d]
 have aW:List.replicate l.length (0:Int)=d 0:=by
  apply hg;intro i;simp only[d,om,eC];by_cases R:i<l.length;·rw[bK R,na R];rfl
  ·rw[bJ R,gQ (by simpa using R)];rfl
 have aj:∀k (p:Int),0<=p->p<l.length->(d k).getD p.toNat 0=m7 l k p:=by
  intro k p hp bg;simp only[d,dJ,eC];rw[na bu];simp only[gg,mI];rw[show((p.toNat:Nat):Int)=p by omega]
 rw[aW]at aB;refine⟨λx w'=>∃k:Nat,x=k/\k+1<=l.length/\Sep E (bw A 1 (bD (d k))::en s l::L) w',λx _=>(l.length-x).toNat,⟨0,rfl,bu,aB⟩,?_⟩;rintro _ x aG ⟨k,rfl,hk,ad⟩;refine cU (λaf=>?_) (λaT=>?_)
 ·have af:k+1<l.length:=by omega
  obtain⟨y,D⟩:∃y,l[k+1]?=some y:=⟨_,dP⟩
  have aX:(l.drop 1)[k]?=some y:=by rw[pY,rK];exact D
  have I:=oR u D;have H:0<=y.parent/\y.parent<l.length:=by rcases I.1 with⟨e,_⟩|e<;>omega
  have au:=vb I.2.1 I.2.2;have aS:∀ {F:Addr->Prop},(∀a,aG.cell? (a.add 0)=some (Iv y.parent)->aG.cell? (a.add 1)=some (Iv y.use)->aG.cell? (a.add 2)=some (Iv y.own)->F a)->cK (gi s.p 1 s.c 3) (s.n-1) (k:Int) 3 F:=by
   intro F bb;obtain⟨b,spare,hp,aI,a0,bp,_⟩:=bw.im (ad.fr 1 rfl) bu;have aZ:gi s.p 1 s.c 3=some ⟨b,3,none⟩:=by unfold gi;rw[cD,hp];rfl
   rw[aZ];have a2:=vd (E:=E) (f:=F) (k:=k+1) 1 ad rfl hn (i:=((k+1:Nat):Int)) rfl D (λa Z aa ab=>bb a Z aa ab);obtain⟨a,aM,hr,hf⟩:=a2;rw[hp]at aM;have:=cR aM;subst this;refine⟨_,rfl,⟨bu,bu⟩,?_⟩;have e:(⟨b,3,none⟩:Addr).add (((k:Nat):Int).toNat*3)=(⟨b,0,none⟩:Addr).add ((((k+1:Nat):Int)).toNat*3):=by
    rw[cf,cf];congr 1;omega
   rw[e];exact hf
  refine aS (λa Z aa ab=>⟨_,Z,_,aa,_,ab,Al.i ad (λp bc am=>et _ am rfl (λbd Q=>Dr.i Q (λaY B=>?_)))⟩);have B:Sep E (bC p [Iv y.parent,Iv y.use,Iv y.own]::bw A 1 (bD (d k))::en s l::L) aY:=B;have cell:∀(j:Nat) {w':bI},Sep E (bC p [Iv y.parent,Iv y.use,Iv y.own]::bw A 1 (bD (d k))::en s l::L) w'->w'.cell? ((⟨p,0,none⟩:Addr).add j)=([Iv y.parent,Iv y.use,Iv y.own]:bA bE)[j]? :=by
   intro j w' aE;rw[cf,aE.cell,fx]
  have al:A.n=(d k).length:=by rw[C,ak]
  refine⟨_,cell 0 B,YE 1 B rfl al H.1 (by rw[C];exact H.2) (λbn ar=>⟨_,ar 1 B rfl,_,cell 0 B,_,cell 1 B,_,cell 2 B,use (Py B) ?_⟩)⟩;rintro _ be ⟨rfl,X⟩;refine⟨_,rfl,_,ar 1 X rfl,rfl,_,cell 0 X,rfl,?_⟩;rw[aj k y.parent H.1 H.2];have bf:=DQ u y.parent k bu;have aN:(k:Int)*top<=64*top:=FI bu bN;rw[cP (by rw[ob]at *;omega) (by rw[ob]at *;omega)];refine kE (X.swap) al H.1 (by rw[C];exact H.2) (λaH r=>?_);have e:(d k).set y.parent.toNat (m7 l k y.parent+y.eX)=d (k+1):=by
   apply hg;intro i;by_cases R:i<l.length
   ·have aA:(d (k+1))[i]?=some (m7 l (k+1) (i:Int)):=by simp only[d,eC,na R];rfl
    rw[aA,Pu aX];by_cases av:y.parent.toNat=i
    ·subst av;rw[jd (by rw[C];omega),eK,show((y.parent.toNat:Nat):Int)=y.parent by omega]
    ·rw[iE av,cD];simp only[d,eC,na R];rfl
   ·rw[gQ (by rw[dW,C];omega),gQ (by rw[C];omega)]
  rw[e]at r;exact⟨⟨k+1,dc,bu,r.ro 2 [0] rfl⟩,by dsimp only;rw[dc];omega⟩
 ·have:k=l.length-1:=by omega
  subst this;have ae:∀p:Int,0<=p->p<l.length->(d (l.length-1)).getD p.toNat 0=sumOf l p:=λp a1 h1=>by rw[aj _ p a1 h1,Pw]
  generalize a6:d (l.length-1)=S at ad ae;have aq:S.length=l.length:=by rw[<- a6,C]
  have aC:∀p:Int,0<=sumOf l p/\sumOf l p<=64*top:=by
   intro p;rw[<- Pw p];have:=DQ u p (l.length-1) bu;have aN:((l.length-1:Nat):Int)*top<=64*top:=FI bu bN;omega
  refine s0 (n:=s.n) bu ad (λo bc ho am=>?_);rw[hn]at ho am;have g:∀k,k<=l.length->(ga l t k).length=k:=λk hk=>DN hk;refine⟨λx w'=>∃k:Nat,x=k/\k<=l.length/\Sep E (bw o 1 (bD (ga l t k++List.replicate (l.length-k) 0))::bw A 1 (bD S)::en s l::L) w',λx _=>(l.length-x).toNat,
   ⟨0,rfl,fj _,am⟩,?_⟩
  rintro _ x bd ⟨k,rfl,hk,Q⟩;refine cU (λaf=>?_) (λaT=>?_)
  ·have af:k<l.length:=by omega
   obtain⟨y,D⟩:∃y,l[k]?=some y:=⟨_,dP⟩
   have I:=oR u D;have au:=vb I.2.1 I.2.2;have ba:=aw y (eI D);have aV:∀k',k'<=l.length->o.n=(ga l t k'++List.replicate (l.length-k') 0).length:=λk' aU=>by rw[ho,dd,g k' aU,mE];omega
   refine vd 2 Q rfl hn rfl D (λa Z aa ab=>⟨_,Z,_,aa,_,ab,Al.i Q (λp aY B=>et _ B rfl (λbe X=>?_))⟩);have cell:∀(j:Nat) {w':bI} {M:ct},Sep E (bC p [Iv y.parent,Iv y.use,Iv y.own]::M) w'->w'.cell? ((⟨p,0,none⟩:Addr).add j)=([Iv y.parent,Iv y.use,Iv y.own]:bA bE)[j]? :=by
    intro j w' M aE;rw[cf,aE.cell,fx]
   have zero:mS l t (ga l t k) k y=0->∀ {w':bI},Sep E (bw o 1 (bD (ga l t k++List.replicate (l.length-k) 0))::bw A 1 (bD S)::en s l::L) w'->
     (∃k':Nat,i64.wrap ((k:Int)+1)=k'/\k'<=l.length/\Sep E (bw o 1 (bD (ga l t k'++List.replicate (l.length-k') 0))::bw A 1 (bD S)::en s l::L) w')/\(l.length-i64.wrap ((k:Int)+1)).toNat<(l.length-(k:Int)).toNat:=by
    intro aF w' h';refine⟨⟨k+1,dc,bu,?_⟩,by rw[dc];omega⟩;rw[DO D,aF,dj];have: [(0:Int)]++List.replicate (l.length-(k+1)) 0=List.replicate (l.length-k) 0:=by
     rw[show l.length-k=(l.length-(k+1))+1 by omega,oo];rfl
    rw[this];exact h'
   refine⟨λw'=>(k:Int)≠t/\mR l k t=true/\Sep E (bC p [Iv y.parent,Iv y.use,Iv y.own]::bw o 1 (bD (ga l t k++List.replicate (l.length-k) 0))::bw A 1 (bD S)::en s l::L) w',
    eQ (λe=>zero (by unfold mS;rw[bK (.inl e)]) X.tail) (λW=>use (PG (q:=3) rfl hn u bu ax X) ?_),?_⟩
   ·rintro _ aH ⟨rfl,r⟩;have r:Sep E (en s l::bC p [Iv y.parent,Iv y.use,Iv y.own]::bw o 1 (bD (ga l t k++List.replicate (l.length-k) 0))::bw A 1 (bD S)::L) aH:=r;refine⟨_,rfl,?_⟩;cases U:mR l (k:Int) t with
    |false=>exact bT rfl (zero (by unfold mS;rw[bK (.inr U)]) (r.ro 4 [2,3,0] rfl))
    |true=>exact bF rfl ⟨W,rfl,r.ro 4 [1,2,3,0] rfl⟩
   ·rintro _ aH ⟨W,U,r⟩;have N:=azZ u ax D U W;refine⟨_,cell 0 r,_,cell 1 r,_,cell 2 r,use (Py r) ?_⟩;rintro _ bi ⟨rfl,aJ⟩;refine⟨_,rfl,kE aJ.swap (aV k bu) bu (by rw[dd,g k bu,mE];omega) (λaz G=>?_)⟩;have aA:(ga l t k++List.replicate (l.length-k) 0).set ((k:Nat):Int).toNat y.eX=ga l t k++y.eX::List.replicate (l.length-(k+1)) 0:=by
     rw[dA,jx _ _ (by rw[g k bu];exact ek _),g k bu,iV,show l.length-k=(l.length-(k+1))+1 by omega,oo,y0]
    rw[aA]at G;have m:(ga l t k++y.eX::List.replicate (l.length-(k+1)) 0).length=l.length:=by rw[dd,g k bu,hM,mE];omega
    have K:o.n=(ga l t k++y.eX::List.replicate (l.length-(k+1)) 0).length:=by rw[m,ho]
    have G:Sep E (bw o 1 (bD (ga l t k++y.eX::List.replicate (l.length-(k+1)) 0))::bC p [Iv y.parent,Iv y.use,Iv y.own]::bw A 1 (bD S)::en s l::L) az:=G;have O:=G.swap;have bh:=aC y.parent;refine⟨_,cell 0 O,mu 2 O rfl (by rw[ak,aq]) N.1 (by rw[aq];omega) (λa3 aO=>⟨_,aO,?_⟩)⟩;rw[ae y.parent N.1 bu];have ah:(ga l t k++y.eX::List.replicate (l.length-(k+1)) 0).getD y.parent.toNat 0=(ga l t k).getD y.parent.toNat 0:=by
     rw[dJ,eM (by rw[g k bu];omega),<- dJ]
    have an:0<=(ga l t k).getD y.parent.toNat 0/\(ga l t k).getD y.parent.toNat 0<2147483648:=by
     rw[dJ,dO (by rw[g k bu];omega)];have:=DP u k bu y.parent.toNat _ (dO (by rw[g k bu];omega));obtain⟨aI,x,hx,a0⟩:=this;have:=aw x (eI hx);have ay:=oR u hx;have:=vb ay.2.1 ay.2.2;simp only[mI];exact⟨aI,bu⟩
    have done:∀ {w':bI} (z:Int),mS l t (ga l t k) k y=z->Sep E (bw o 1 (bD (ga l t k++z::List.replicate (l.length-(k+1)) 0))::bC p [Iv y.parent,Iv y.use,Iv y.own]::bw A 1 (bD S)::en s l::L) w'->
      (∃k':Nat,i64.wrap ((k:Int)+1)=k'/\k'<=l.length/\Sep E (bw o 1 (bD (ga l t k'++List.replicate (l.length-k') 0))::bw A 1 (bD S)::en s l::L) w')/\(l.length-i64.wrap ((k:Int)+1)).toNat<(l.length-(k:Int)).toNat:=by
     intro w' z aF h';refine⟨⟨k+1,dc,bu,?_⟩,by rw[dc];omega⟩;rw[DO D,aF,dj];exact h'.ro 4 [0,2,3] rfl
    have V:mS l t (ga l t k) k y=if y.parent≠t/\(ga l t k).getD y.parent.toNat 0<sumOf l y.parent then y.eX*(ga l t k).getD y.parent.toNat 0/sumOf l y.parent else y.eX:=by
     unfold mS;rw[bJ (by rintro(c|c);exact W c;rw[U]at c;cases c)]
    refine⟨λq w'=>q=decide (y.parent≠t/\(ga l t k).getD y.parent.toNat 0<sumOf l y.parent)/\w'=az,⟨_,cell 0 O,hJ (λai=>⟨_,cell 0 O,mu 1 O rfl K N.1 (by rw[m];omega) (λa4 aP=>⟨_,aP,?_,rfl⟩)⟩) (λai=>⟨?_,rfl⟩)⟩,?_⟩
    ·rw[ah];by_cases J:(ga l t k).getD y.parent.toNat 0<sumOf l y.parent;·rw[dF J,dF ⟨ai,J⟩]
     ·rw[dg J,dg (λc=>J c.2)]
    ·rw[dg (λc=>c.1 ai)]
    ·rintro _ q bj ⟨rfl,rfl⟩;by_cases Y:y.parent≠t/\(ga l t k).getD y.parent.toNat 0<sumOf l y.parent
     ·rw[dF Y];rw[bK Y]at V;refine bT rfl (Dr.i G (λbk T=>mu 0 T rfl K bu (by rw[m];omega) (λa5 aQ=>⟨_,aQ,_,cell 0 T.swap,mu 0 T rfl K N.1 (by rw[m];omega) (λbo aR=>⟨_,aR,?_⟩)⟩)));have ao:(ga l t k++y.eX::List.replicate (l.length-(k+1)) 0).getD ((k:Nat):Int).toNat 0=y.eX:=by
       rw[dA,dJ,fM (by rw[g k bu];exact ek _),g k bu,iV];rfl
      rw[ao,ah];refine use (aJE ⟨au.1,bu⟩ an ⟨bu,by rw[ob]at *;omega⟩ T) ?_;rintro _ bl ⟨rfl,aK⟩;refine⟨_,rfl,kE aK K bu (by rw[m];omega) (λbm ap=>done _ V ?_)⟩;rw[dA,jx _ _ (by rw[g k bu];exact ek _),g k bu,iV,y0]at ap;exact ap
     ·rw[dg Y];rw[bJ Y]at V;exact bF rfl (done _ V G)
  ·have:k=l.length:=by omega
   subst this;rw[iV,FV,hv]at Q;have e:ga l t l.length=mT l t:=by
    unfold ga mT;rw[gf,bJ];rintro(c|c|c);·rw[u]at c;cases c
    ·omega
    ·omega
   rw[e]at Q;exact⟨o,rfl,by rw[<- e,g _ (ek _),ho],Q.ro 3 [0,2] rfl⟩
end Go.Mp
namespace Go.Mp
open Go Go.Vc Go.Sp Go.Stab
section
variable{E:Env}{L:ct}{w:bI}{s:Sl}{l:bS}
def e1.use{Q:cN}{g:bE}{args:cb bE}{w:bI}{R R':Ending->bf8}(h:e1 Q g args w R)(k:∀e w',R e w'->R' e w'):e1 Q g args w R':=by
 obtain⟨f,ca,h1,h2,a⟩:=h;exact⟨f,ca,h1,h2,a.mono k⟩
def gY{F:Int->Prop}{i x:Int}(k:Nat)(h:Sep E (bw s 1 (bD l)::L) w)(hn:s.n=l.length)(d:i=k)(hx:l[k]?=some x)(f:F x):cK s.p s.n i 1 λa=>∃v:Int,w.cell? a=some (Iv v)/\F v:=by
 have c:=(cZ.1 hx).1;refine mu 0 h rfl hn bu bu (λa b=>⟨_,b,?_⟩);have e:i.toNat=k:=by omega
 rw[e,List.getD,hx];exact f
def kF{f:bf8}{i x:Int}(k:Nat)(h:Sep E (bw s 1 (bD l)::L) w)(hn:s.n=l.length)(d:i=k)(hk:k<l.length)(g:∀c,Sep E (bw s 1 (bD (l.set k x))::L) c->f c):
  cK s.p s.n i 1 λa=>St a (Iv x) f w:=by
 refine bw.el 0 h rfl bu bu (λb hb _=>?_);have e:i.toNat*1=k:=by omega
 rw[e];refine bw.st h hb (by simpa using hk) (λc h1=>g c ?_);have:bD (l.set k x)=(bD l).set k (Iv x):=by simp[bD,hG]
 rw[this];exact h1
def gC(E:Env)(L:ct)(s:Sl)(cmp:bE)(lt:Int->Int->Bool)(n:Nat):Prop:=
 ∀(l:bS) (x y:Int) (w:bI),l.length=n->Sep E (bw s 1 (bD l)::L) w->e1 P cmp #[Iv x,Iv y] w λe w'=>∃r:Int,e=.returned (Iv r)/\decide (r<0)=lt x y/\Sep E (bw s 1 (bD l)::L) w'
variable{cmp:bE}{lt:Int->Int->Bool}{n:Nat}
def gC.i(a:gC E L s cmp lt n)(hl:l.length=n)(h:Sep E (bw s 1 (bD l)::L) w){x y:Int}{A B:bf8}(b:lt x y=true->∀w',Sep E (bw s 1 (bD l)::L) w'->A w')(c:lt x y=false->∀w',Sep E (bw s 1 (bD l)::L) w'->B w'):
  e1 P cmp #[Iv x,Iv y] w λe w'=>∃r:Int,e=.returned (Iv r)/\bif decide (r<0)then A w' else B w':=by
 refine e1.use (a l x y w hl h) ?_;rintro e w' ⟨r,rfl,hr,h'⟩;refine⟨r,rfl,?_⟩;rw[hr];cases hb:lt x y with
 |true=>exact b hb w' h'
 |false=>exact c hb w' h'
def gC.j(a:gC E L s cmp lt n)(hl:l.length=n)(h:Sep E (bw s 1 (bD l)::L) w){x y:Int}{A B:bf8}(b:lt x y=true->∀w',Sep E (bw s 1 (bD l)::L) w'->A w')(c:lt x y=false->∀w',Sep E (bw s 1 (bD l)::L) w'->B w'):
  e1 P cmp #[Iv x,Iv y] w λe w'=>∃r:Int,e=.returned (Iv r)/\bif(!(decide (r<0)))then B w' else A w':=by
 refine e1.use (a l x y w hl h) ?_;rintro e w' ⟨r,rfl,hr,h'⟩;refine⟨r,rfl,?_⟩;rw[hr];cases hb:lt x y with
 |true=>exact b hb w' h'
 |false=>exact c hb w' h'
structure lr(R b:Int->Int->Prop)(lt:Int->Int->Bool):Prop where
 ord:Ord R
 ne:∀x y,b x y->x≠y
 ask:∀x y,b x y->(lt y x=true↔R y x)
variable{R b:Int->Int->Prop}
def lr.no(K:lr R b lt){x y:Int}(hb:b x y)(h:lt y x=false):R x y:=
 K.ord.not (nd (K.ne x y hb)) (λhr=>by rw[(K.ask x y hb).2 hr]at h;cases h)
def half{i j:Int}(h1:0<=i+j:=by omega)(h2:i+j<=4611686018427387904:=by omega):i64.wrap ((u64.wrap (i64.wrap (i+j))).fdiv (2^(min (1:Int).toNat 64)))=(i+j)/2:=by
 have a:i64.wrap (i+j)=i+j:=cP bu bu;have b:u64.wrap (i+j)=i+j:=by
  unfold IntKind.wrap;simp only[IntKind.signed,IntKind.bits,wg];rw[bJ (by simp)];omega
 have c:(i+j).fdiv (2^(min (1:Int).toNat 64))=(i+j)/2:=by
  show(i+j).fdiv 2=_;rw[SU _ bN]
 rw[a,b,c,cP bu bu]
def lu{A B:bS}{k:Nat}:(A++B)[A.length+k]?=B[k]? :=by
 rw[fM bu];congr 1;omega
def kG{A P B:bS}{i k:Nat}{x:Int}(a:i<=P.length)(hk:k<=P.length):(A++ins P i x++B)[A.length+k]?=if k<i then P[k]? else if k=i then some x else P[k-1]? :=by
 have:=mU P i x;rw[dj,lu,eM bu,rZ P i x a]
def ve{A M B:bS}(K:lr R b lt)(V:M.Pairwise b)(hn:s.n=(A++M++B).length)(H:(A++M++B).length<4611686018427387904)(J:gC E L s cmp lt (A++M++B).length)(h:Sep E (bw s 1 (bD (A++M++B))::L) w){a e:Int}(W:a=A.length)(he:e=A.length+M.length):
  Calls P CL #[Sv s,Iv a,Iv e,cmp] w (cz λv w'=>v=.tuple #[]/\∃G,G.Perm M/\G.Pairwise R/\Sep E (bw s 1 (bD (A++G++B))::L) w'):=by
 subst W he;have hlen:(A++M++B).length=A.length+M.length+B.length:=by simp;omega
 apply Yh;unfold MC qD qO qW qg;rw[hlen]at hn H J;refine⟨λi w=>∃(k:Nat) (S:bS),i=A.length+k/\1<=k/\(k<=M.length\/M= [])/\S.Perm (M.take k)/\S.Pairwise R/\Sep E (bw s 1 (bD (A++S++(M.drop k++B)))::L) w,λi _=>(A.length+M.length-i).toNat,?_,?_⟩
 ·rw[cP bu bu];refine⟨1,M.take 1,bu,ek _,?_,.refl _,?_,?_⟩
  ·cases M with
   |nil=>exact .inr rfl
   |cons x M=>left;simp
  ·cases M with
   |nil=>simp
   |cons x M=>simp
  ·have:A++M.take 1++(M.drop 1++B)=A++M++B:=by
    rw[<- dj,dj A,fK]
   rw[this];exact h
 rintro _ i ag ⟨k,S,rfl,ab,d,p,z,h1⟩;refine cU (λad=>?_) (λZ=>⟨rfl,S,?_,z,?_⟩)
 ·have D:k<M.length:=by omega
  have q:S.length=k:=by rw[p.length_eq];simp;omega
  have hx:M[k]?=some M[k]:=dO D;generalize Q:M[k]=x at hx;have t:M.drop k=x::M.drop (k+1):=by rw[<- Q];exact lG D
  have C:∀y∈S,b y x:=by
   intro y f;obtain⟨j,X,N⟩:=r0 (p.mem_iff.1 f);exact pn V N hx X
  refine⟨λj w=>∃m:Nat,j=A.length+m/\m<=k/\(k<=m\/∃y,S[m]?=some y/\R x y)/\Sep E (bw s 1 (bD (A++ins S m x++(M.drop (k+1)++B)))::L) w,λj _=>(j-A.length).toNat,?_,?_⟩
  ·refine⟨k,rfl,ek _,.inl (ek _),?_⟩;have e:A++ins S k x++(M.drop (k+1)++B)=A++S++(M.drop k++B):=by
    rw[<- q,wO,q,t];simp
   rw[e];exact h1
  rintro _ j w2 ⟨m,rfl,af,O,h2⟩;have g:(A++ins S m x++(M.drop (k+1)++B)).length=A.length+M.length+B.length:=by
   have:=mU S m x;simp only[dd,this,nR];omega
  have out:∀ {r:bI},(m=0\/∃y,S[m-1]?=some y/\R y x)->Sep E (bw s 1 (bD (A++ins S m x++(M.drop (k+1)++B)))::L) r->
    ((∃(k':Nat) (S:bS),(i64.wrap (A.length+k+1))=A.length+k'/\1<=k'/\(k'<=M.length\/M= [])/\S.Perm (M.take k')/\S.Pairwise R/\Sep E (bw s 1 (bD (A++S++(M.drop k'++B)))::L) r)/\
     (A.length+M.length-i64.wrap (A.length+k+1)).toNat<(A.length+M.length-(A.length+k:Int)).toNat):=by
   intro r u l;rw[cP bu bu];refine⟨⟨k+1,ins S m x,bu,bu,.inl bu,?_,?_,l⟩,bu⟩
   ·refine(rY S m x).trans ?_;rw[mG,hx];exact(List.Perm.cons x p).trans (l1 (l₁:=[x]))
   ·exact r1 K.ord z u (by rw[q];exact O)
  refine⟨λw=>∃c y,m=c+1/\S[c]?=some y/\R x y/\Sep E (bw s 1 (bD (A++ins S m x++(M.drop (k+1)++B)))::L) w,?_,?_⟩
  ·refine Dr.i h2 (λr l=>fZ (λaa=>?_) (λhle=>?_))
   ·obtain⟨c,rfl⟩:∃c,m=c+1:=⟨m-1,bu⟩
    have f:S[c]?=some (S[c]'bu):=dP;generalize S[c]'(bu)=y at f;have F:y∈S:=eI f;rw[cP bu bu];refine gY (A.length+(c+1)) l (by rw[hn,g]) bu (by rw[kG bu bu,cD,bK rfl]) ?_;refine gY (A.length+c) l (by rw[hn,g]) bu (by rw[kG bu bu,eK];exact f) ?_;refine J.i g l (λY T o=>⟨c,y,rfl,f,(K.ask y x (C y F)).1 Y,o⟩) (λhf T o=>out (.inr ⟨y,f,K.no (C y F) hf⟩) o)
   ·exact out (.inl bu) l
  ·rintro _ r ⟨c,y,rfl,f,hr,l⟩;have ae:c<S.length:=(cZ.1 f).1;refine Dr.i l (λT o=>?_);rw[cP (n:=A.length+((c+1:Nat):Int)-1) bu bu];refine gY (A.length+c) o (by rw[hn,g]) bu (by rw[kG bu bu,eK];exact f) ?_;refine gY (A.length+(c+1)) o (by rw[hn,g]) bu (by rw[kG bu bu,cD,bK rfl]) ?_;refine kF (A.length+(c+1)) o (by rw[hn,g]) bu bu (λah U=>?_);refine kF (A.length+c) U (by rw[dW,hn,g]) bu (by rw[dW];omega) (λai I=>?_);rw[<- tF,wP f]at I;exact⟨⟨c,bu,bu,.inr ⟨y,f,hr⟩,I⟩,by dsimp only;omega⟩
 ·rcases d with d|d
  ·have:k=M.length:=by omega
   rw[this,gf]at p;exact p
  ·subst d;simpa using p
 ·have:M.drop k= []:=by
   rcases d with d|d;·exact kY bu
   ·subst d;simp
  rw[this,lJ]at h1;exact h1
def rm{A U M V B:bS}(f:U.length=V.length)(hn:s.n=(A++U++M++V++B).length)(o:(A++U++M++V++B).length<4611686018427387904)(h:Sep E (bw s 1 (bD (A++U++M++V++B))::L) w){a e n':Int}(m:a=A.length)(he:e=A.length+U.length+M.length)(g:n'=U.length):
  Calls P xS #[Sv s,Iv a,Iv e,Iv n',cmp] w (cW E (.tuple #[]) (bw s 1 (bD (A++V++M++U++B))::L)):=by
 subst m he g;have hlen:(A++U++M++V++B).length=A.length+U.length+M.length+V.length+B.length:=by simp only[dd]
 apply Yr;unfold MM qD qO qW;refine⟨λi w=>∃(k:Nat) (l':bS),i=k/\k<=U.length/\nw (A++U++M++V++B) l' A.length (A.length+U.length+M.length) k/\Sep E (bw s 1 (bD l')::L) w,λi _=>(U.length-i).toNat,⟨0,_,rfl,fj _,nw.zero _ _ _,h⟩,?_⟩;rintro _ i r ⟨k,l',rfl,hk,c,h1⟩;have b:l'.length=s.n:=by rw[c.1,hn]
 refine cU (λq=>Dr.i h1 (λw2 h2=>?_)) (λp=>⟨rfl,?_⟩)
 ·rw[cP (n:=(A.length:Int)+U.length+M.length+k) bu bu,cP (n:=(A.length:Int)+k) bu bu,cP (n:=(k:Int)+1) bu bu];have hx:l'[A.length+U.length+M.length+k]?=some (l'[A.length+U.length+M.length+k]'bu):=dP;have d:l'[A.length+k]?=some (l'[A.length+k]'bu):=dP;generalize l'[A.length+U.length+M.length+k]'(bu)=x at hx;generalize l'[A.length+k]'(bu)=y at d;refine gY _ h2 b.symm bu hx (gY _ h2 b.symm bu d ?_);refine kF (A.length+k) h2 b.symm bu bu (λt j=>kF (A.length+U.length+M.length+k) j (by rw[dW];exact b.symm) bu (by rw[dW];omega) (λu l=>?_));exact⟨⟨k+1,_,bu,bu,c.step (n:=U.length) bu bu hx d,l⟩,by dsimp only;omega⟩
 ·have:k=U.length:=by omega
  subst this;rw[c.eq f]at h1;exact h1
def DR{A X Y B:bS}(p:1<=X.length)(q:1<=Y.length)(hn:s.n=(A++X++Y++B).length)(t:(A++X++Y++B).length<4611686018427387904)(h:Sep E (bw s 1 (bD (A++X++Y++B))::L) w){a m e:Int}(r:a=A.length)(hm:m=A.length+X.length)(he:e=A.length+X.length+Y.length):
  Calls P JB #[Sv s,Iv a,Iv m,Iv e,cmp] w (cW E (.tuple #[]) (bw s 1 (bD (A++Y++X++B))::L)):=by
 subst r hm he;have hlen:(A++X++Y++B).length=A.length+X.length+Y.length+B.length:=by simp only[dd]
 apply Yo;unfold MJ qE qI;rw[cP (n:=(A.length:Int)+X.length-A.length) bu bu,cP (n:=(A.length:Int)+X.length+Y.length-(A.length+X.length)) bu bu];refine⟨λi j w=>∃A' c b d:bS,i=c.length/\j=b.length/\1<=c.length/\1<=b.length/\A'.length+c.length=A.length+X.length/\A'++b++c++d=A++Y++X++B/\Sep E (bw s 1 (bD (A'++c++b++d))::L) w,
  λi j _=>(i+j).toNat,⟨A,X,Y,B,bu,bu,p,q,rfl,rfl,h⟩,?_⟩
 rintro _ i j G ⟨A',c,b,d,rfl,rfl,u,x,C,f,h1⟩;have z:A'.length+b.length+c.length+d.length=A.length+X.length+Y.length+B.length:=by
  have:=eJ List.length f;simp only[dd]at this;omega
 have D:s.n=A'.length+b.length+c.length+d.length:=by omega
 rw[cP (n:=(A.length:Int)+X.length-c.length) bu bu];refine hJ (λF=>fZ (λy=>?_) (λhle=>?_)) (λheq=>?_)
 ·
  have l:A'++c++b++d=A'++c.take b.length++c.drop b.length++b++d:=by rw[dj A' (c.take _),fK]
  have g:(c.take b.length).length=b.length:=by simp;omega
  have k:(c.drop b.length).length=c.length-b.length:=by simp
  rw[l]at h1;refine use (rm (cmp:=cmp) g (by simp only[dd,g,k];omega) (by simp only[dd,g,k];omega) h1 bu bu bu) ?_;rintro _ w2 ⟨rfl,h2⟩;rw[cP bu bu];refine⟨rfl,⟨A'++b,c.drop b.length,c.take b.length,d,bu,bu,bu,bu,by simp only[dd];omega,?_,h2⟩,by dsimp only;omega⟩;rw[<- f,dj (A'++b),fK]
 ·have l:A'++c++b++d=A'++c++b.take (b.length-c.length)++b.drop (b.length-c.length)++d:=by rw[dj (A'++c) (b.take _),fK]
  have g:(b.take (b.length-c.length)).length=b.length-c.length:=by simp
  have k:(b.drop (b.length-c.length)).length=c.length:=by simp;omega
  rw[l]at h1;rw[cP (n:=(A.length:Int)+X.length+b.length) bu bu,cP (n:=(A.length:Int)+X.length+b.length-c.length) bu bu];refine use (rm (cmp:=cmp) k.symm (by simp only[dd,g,k];omega) (by simp only[dd,g,k];omega) h1 bu bu bu) ?_;rintro _ w2 ⟨rfl,h2⟩;rw[cP bu bu];refine⟨rfl,⟨A',b.drop (b.length-c.length),b.take (b.length-c.length),c++d,bu,bu,bu,bu,bu,?_,?_⟩,by dsimp only;omega⟩;·rw[<- f,dj A' (b.take _),fK];simp
  ·have:A'++b.drop (b.length-c.length)++b.take (b.length-c.length)++c++d=A'++b.drop (b.length-c.length)++b.take (b.length-c.length)++(c++d):=by simp
   rw[<- this];exact h2
 ·have o:c.length=b.length:=by omega
  have l:A'++c++b++d=A'++c++[]++b++d:=by simp
  rw[l]at h1;refine use (rm (cmp:=cmp) o (by simp only[dd,p0];omega) (by simp only[dd,p0];omega) h1 bu (by simp only[p0];omega) bu) ?_;rintro _ w2 ⟨rfl,h2⟩;refine⟨rfl,rfl,?_⟩;rw[<- f];have:A'++b++[]++c++d=A'++b++c++d:=by simp
  rw[this]at h2;exact h2
end
end Go.Mp
namespace Go.Mp.Sh
open Go Go.Vc Go.Sp Go.Stab Go.Mp
structure cQ where
 at_:Int
 low:Int
def cQ.vs(x:cQ):bA bE:=[Iv x.at_,.int .u64 x.low]
def cQ.kS(x:cQ):x.vs.length=2:=rfl
section
variable{E:Env}{L:ct}{w:bI}{s:Sl}{l:bA cQ}
def gY{F:Int->Int->Prop}{i:Int}{x:cQ}(k:Nat)(h:Sep E (bw s 2 (bQ cQ.vs l)::L) w)(hn:s.n=l.length)(d:i=k)(hx:l[k]?=some x)(f:F x.at_ x.low):cK s.p s.n i 2 λa=>∃v:Int,w.cell? (a.add 0)=some (Iv v)/\∃u:Int,w.cell? (a.add 1)=some (.int .u64 u)/\F v u:=
 lV cQ.kS 0 h rfl hn d hx (λb _ c=>⟨_,by rw[cf];exact c 0 _ rfl,_,by rw[cf];exact c 1 _ rfl,f⟩)
def kF{f:bf8}{i:Int}{x:cQ}(k:Nat)(h:Sep E (bw s 2 (bQ cQ.vs l)::L) w)(hn:s.n=l.length)(d:i=k)(hk:k<l.length)(g:∀c,Sep E (bw s 2 (bQ cQ.vs (l.set k x))::L) c->f c):
  cK s.p s.n i 2 λa=>kN [Iv x.at_,.int .u64 x.low] a f w:=by
 refine bw.el 0 h rfl bu bu (λb hb _=>?_);have e:i.toNat=k:=by omega
 rw[e];have hle:(k+1)*2<=l.length*2:=k1 _ hk;refine bw.rO h hb (by show 0<2;decide) (by rw[n4 cQ.kS];simp;omega) (λc h1=>g c ?_);have:=YC cQ.kS (l:=l) (i:=k) (j:=0) (a:=l[k]) (a':=x) (xs:=[Iv x.at_,.int .u64 x.low]) (dO hk) (by show 0+2<=2;decide) rfl;rw[lK]at this;rw[this]at h1;exact h1
def gC(E:Env)(L:ct)(s:Sl)(cmp:bE)(lt:cQ->cQ->Bool)(n:Nat):Prop:=
 ∀(l:bA cQ) (x y:cQ) (w:bI),l.length=n->Sep E (bw s 2 (bQ cQ.vs l)::L) w->e1 P cmp #[.agg #[Iv x.at_,.int .u64 x.low],.agg #[Iv y.at_,.int .u64 y.low]] w λe w'=>∃r:Int,e=.returned (Iv r)/\decide (r<0)=lt x y/\Sep E (bw s 2 (bQ cQ.vs l)::L) w'
variable{cmp:bE}{lt:cQ->cQ->Bool}{n:Nat}
def gC.i(a:gC E L s cmp lt n)(hl:l.length=n)(h:Sep E (bw s 2 (bQ cQ.vs l)::L) w){x y:cQ}{A B:bf8}(b:lt x y=true->∀w',Sep E (bw s 2 (bQ cQ.vs l)::L) w'->A w')(c:lt x y=false->∀w',Sep E (bw s 2 (bQ cQ.vs l)::L) w'->B w'):
  e1 P cmp #[.agg #[Iv x.at_,.int .u64 x.low],.agg #[Iv y.at_,.int .u64 y.low]] w λe w'=>∃r:Int,e=.returned (Iv r)/\bif decide (r<0)then A w' else B w':=by
 refine e1.use (a l x y w hl h) ?_;rintro e w' ⟨r,rfl,hr,h'⟩;refine⟨r,rfl,?_⟩;rw[hr];cases hb:lt x y with
 |true=>exact b hb w' h'
 |false=>exact c hb w' h'
def gC.j(a:gC E L s cmp lt n)(hl:l.length=n)(h:Sep E (bw s 2 (bQ cQ.vs l)::L) w){x y:cQ}{A B:bf8}(b:lt x y=true->∀w',Sep E (bw s 2 (bQ cQ.vs l)::L) w'->A w')(c:lt x y=false->∀w',Sep E (bw s 2 (bQ cQ.vs l)::L) w'->B w'):
  e1 P cmp #[.agg #[Iv x.at_,.int .u64 x.low],.agg #[Iv y.at_,.int .u64 y.low]] w λe w'=>∃r:Int,e=.returned (Iv r)/\bif(!(decide (r<0)))then B w' else A w':=by
 refine e1.use (a l x y w hl h) ?_;rintro e w' ⟨r,rfl,hr,h'⟩;refine⟨r,rfl,?_⟩;rw[hr];cases hb:lt x y with
 |true=>exact b hb w' h'
 |false=>exact c hb w' h'
structure lr(R b:cQ->cQ->Prop)(lt:cQ->cQ->Bool):Prop where
 ord:Ord R
 ne:∀x y,b x y->x≠y
 ask:∀x y,b x y->(lt y x=true↔R y x)
variable{R b:cQ->cQ->Prop}
def lr.no(K:lr R b lt){x y:cQ}(hb:b x y)(h:lt y x=false):R x y:=
 K.ord.not (nd (K.ne x y hb)) (λhr=>by rw[(K.ask x y hb).2 hr]at h;cases h)
def lu{A B:bA cQ}{k:Nat}:(A++B)[A.length+k]?=B[k]? :=by
 rw[fM bu];congr 1;omega
def kG{A P B:bA cQ}{i k:Nat}{x:cQ}(a:i<=P.length)(hk:k<=P.length):(A++ins P i x++B)[A.length+k]?=if k<i then P[k]? else if k=i then some x else P[k-1]? :=by
 have:=mU P i x;rw[dj,lu,eM bu,rZ P i x a]
def ve{A M B:bA cQ}(K:lr R b lt)(V:M.Pairwise b)(hn:s.n=(A++M++B).length)(H:(A++M++B).length<4611686018427387904)(J:gC E L s cmp lt (A++M++B).length)(h:Sep E (bw s 2 (bQ cQ.vs (A++M++B))::L) w){a e:Int}(W:a=A.length)(he:e=A.length+M.length):
  Calls P CK #[Sv s,Iv a,Iv e,cmp] w (cz λv w'=>v=.tuple #[]/\∃G,G.Perm M/\G.Pairwise R/\Sep E (bw s 2 (bQ cQ.vs (A++G++B))::L) w'):=by
 subst W he;have hlen:(A++M++B).length=A.length+M.length+B.length:=by simp;omega
 apply Yf;unfold MA qO qU qW qg zM;rw[hlen]at hn H J;refine⟨λi w=>∃(k:Nat) (S:bA cQ),i=A.length+k/\1<=k/\(k<=M.length\/M= [])/\S.Perm (M.take k)/\S.Pairwise R/\Sep E (bw s 2 (bQ cQ.vs (A++S++(M.drop k++B)))::L) w,λi _=>(A.length+M.length-i).toNat,?_,?_⟩
 ·rw[cP bu bu];refine⟨1,M.take 1,bu,ek _,?_,.refl _,?_,?_⟩
  ·cases M with
   |nil=>exact .inr rfl
   |cons x M=>left;simp
  ·cases M with
   |nil=>simp
   |cons x M=>simp
  ·have:A++M.take 1++(M.drop 1++B)=A++M++B:=by
    rw[<- dj,dj A,fK]
   rw[this];exact h
 rintro _ i ag ⟨k,S,rfl,ab,d,p,z,h1⟩;refine cU (λad=>?_) (λZ=>⟨rfl,S,?_,z,?_⟩)
 ·have D:k<M.length:=by omega
  have q:S.length=k:=by rw[p.length_eq];simp;omega
  have hx:M[k]?=some M[k]:=dO D;generalize Q:M[k]=x at hx;have t:M.drop k=x::M.drop (k+1):=by rw[<- Q];exact lG D
  have C:∀y∈S,b y x:=by
   intro y f;obtain⟨j,X,N⟩:=r0 (p.mem_iff.1 f);exact pn V N hx X
  refine⟨λj w=>∃m:Nat,j=A.length+m/\m<=k/\(k<=m\/∃y,S[m]?=some y/\R x y)/\Sep E (bw s 2 (bQ cQ.vs (A++ins S m x++(M.drop (k+1)++B)))::L) w,λj _=>(j-A.length).toNat,?_,?_⟩
  ·refine⟨k,rfl,ek _,.inl (ek _),?_⟩;have e:A++ins S k x++(M.drop (k+1)++B)=A++S++(M.drop k++B):=by
    rw[<- q,wO,q,t];simp
   rw[e];exact h1
  rintro _ j w2 ⟨m,rfl,af,O,h2⟩;have g:(A++ins S m x++(M.drop (k+1)++B)).length=A.length+M.length+B.length:=by
   have:=mU S m x;simp only[dd,this,nR];omega
  have out:∀ {r:bI},(m=0\/∃y,S[m-1]?=some y/\R y x)->Sep E (bw s 2 (bQ cQ.vs (A++ins S m x++(M.drop (k+1)++B)))::L) r->
    ((∃(k':Nat) (S:bA cQ),(i64.wrap (A.length+k+1))=A.length+k'/\1<=k'/\(k'<=M.length\/M= [])/\S.Perm (M.take k')/\S.Pairwise R/\Sep E (bw s 2 (bQ cQ.vs (A++S++(M.drop k'++B)))::L) r)/\
     (A.length+M.length-i64.wrap (A.length+k+1)).toNat<(A.length+M.length-(A.length+k:Int)).toNat):=by
   intro r u l;rw[cP bu bu];refine⟨⟨k+1,ins S m x,bu,bu,.inl bu,?_,?_,l⟩,bu⟩
   ·refine(rY S m x).trans ?_;rw[mG,hx];exact(List.Perm.cons x p).trans (l1 (l₁:=[x]))
   ·exact r1 K.ord z u (by rw[q];exact O)
  refine⟨λw=>∃c y,m=c+1/\S[c]?=some y/\R x y/\Sep E (bw s 2 (bQ cQ.vs (A++ins S m x++(M.drop (k+1)++B)))::L) w,?_,?_⟩
  ·refine Dr.i h2 (λr l=>fZ (λaa=>?_) (λhle=>?_))
   ·obtain⟨c,rfl⟩:∃c,m=c+1:=⟨m-1,bu⟩
    have f:S[c]?=some (S[c]'bu):=dP;generalize S[c]'(bu)=y at f;have F:y∈S:=eI f;rw[cP bu bu];refine gY (A.length+(c+1)) l (by rw[hn,g]) bu (by rw[kG bu bu,cD,bK rfl]) ?_;refine gY (A.length+c) l (by rw[hn,g]) bu (by rw[kG bu bu,eK];exact f) ?_;refine J.i g l (λY T o=>⟨c,y,rfl,f,(K.ask y x (C y F)).1 Y,o⟩) (λhf T o=>out (.inr ⟨y,f,K.no (C y F) hf⟩) o)
   ·exact out (.inl bu) l
  ·rintro _ r ⟨c,y,rfl,f,hr,l⟩;have ae:c<S.length:=(cZ.1 f).1;refine Dr.i l (λT o=>?_);rw[cP (n:=A.length+((c+1:Nat):Int)-1) bu bu];refine gY (A.length+c) o (by rw[hn,g]) bu (by rw[kG bu bu,eK];exact f) ?_;refine gY (A.length+(c+1)) o (by rw[hn,g]) bu (by rw[kG bu bu,cD,bK rfl]) ?_;refine kF (A.length+(c+1)) o (by rw[hn,g]) bu bu (λah U=>?_);refine kF (A.length+c) U (by rw[dW,hn,g]) bu (by rw[dW];omega) (λai I=>?_);rw[<- tF,wP f]at I;exact⟨⟨c,bu,bu,.inr ⟨y,f,hr⟩,I⟩,by dsimp only;omega⟩
 ·rcases d with d|d
  ·have:k=M.length:=by omega
   rw[this,gf]at p;exact p
  ·subst d;simpa using p
 ·have:M.drop k= []:=by
   rcases d with d|d;·exact kY bu
   ·subst d;simp
  rw[this,lJ]at h1;exact h1
def rm{A U M V B:bA cQ}(f:U.length=V.length)(hn:s.n=(A++U++M++V++B).length)(o:(A++U++M++V++B).length<4611686018427387904)(h:Sep E (bw s 2 (bQ cQ.vs (A++U++M++V++B))::L) w){a e n':Int}(m:a=A.length)(he:e=A.length+U.length+M.length)(g:n'=U.length):
  Calls P xR #[Sv s,Iv a,Iv e,Iv n',cmp] w (cW E (.tuple #[]) (bw s 2 (bQ cQ.vs (A++V++M++U++B))::L)):=by
 subst m he g;have hlen:(A++U++M++V++B).length=A.length+U.length+M.length+V.length+B.length:=by simp only[dd]
 apply Yq;unfold ML qO qU qW zM;refine⟨λi w=>∃(k:Nat) (l':bA cQ),i=k/\k<=U.length/\nw (A++U++M++V++B) l' A.length (A.length+U.length+M.length) k/\Sep E (bw s 2 (bQ cQ.vs l')::L) w,λi _=>(U.length-i).toNat,⟨0,_,rfl,fj _,nw.zero _ _ _,h⟩,?_⟩;rintro _ i r ⟨k,l',rfl,hk,c,h1⟩;have b:l'.length=s.n:=by rw[c.1,hn]
 refine cU (λq=>Dr.i h1 (λw2 h2=>?_)) (λp=>⟨rfl,?_⟩)
 ·rw[cP (n:=(A.length:Int)+U.length+M.length+k) bu bu,cP (n:=(A.length:Int)+k) bu bu,cP (n:=(k:Int)+1) bu bu];have hx:l'[A.length+U.length+M.length+k]?=some (l'[A.length+U.length+M.length+k]'bu):=dP;have d:l'[A.length+k]?=some (l'[A.length+k]'bu):=dP;generalize l'[A.length+U.length+M.length+k]'(bu)=x at hx;generalize l'[A.length+k]'(bu)=y at d;refine gY _ h2 b.symm bu hx (gY _ h2 b.symm bu d ?_);refine kF (A.length+k) h2 b.symm bu bu (λt j=>kF (A.length+U.length+M.length+k) j (by rw[dW];exact b.symm) bu (by rw[dW];omega) (λu l=>?_));exact⟨⟨k+1,_,bu,bu,c.step (n:=U.length) bu bu hx d,l⟩,by dsimp only;omega⟩
 ·have:k=U.length:=by omega
  subst this;rw[c.eq f]at h1;exact h1
def DR{A X Y B:bA cQ}(p:1<=X.length)(q:1<=Y.length)(hn:s.n=(A++X++Y++B).length)(t:(A++X++Y++B).length<4611686018427387904)(h:Sep E (bw s 2 (bQ cQ.vs (A++X++Y++B))::L) w){a m e:Int}(r:a=A.length)(hm:m=A.length+X.length)(he:e=A.length+X.length+Y.length):
  Calls P JA #[Sv s,Iv a,Iv m,Iv e,cmp] w (cW E (.tuple #[]) (bw s 2 (bQ cQ.vs (A++Y++X++B))::L)):=by
 subst r hm he;have hlen:(A++X++Y++B).length=A.length+X.length+Y.length+B.length:=by simp only[dd]
 apply Yn;unfold MI qE qI;rw[cP (n:=(A.length:Int)+X.length-A.length) bu bu,cP (n:=(A.length:Int)+X.length+Y.length-(A.length+X.length)) bu bu];refine⟨λi j w=>∃A' c b d:bA cQ,i=c.length/\j=b.length/\1<=c.length/\1<=b.length/\A'.length+c.length=A.length+X.length/\A'++b++c++d=A++Y++X++B/\Sep E (bw s 2 (bQ cQ.vs (A'++c++b++d))::L) w,
  λi j _=>(i+j).toNat,⟨A,X,Y,B,bu,bu,p,q,rfl,rfl,h⟩,?_⟩
 rintro _ i j G ⟨A',c,b,d,rfl,rfl,u,x,C,f,h1⟩;have z:A'.length+b.length+c.length+d.length=A.length+X.length+Y.length+B.length:=by
  have:=eJ List.length f;simp only[dd]at this;omega
 have D:s.n=A'.length+b.length+c.length+d.length:=by omega
 rw[cP (n:=(A.length:Int)+X.length-c.length) bu bu];refine hJ (λF=>fZ (λy=>?_) (λhle=>?_)) (λheq=>?_)
 ·
  have l:A'++c++b++d=A'++c.take b.length++c.drop b.length++b++d:=by rw[dj A' (c.take _),fK]
  have g:(c.take b.length).length=b.length:=by simp;omega
  have k:(c.drop b.length).length=c.length-b.length:=by simp
  rw[l]at h1;refine use (rm (cmp:=cmp) g (by simp only[dd,g,k];omega) (by simp only[dd,g,k];omega) h1 bu bu bu) ?_;rintro _ w2 ⟨rfl,h2⟩;rw[cP bu bu];refine⟨rfl,⟨A'++b,c.drop b.length,c.take b.length,d,bu,bu,bu,bu,by simp only[dd];omega,?_,h2⟩,by dsimp only;omega⟩;rw[<- f,dj (A'++b),fK]
 ·have l:A'++c++b++d=A'++c++b.take (b.length-c.length)++b.drop (b.length-c.length)++d:=by rw[dj (A'++c) (b.take _),fK]
  have g:(b.take (b.length-c.length)).length=b.length-c.length:=by simp
  have k:(b.drop (b.length-c.length)).length=c.length:=by simp;omega
  rw[l]at h1;rw[cP (n:=(A.length:Int)+X.length+b.length) bu bu,cP (n:=(A.length:Int)+X.length+b.length-c.length) bu bu];refine use (rm (cmp:=cmp) k.symm (by simp only[dd,g,k];omega) (by simp only[dd,g,k];omega) h1 bu bu bu) ?_;rintro _ w2 ⟨rfl,h2⟩;rw[cP bu bu];refine⟨rfl,⟨A',b.drop (b.length-c.length),b.take (b.length-c.length),c++d,bu,bu,bu,bu,bu,?_,?_⟩,by dsimp only;omega⟩;·rw[<- f,dj A' (b.take _),fK];simp
  ·have:A'++b.drop (b.length-c.length)++b.take (b.length-c.length)++c++d=A'++b.drop (b.length-c.length)++b.take (b.length-c.length)++(c++d):=by simp
   rw[<- this];exact h2
 ·have o:c.length=b.length:=by omega
  have l:A'++c++b++d=A'++c++[]++b++d:=by simp
  rw[l]at h1;refine use (rm (cmp:=cmp) o (by simp only[dd,p0];omega) (by simp only[dd,p0];omega) h1 bu (by simp only[p0];omega) bu) ?_;rintro _ w2 ⟨rfl,h2⟩;refine⟨rfl,rfl,?_⟩;rw[<- f];have:A'++b++[]++c++d=A'++b++c++d:=by simp
  rw[this]at h2;exact h2
end
end Go.Mp.Sh
namespace Go.Mp.Sh
open Go Go.Vc Go.Sp Go.Stab Go.Mp
section
variable{E:Env}{L:ct}{w:bI}{s:Sl}{cmp:bE}{lt:cQ->cQ->Bool}{n:Nat}{R b:cQ->cQ->Prop}
def lv{A X Y B:bA cQ}{k:Nat}(hk:k<X.length):(A++X++Y++B)[A.length+k]?=X[k]? :=by
 rw[dj,dj,lu,eM hk]
def lx{A X Y B:bA cQ}{k:Nat}(hk:k<Y.length):(A++X++Y++B)[A.length+X.length+k]?=Y[k]? :=by
 have:A.length+X.length+k=(A++X).length+k:=by simp
 rw[this,dj,lu,eM hk]
def vf(K:lr R b lt)(aX:n<1152921504606846976)(hn:s.n=n)(aD:gC E L s cmp lt n):∀(N:Nat) {A X Y B:bA cQ} {w:bI},X.length+Y.length<=N->1<=X.length->1<=Y.length->
  X.Pairwise R->Y.Pairwise R->(∀x∈X,∀y∈Y,b x y)->(A++X++Y++B).length=n->Sep E (bw s 2 (bQ cQ.vs (A++X++Y++B))::L) w->∀ {a m e:Int},a=A.length->m=A.length+X.length->e=A.length+X.length+Y.length->
  Calls P uO #[Sv s,Iv a,Iv m,Iv e,cmp] w (cz λv w'=>v=.tuple #[]/\∃Z,Z.Perm (X++Y)/\Z.Pairwise R/\Sep E (bw s 2 (bQ cQ.vs (A++Z++B))::L) w'):=by
 intro N;induction N with
 |zero=>intro A X Y B w h1 h2;omega
 |succ N aP=>
 intro A X Y B w a5 aI aJ ao ap hb aL h a m e aW hm he;subst aW hm he;have hlen:(A++X++Y++B).length=A.length+X.length+Y.length+B.length:=by simp only[dd]
 rw[hlen]at aL;have J:s.n=(A++X++Y++B).length:=by omega
 apply Yg;unfold MB qE qI qO qU qW qg qh zM zP;rw[cP (n:=(A.length:Int)+X.length-A.length) bu bu,cP (n:=(A.length:Int)+X.length+Y.length-(A.length+X.length)) bu bu];refine eQ (λh1=>?_) (λaY=>eQ (λh2=>?_) (λaZ=>?_))
 ·
  obtain⟨x,rfl⟩:∃x,X= [x]:=by
   match X,aI,h1 with
   |[x],_,_=>exact⟨x,rfl⟩
   |_::_::_,_,h=>simp at h;omega
  simp only[l3]at*
  have ay:∀y∈Y,b x y:=λy l=>hb x (by simp) y l;refine⟨λi j w=>∃p q:Nat,i=A.length+1+p/\j=A.length+1+q/\p<=q/\q<=Y.length/\(p=0\/∃y,Y[p-1]?=some y/\R y x)/\(Y.length<=q\/∃y,Y[q]?=some y/\R x y)/\Sep E (bw s 2 (bQ cQ.vs (A++[x]++Y++B))::L) w,
   λi j _=>(j-i).toNat,⟨0,Y.length,bu,bu,bu,bu,.inl rfl,.inl (ek _),h⟩,?_⟩
  rintro _ i j aS ⟨p,q,rfl,rfl,az,aG,F,G,h1⟩;refine cU (λag=>⟨bN,Dr.i h1 (λw2 h2=>?_)⟩) (λaf=>?_)
  ·have z:((A.length:Int)+1+p+(A.length+1+q))/2=((A.length+1+(p+q)/2:Nat):Int):=by omega
   rw[half,z];have u:(p+q)/2<Y.length:=by omega
   have l:Y[(p+q)/2]?=some (Y[(p+q)/2]'u):=dO u;generalize Y[(p+q)/2]'u=y at l;have aB:y∈Y:=eI l;refine gY (A.length+1+(p+q)/2) h2 J rfl ((lx (A:=A) (X:=[x]) (B:=B) u).trans l) (gY (A.length+0) h2 J bu (by rw[lv (by simp)];rfl) ?_);refine aD.i bu h2 (λO aa f=>?_) (λhf aa f=>?_)
   ·rw[cP bu bu];exact⟨⟨(p+q)/2+1,q,bu,rfl,bu,aG,.inr ⟨y,by simpa using l,(K.ask x y (ay y aB)).1 O⟩,G,f⟩,by dsimp only;omega⟩
   ·exact⟨⟨p,(p+q)/2,rfl,bu,bu,bu,F,.inr ⟨y,l,K.no (ay y aB) hf⟩,f⟩,by dsimp only;omega⟩
  ·have V:p=q:=by omega
   subst V;rw[cP (n:=(A.length:Int)+1+p-1) bu bu];have e0:A++[x]++Y++B=A++ins Y 0 x++B:=by simp[ins]
   rw[e0]at h1;refine⟨λk w=>∃t:Nat,k=A.length+t/\t<=p/\Sep E (bw s 2 (bQ cQ.vs (A++ins Y t x++B))::L) w,λk _=>(A.length+p-k).toNat,⟨0,bu,bu,h1⟩,?_⟩;rintro _ k w2 ⟨t,rfl,O,h2⟩;have C:s.n=(A++ins Y t x++B).length:=by
    have:=mU Y t x;simp only[dd,this];omega
   refine cU (λag=>Dr.i h2 (λaa f=>?_)) (λaf=>?_)
   ·rw[cP (n:=(A.length:Int)+t+1) bu bu];have l:Y[t]?=some (Y[t]'bu):=dP;generalize Y[t]'(bu)=y at l;refine gY (A.length+(t+1)) f C bu (by rw[kG bu bu,cD,cD];exact l) ?_;refine gY (A.length+t) f C bu (by rw[kG bu bu,cD,bK rfl]) ?_;refine kF (A.length+t) f C bu bu (λah r=>kF (A.length+t+1) r (by rw[dW];exact C) bu (by rw[dW];omega) (λaH I=>?_));rw[Hq l]at I;exact⟨⟨t+1,bu,bu,I⟩,by dsimp only;omega⟩
   ·have:t=p:=by omega
    subst this;exact⟨trivial,ins Y t x,rY Y t x,r1 K.ord ap F G,h2⟩
 ·
  obtain⟨y,rfl⟩:∃y,Y= [y]:=by
   match Y,aJ,h2 with
   |[y],_,_=>exact⟨y,rfl⟩
   |_::_::_,_,h=>simp at h;omega
  simp only[l3]at*
  have ax:∀x∈X,b x y:=λx hx=>hb x hx y (by simp);refine⟨λi j w=>∃p q:Nat,i=A.length+p/\j=A.length+q/\p<=q/\q<=X.length/\(p=0\/∃x,X[p-1]?=some x/\R x y)/\(X.length<=q\/∃x,X[q]?=some x/\R y x)/\Sep E (bw s 2 (bQ cQ.vs (A++X++[y]++B))::L) w,
   λi j _=>(j-i).toNat,⟨0,X.length,bu,bu,bu,bu,.inl rfl,.inl (ek _),h⟩,?_⟩
  rintro _ i j aS ⟨p,q,rfl,rfl,az,aG,F,G,h1⟩;refine cU (λag=>⟨bN,Dr.i h1 (λw2 h2=>?_)⟩) (λaf=>?_)
  ·have z:((A.length:Int)+p+(A.length+q))/2=((A.length+(p+q)/2:Nat):Int):=by omega
   rw[half,z];have u:(p+q)/2<X.length:=by omega
   have hx:X[(p+q)/2]?=some (X[(p+q)/2]'u):=dO u;generalize X[(p+q)/2]'u=x at hx;have aA:x∈X:=eI hx;refine gY (A.length+X.length+0) h2 J bu (by rw[lx (by simp)];rfl) (gY (A.length+(p+q)/2) h2 J rfl (by rw[lv u];exact hx) ?_);refine aD.j bu h2 (λO aa f=>?_) (λhf aa f=>?_);·exact⟨⟨p,(p+q)/2,rfl,bu,bu,bu,F,.inr ⟨x,hx,(K.ask x y (ax x aA)).1 O⟩,f⟩,by dsimp only;omega⟩
   ·rw[cP bu bu];exact⟨⟨(p+q)/2+1,q,bu,rfl,bu,aG,.inr ⟨x,by simpa using hx,K.no (ax x aA) hf⟩,G,f⟩,by dsimp only;omega⟩
  ·have V:p=q:=by omega
   subst V;have e0:A++X++[y]++B=A++ins X X.length y++B:=by rw[wO];simp
   rw[e0]at h1;refine⟨λk w=>∃t:Nat,k=A.length+t/\p<=t/\t<=X.length/\Sep E (bw s 2 (bQ cQ.vs (A++ins X t y++B))::L) w,λk _=>(k-A.length).toNat,⟨X.length,rfl,bu,bu,h1⟩,?_⟩;rintro _ k w2 ⟨t,rfl,O,a1,h2⟩;have C:s.n=(A++ins X t y++B).length:=by
    have:=mU X t y;simp only[dd,this];omega
   refine fZ (λag=>Dr.i h2 (λaa f=>?_)) (λaf=>?_)
   ·obtain⟨M,rfl⟩:∃M,t=M+1:=⟨t-1,bu⟩
    rw[cP (n:=(A.length:Int)+((M+1:Nat):Int)-1) bu bu];have hx:X[M]?=some (X[M]'bu):=dP;generalize X[M]'(bu)=x at hx;refine gY (A.length+M) f C bu (by rw[kG bu bu,eK];exact hx) ?_;refine gY (A.length+(M+1)) f C bu (by rw[kG bu bu,cD,bK rfl]) ?_;refine kF (A.length+M+1) f C bu bu (λah r=>kF (A.length+M) r (by rw[dW];exact C) bu (by rw[dW];omega) (λaH I=>?_));rw[wP hx]at I;exact⟨⟨M,bu,bu,bu,I⟩,by dsimp only;omega⟩
   ·have:t=p:=by omega
    subst this;exact⟨trivial,ins X t y,(rY X t y).trans (l1 (l₁:=[y]) (l₂:=X)),r1 K.ord ao F G,h2⟩
 ·
  refine⟨bN,?_⟩;obtain⟨d,a6⟩:∃d,d=(X.length+Y.length)/2:=⟨_,rfl⟩
  have aF:((A.length:Int)+(A.length+X.length+Y.length))/2=((A.length+d:Nat):Int):=by omega
  rw[half,aF];rw[cP (n:=((A.length+d:Nat):Int)+(A.length+X.length)) bu bu];rw[cP (n:=((A.length+d:Nat):Int)+(A.length+X.length)-(A.length+X.length+Y.length)) bu bu];rw[cP (n:=((A.length+d:Nat):Int)+(A.length+X.length)-1) bu bu];obtain⟨W,U⟩:∃W,W=if X.length>d then d-Y.length else 0:=⟨_,rfl⟩
  obtain⟨Q,T⟩:∃Q,Q=if X.length>d then d else X.length:=⟨_,rfl⟩
  have aq:W<=Q/\Q<=d/\Q<=X.length/\d<=W+Y.length:=by
   rw[U,T];split<;>omega
  refine⟨λi j w=>i=A.length+W/\j=A.length+Q/\Sep E (bw s 2 (bQ cQ.vs (A++X++Y++B))::L) w,?_,?_⟩
  ·refine fZ (λa0=>?_) (λhle=>?_)
   ·refine⟨?_,?_,h⟩;·rw[U,eK];omega
    ·rw[T,eK];omega
   ·refine⟨?_,?_,h⟩;·rw[U,cD];omega
    ·rw[T,cD]
  rintro _ i0 a7 aS ⟨rfl,rfl,h1⟩;refine⟨λi j w=>∃p q:Nat,i=A.length+p/\j=A.length+q/\W<=p/\p<=q/\q<=Q/\(p=W\/∃x y,X[p-1]?=some x/\Y[d-p]?=some y/\R x y)/\(q=Q\/∃x y,Y[d-q-1]?=some y/\X[q]?=some x/\R y x)/\
    Sep E (bw s 2 (bQ cQ.vs (A++X++Y++B))::L) w,λi j _=>(j-i).toNat,⟨W,Q,rfl,rfl,ek _,aq.1,ek _,.inl rfl,.inl rfl,h1⟩,?_⟩
  rintro _ i j w2 ⟨p,q,rfl,rfl,aM,az,aN,F,G,h2⟩;refine cU (λag=>⟨bN,Dr.i h2 (λaa f=>?_)⟩) (λaf=>?_)
  ·have z:((A.length:Int)+p+(A.length+q))/2=((A.length+(p+q)/2:Nat):Int):=by omega
   rw[half,z];rw[cP (n:=((A.length+d:Nat):Int)+(A.length+X.length)-1-((A.length+(p+q)/2:Nat):Int)) bu bu];obtain⟨c,aK⟩:∃c,c=(p+q)/2:=⟨_,rfl⟩
   rw[<- aK];have ad:c<X.length:=by omega
   have ae:d-1-c<Y.length:=by omega
   have hx:X[c]?=some (X[c]'ad):=dO ad;have l:Y[d-1-c]?=some (Y[d-1-c]'ae):=dO ae;generalize X[c]'ad=x at hx;generalize Y[d-1-c]'ae=y at l;have al:=hb x (eI hx) y (eI l);refine gY (A.length+X.length+(d-1-c)) f J bu (by rw[lx ae];exact l) (gY (A.length+c) f J bu (by rw[lv ad];exact hx) ?_);refine aD.j bu f (λO ah r=>?_) (λhf ah r=>?_)
   ·refine⟨⟨p,c,rfl,bu,aM,bu,bu,F,.inr ⟨x,y,?_,hx,(K.ask x y al).1 O⟩,r⟩,by dsimp only;omega⟩;rw[show d-c-1=d-1-c by omega];exact l
   ·rw[cP bu bu];refine⟨⟨c+1,q,bu,rfl,bu,bu,aN,.inr ⟨x,y,by simpa using hx,?_,K.no al hf⟩,G,r⟩,by dsimp only;omega⟩;rw[show d-(c+1)=d-1-c by omega];exact l
  ·have V:p=q:=by omega
   subst V;obtain⟨t,O⟩:∃t,t=d-p:=⟨_,rfl⟩
   have am:=wR K.ord (X:=X) (Y:=Y) (i:=p) (j:=t) ao ap (by
    rcases F with e|⟨x,y,H,ab,ai⟩
    ·by_cases an:X.length>d;·rw[bK an]at U;right;left;omega
     ·rw[bJ an]at U;left;omega
    ·exact .inr (.inr ⟨x,y,H,by rw[O];exact ab,ai⟩)) (by
    rcases G with e|⟨x,y,H,ab,ai⟩
    ·by_cases an:X.length>d;·rw[bK an]at T;left;omega
     ·rw[bJ an]at T;right;left;omega
    ·exact .inr (.inr ⟨x,y,by rw[O];exact H,ab,ai⟩))
   have aQ:(X.take p).length=p:=by simp;omega
   have aR:(Y.take t).length=t:=by simp;omega
   have a2:(X.drop p).length=X.length-p:=by simp
   have a3:(Y.drop t).length=Y.length-t:=by simp
   have aE:i64.wrap (((A.length+d:Nat):Int)+(A.length+X.length)-(A.length+p))=((A.length+X.length+t:Nat):Int):=by
    rw[cP bu bu];omega
   rw[aE];refine⟨λw=>Sep E (bw s 2 (bQ cQ.vs (A++(X.take p++Y.take t)++(X.drop p++Y.drop t)++B))::L) w,?_,?_⟩
   ·refine⟨λc w=>c=decide (p<X.length/\0<t)/\Sep E (bw s 2 (bQ cQ.vs (A++X++Y++B))::L) w,?_,?_⟩
    ·refine cU (λg=>⟨?_,h2⟩) (λg=>⟨?_,h2⟩)
     ·have:(decide ((A.length:Int)+X.length<((A.length+X.length+t:Nat):Int)))=decide (0<t):=by
       by_cases o:0<t;·rw[dF o,dF bu]
       ·rw[dg o,dg bu]
      rw[this];by_cases o:0<t;·rw[dF o,dF ⟨bu,o⟩]
      ·rw[dg o,dg (λz=>o z.2)]
     ·exact(dg (λz=>bu)).symm
    rintro _ c aa ⟨rfl,f⟩;refine cv (λg=>?_) (λg=>?_)
    ·have g:=mH g;have H:A++X++Y++B=(A++X.take p)++X.drop p++Y.take t++(Y.drop t++B):=by
      simp only[dj];rw[<- dj (Y.take t),fK,<- dj (X.take p),fK]
     rw[H]at f;refine use (DR (cmp:=cmp) bu bu (by rw[<- H];exact J) (by rw[<- H];omega) f (by simp only[dd];omega) (by simp only[dd];omega) (by simp only[dd];omega)) ?_;rintro _ ah ⟨rfl,r⟩;refine⟨rfl,?_⟩;have ab:(A++X.take p)++Y.take t++X.drop p++(Y.drop t++B)=A++(X.take p++Y.take t)++(X.drop p++Y.drop t)++B:=by simp
     rw[<- ab];exact r
    ·have g:=kg g;have ab:A++(X.take p++Y.take t)++(X.drop p++Y.drop t)++B=A++X++Y++B:=by
      by_cases o:p<X.length
      ·have:t=0:=by omega
       subst this;simp only[wi,hv,rI,dj];rw[<- dj (X.take p),fK]
      ·have ai:X.drop p= []:=kY bu;have aU:X.take p=X:=iw bu;rw[ai,aU,lJ];simp only[dj];rw[<- dj (Y.take t),fK]
     rw[ab];exact f
   rintro _ aa f;have au:(X.take p).Pairwise R:=ao.sublist (o4 _ _);have ar:(X.drop p).Pairwise R:=ao.sublist (F9 _ _);have aw:(Y.take t).Pairwise R:=ap.sublist (o4 _ _);have av:(Y.drop t).Pairwise R:=ap.sublist (F9 _ _);refine⟨λw=>∃D,D.Perm (X.take p++Y.take t)/\D.Pairwise R/\Sep E (bw s 2 (bQ cQ.vs (A++D++(X.drop p++Y.drop t)++B))::L) w,?_,?_⟩
   ·refine⟨λc w=>c=decide (0<p/\0<t)/\Sep E (bw s 2 (bQ cQ.vs (A++(X.take p++Y.take t)++(X.drop p++Y.drop t)++B))::L) w,?_,?_⟩
    ·refine cU (λg=>⟨?_,f⟩) (λg=>⟨?_,f⟩)
     ·by_cases o:0<t;·rw[dF bu,dF ⟨bu,o⟩]
      ·rw[dg bu,dg (λz=>o z.2)]
     ·exact(dg (λz=>bu)).symm
    rintro _ c ah ⟨rfl,r⟩;refine cv (λg=>?_) (λg=>?_)
    ·have g:=mH g;have H:A++(X.take p++Y.take t)++(X.drop p++Y.drop t)++B=A++X.take p++Y.take t++((X.drop p++Y.drop t)++B):=by simp
     rw[H]at r;refine use (aP bu bu bu au aw (λx hx y l=>hb x (nP hx) y (nP l)) (by simp only[dd];omega) r rfl bu bu) ?_;rintro _ aH ⟨rfl,D,S,ak,I⟩;refine⟨rfl,D,S,ak,?_⟩;rw[dj (A++D)];exact I
    ·have g:=kg g;refine⟨_,.refl _,?_,r⟩;by_cases o:0<p
     ·have:t=0:=by omega
      subst this;simpa using au
     ·have:p=0:=by omega
      subst this;simpa using aw
   rintro _ ah ⟨D,S,aj,r⟩;have a4:D.length=d:=by rw[S.length_eq,dd,aQ,aR];omega
   refine⟨λc w=>c=decide (p<X.length/\t<Y.length)/\Sep E (bw s 2 (bQ cQ.vs (A++D++(X.drop p++Y.drop t)++B))::L) w,?_,?_⟩
   ·refine cU (λg=>⟨?_,r⟩) (λg=>⟨?_,r⟩)
    ·by_cases o:t<Y.length;·rw[dF bu,dF ⟨bu,o⟩]
     ·rw[dg bu,dg (λz=>o z.2)]
    ·exact(dg (λz=>bu)).symm
   rintro _ c aH ⟨rfl,I⟩;refine cv (λg=>?_) (λg=>?_)
   ·have g:=mH g;have H:A++D++(X.drop p++Y.drop t)++B=(A++D)++X.drop p++Y.drop t++B:=by simp
    rw[H]at I;refine use (aP bu bu bu ar av (λx hx y l=>hb x (tr hx) y (tr l)) (by simp only[dd];omega) I (by simp only[dd];omega) (by simp only[dd];omega) (by simp only[dd];omega)) ?_;rintro _ a8 ⟨rfl,aT,ak,aC,aV⟩;have:=jL S ak aj aC am;refine⟨rfl,rfl,D++aT,this.1,this.2,?_⟩;rw[<- dj A];exact aV
   ·have g:=kg g;have aO:(X.drop p++Y.drop t).Pairwise R:=by
     by_cases o:p<X.length
     ·have:Y.drop t= []:=kY bu;rw[this,hv];exact ar
     ·have:X.drop p= []:=kY bu;rw[this,lJ];exact av
    have:=jL S (.refl _) aj aO am;refine⟨rfl,D++(X.drop p++Y.drop t),this.1,this.2,?_⟩;rw[<- dj A];exact I
end
end Go.Mp.Sh
namespace Go.Mp.Sh
open Go Go.Vc Go.Sp Go.Stab Go.Mp
section
variable{E:Env}{L:ct}{w:bI}{s:Sl}{cmp:bE}{lt:cQ->cQ->Bool}{R b:cQ->cQ->Prop}
def ff(b:cQ->cQ->Prop)(X Y:bA cQ):Prop:=∀x∈X,∀y∈Y,b x y
def ff.merge{Ps Qs:bA (bA cQ)}{X Y Z:bA cQ}(h:(Ps++X::Y::Qs).Pairwise (ff b))(j:Z.Perm (X++Y)):(Ps++Z::Qs).Pairwise (ff b):=by
 have hm:∀z,z∈Z->z∈X\/z∈Y:=λz a=>gH.1 (j.mem_iff.1 a);rw[jy,g7,g7]at h;rw[jy,g7];obtain⟨h1,⟨h2,g,i⟩,d⟩:=h;refine⟨h1,⟨λQ c z a y f=>?_,i⟩,λP' e Q c=>?_⟩
 ·rcases hm z a with a|a;·exact h2 Q (by simp[c]) z a y f
  ·exact g Q c z a y f
 ·rcases ew.1 c with rfl|c
  ·intro x hx z a;rcases hm z a with a|a;·exact d P' e X (by simp) x hx z a
   ·exact d P' e Y (by simp) x hx z a
  ·exact d P' e Q (by simp[c])
def ff.perm{Ps Qs:bA (bA cQ)}{X Z:bA cQ}(h:(Ps++X::Qs).Pairwise (ff b))(g:Z.Perm X):(Ps++Z::Qs).Pairwise (ff b):=by
 have hm:∀z,z∈Z->z∈X:=λz c=>g.mem_iff.1 c;rw[jy,g7]at h ⊢;obtain⟨h1,⟨h2,f⟩,d⟩:=h;refine⟨h1,⟨λQ a z c y i=>h2 Q a z (hm z c) y i,f⟩,λP' e Q a=>?_⟩;rcases ew.1 a with rfl|a;·intro x hx z c;exact d P' e X (by simp) x hx z (hm z c)
 ·exact d P' e Q (by simp[a])
def ff.split{Ps:bA (bA cQ)}{a M2:bA cQ}(h:(Ps++[a++M2]).Pairwise (ff b))(c:(a++M2).Pairwise b):(Ps++[a,M2]).Pairwise (ff b):=by
 rw[jy]at h c ⊢;obtain⟨h1,_,f⟩:=h;refine⟨h1,by simpa[ff]using c.2.2,λP' g Q d x hx y e=>?_⟩;have:=f P' g (a++M2) (by simp) x hx y;simp only[ew,tC,tI]at d;rcases d with rfl|rfl;·exact this (by simp[e])
 ·exact this (by simp[e])
def ft(R:cQ->cQ->Prop)(b:Nat)(a:bA (bA cQ)):Prop:=∀F∈a,F.length=b/\F.Pairwise R
def ft.length{b:Nat}:∀ {a:bA (bA cQ)},ft R b a->a.flatten.length=b*a.length
 |[],_=>by simp
 |F::a,h=>by
  have h1:=(h F (by simp)).1;have h2:a.flatten.length=b*a.length:=ft.length (λG c=>h G (by simp[c]));rw[tw,dd,h1,h2,hM,nc,fR,rK]
def ft.snoc{b:Nat}{c:bA (bA cQ)}{F:bA cQ}(h:ft R b c)(h1:F.length=b)(h2:F.Pairwise R):ft R b (c++[F]):=by
 intro G a;rcases gH.1 a with a|a;·exact h G a
 ·rw[ia.1 a];exact⟨h1,h2⟩
def DS{l:bA cQ}(K:lr R b lt)(ag:l.Pairwise b)(hn:s.n=l.length)(ah:l.length<288230376151711744)(Q:gC E L s cmp lt l.length)(h:Sep E (bw s 2 (bQ cQ.vs l)::L) w):
  Calls P Jp #[Sv s,Iv (s.n:Nat),cmp] w (cz λv w'=>v=.tuple #[]/\∃l',l'.Perm l/\l'.Pairwise R/\Sep E (bw s 2 (bQ cQ.vs l')::L) w'):=by
 apply X0;unfold Ml qE qI qO;rw[hn];refine⟨λa e w=>∃c M,a=(20*c.length:Nat)/\e=(20*c.length+20:Nat)/\ft R 20 c/\M.Pairwise b/\(c++[M]).Pairwise (ff b)/\(c.flatten++M).Perm l/\Sep E (bw s 2 (bQ cQ.vs (c.flatten++M))::L) w,λa _ _=>(l.length-a).toNat,
  ⟨[],l,rfl,rfl,λF i=>(by cases i),ag,by simp,by simp,by simpa using h⟩,?_⟩
 rintro _ a e ar ⟨c,M,rfl,rfl,i,S,p,j,h1⟩;have hlen:=j.length_eq;have k:=i.length;rw[dd,k]at hlen;refine h6 (λhle=>?_) (λad=>?_)
 ·have m:c.flatten++M=c.flatten++M.take 20++M.drop 20:=by rw[dj,fK]
  have ae:(M.take 20).length=20:=by simp;omega
  have u:=S;rw[<- fK 20 M]at u p;have ab:=ff.split p u;rw[jy]at u;have C:(c.flatten++M.take 20++M.drop 20).length=l.length:=by rw[<- m];exact j.length_eq
  rw[m]at h1;rw[<- hn];refine use (ve K u.1 (by rw[C];exact hn) bu (by rw[C];exact Q) h1 (by rw[k]) (by rw[k,ae];omega)) ?_;rintro _ w2 ⟨rfl,X,G,aa,h2⟩;rw[cP bu bu];have ak:X.length=20:=by rw[G.length_eq,ae]
  refine⟨rfl,⟨c++[X],M.drop 20,by simp;omega,by simp;omega,i.snoc ak aa,u.2.1,?_,?_,?_⟩,by dsimp only;omega⟩
  ·have:=ff.perm (Ps:=c) (Qs:=[M.drop 20]) ab G;simpa using this
  ·refine List.Perm.trans ?_ j;rw[m];simp only[F0,tw,y2,hv];exact(G.append_left _).append_right _
  ·simpa using h2
 ·have m:c.flatten++M=c.flatten++M++[]:=by simp
  rw[m]at h1;rw[<- hn];refine use (ve K S (by rw[<- m,j.length_eq];exact hn) (by rw[<- m,j.length_eq];omega) (by rw[<- m,j.length_eq];exact Q) h1 (by rw[k]) (by rw[k];omega)) ?_;rintro _ w2 ⟨rfl,T,W,q,h2⟩;rw[hv]at h2;have aq:=W.length_eq;refine⟨rfl,λz w=>∃(f:Nat) (c:bA (bA cQ)) (T:bA cQ),z=f/\20<=f/\ft R f c/\T.length<f/\T.Pairwise R/\(c++[T]).Pairwise (ff b)/\(c.flatten++T).Perm l/\Sep E (bw s 2 (bQ cQ.vs (c.flatten++T))::L) w,λz _=>(l.length-z).toNat,
   ⟨20,c,T,rfl,ek _,i,bu,q,ff.perm p W,(W.append_left _).trans j,h2⟩,?_⟩
  rintro _ z au ⟨f,c,T,rfl,an,i,I,q,p,j,O⟩;have hlen:=j.length_eq;have k:=i.length;rw[dd,k]at hlen;refine cU (λap=>?_) (λao=>⟨rfl,_,j,?_,O⟩)
  ·have aj:f<l.length:=by omega
   rw[cP (n:=2*(f:Int)) bu bu];refine⟨λa e w=>∃d c T,a=(2*f*d.length:Nat)/\e=(2*f*d.length+2*f:Nat)/\ft R (2*f) d/\ft R f c/\T.length<f/\T.Pairwise R/\(d++(c++[T])).Pairwise (ff b)/\
     (d.flatten++(c.flatten++T)).Perm l/\Sep E (bw s 2 (bQ cQ.vs (d.flatten++(c.flatten++T)))::L) w,λa _ _=>(l.length-a).toNat,
    ⟨[],c,T,by simp,by simp,λF i=>(by cases i),i,I,q,by simpa using p,by simpa using j,by simpa using O⟩,?_⟩
   rintro _ a e av ⟨d,c,T,rfl,rfl,V,i,I,q,p,j,x⟩;have hlen:=j.length_eq;have t:=V.length;have k:=i.length;rw[dd,dd,k,t]at hlen;have hmul:f*c.length<=l.length:=by omega
   have af:2*f*d.length<=l.length:=by omega
   rw[cP (n:=((2*f*d.length:Nat):Int)+f) bu bu];refine h6 (λhle=>?_) (λad=>?_)
   ·obtain⟨r,o,g,rfl⟩:∃r o g,c=r::o::g:=by
     match c,hlen with
     |[],hl=>simp at hl;omega
     |[F],hl=>simp at hl;omega
     |r::o::g,_=>exact⟨r,o,g,rfl⟩
    have f1:=i r (by simp);have f2:=i o (by simp);have y:=p;rw[jy]at y;have N:ff b r o:=(g7.1 y.2.1).1 o (by simp);have m:d.flatten++((r::o::g).flatten++T)=d.flatten++r++o++(g.flatten++T):=by simp
    have C:(d.flatten++r++o++(g.flatten++T)).length=l.length:=by rw[<- m];exact j.length_eq
    rw[m]at x;rw[<- hn];refine use (vf K bu hn Q _ (ek _) bu bu f1.2 f2.2 N C x (by rw[t]) (by rw[t,f1.1]) (by rw[t,f1.1,f2.1];omega)) ?_;rintro _ am ⟨rfl,Z,A,J,D⟩;have al:Z.length=2*f:=by rw[A.length_eq,dd,f1.1,f2.1];omega
    rw[cP bu bu];refine⟨rfl,⟨d++[Z],g,T,?_,?_,V.snoc al J,λF Y=>i F (by simp[Y]),I,q,?_,?_,?_⟩,?_⟩;·rw[dd,l3,nc,fR]
    ·rw[dd,l3,nc,fR];omega
    ·have:=ff.merge (Ps:=d) (Qs:=g++[T]) (by simpa using p) A;simpa using this
    ·refine List.Perm.trans ?_ j;rw[m];simp only[F0,tw,y2,hv];have:d.flatten++r++o++(g.flatten++T)=d.flatten++(r++o)++(g.flatten++T):=by simp
     rw[this];exact(A.append_left _).append_right _
    ·simpa using D
    ·dsimp only;omega
   ·have fin:∀ {T':bA cQ} {w':bI},T'.length<2*f->T'.Pairwise R->T'.Perm (c.flatten++T)->(d++[T']).Pairwise (ff b)->Sep E (bw s 2 (bQ cQ.vs (d.flatten++T'))::L) w'->
      ((∃(B:Nat) (c:bA (bA cQ)) (T:bA cQ),i64.wrap ((f:Int)*2)=B/\20<=B/\ft R B c/\T.length<B/\T.Pairwise R/\(c++[T]).Pairwise (ff b)/\(c.flatten++T).Perm l/\Sep E (bw s 2 (bQ cQ.vs (c.flatten++T))::L) w')/\
       (l.length-i64.wrap ((f:Int)*2)).toNat<(l.length-(f:Int)).toNat):=by
     intro T' w' h1 h2 O x D;rw[cP bu bu];exact⟨⟨2*f,d,T',bu,bu,V,h1,h2,x,(O.append_left _).trans j,D⟩,bu⟩
    rcases c with _|⟨F,_|⟨o,g⟩⟩
    ·refine cU (λU=>?_) (λ_=>?_);·exfalso;simp at hlen;omega
     ·exact fin (T':=T) bu q (by simp) (by simpa using p) (by simpa using x)
    ·have f1:=i F (by simp);simp only[l3,fR]at hlen;refine cU (λU=>?_) (λU=>?_)
     ·have y:=p;rw[jy]at y;have N:ff b F T:=(g7.1 y.2.1).1 T (by simp);have m:d.flatten++([F].flatten++T)=d.flatten++F++T++[]:=by simp
      have C:(d.flatten++F++T++[]).length=l.length:=by rw[<- m];exact j.length_eq
      rw[m]at x;rw[<- hn];refine use (vf K bu hn Q _ (ek _) bu bu f1.2 q N C x (by rw[t]) (by rw[t,f1.1]) (by rw[t,f1.1];omega)) ?_;rintro _ am ⟨rfl,Z,A,J,D⟩;refine⟨rfl,?_⟩;rw[hn];refine fin (T':=Z) (by rw[A.length_eq,dd,f1.1];omega) J (by simpa using A) ?_ (by simpa using D);exact ff.merge (Ps:=d) (Qs:=[]) (by simpa using p) A
     ·have H:T= []:=by
       have:T.length=0:=by omega
       exact vU.1 this
      subst H;refine fin (T':=F) bu f1.2 (by simp) ?_ (by simpa using x);have:(d++F::[]::[]).Pairwise (ff b):=by simpa using p
      exact ff.merge (Ps:=d) (Qs:=[]) this (by simp)
    ·exfalso;simp only[hM,nc,fR]at hlen;omega
  ·have ai:l.length<=f:=by omega
   match c,i,k,hlen,p with
   |[],_,_,_,_=>simpa using q
   |[F],i,_,hlen,_=>
    have f1:=i F (by simp);have H:T= []:=by
     have:T.length=0:=by simp at hlen;omega
     exact vU.1 this
    subst H;simpa using f1.2
   |r::o::g,_,_,hlen,_=>
    exfalso;simp only[hM,nc,fR]at hlen;omega
def DT{l:bA cQ}(K:lr R b lt)(c:l.Pairwise b)(hn:s.n=l.length)(a:l.length<288230376151711744)(d:gC E L s cmp lt l.length)(h:Sep E (bw s 2 (bQ cQ.vs l)::L) w):
  Calls P Jc #[Sv s,cmp] w (cz λv w'=>v=.tuple #[]/\∃l',l'.Perm l/\l'.Pairwise R/\Sep E (bw s 2 (bQ cQ.vs l')::L) w'):=by
 apply XC;unfold LZ qE;refine use (DS K c hn a d h) ?_;rintro _ e ⟨rfl,h1⟩;exact⟨rfl,rfl,h1⟩
end
end Go.Mp.Sh
namespace Go.Proofs
open Go.Shelf
def Tryz.ly:Go.Shelf.Ren:=⟨fun|15=>188|n=>n,fun|22=>22|3=>3|4=>4|n=>n,fun|n=>n⟩
def Tryz.nI:Go.Proofs.Lays2.n15 Tryz.prog Tryz.ly:={
 mixed:=by kernel_rfl
 f15:=func188.trans (eJ some cS)
 t3:=Tryz.underlying3
 a3:=Tryz.isAgg3
 z3:=Tryz.sizeOf3
 v3:=Tryz.zeroValue3
 t4:=Tryz.underlying4
 a4:=Tryz.isAgg4
 z4:=Tryz.sizeOf4
 v4:=Tryz.zeroValue4
 t22:=Tryz.underlying22
 a22:=Tryz.isAgg22
 z22:=Tryz.sizeOf22
 v22:=Tryz.zeroValue22
 i3:=by kernel_rfl}
end Go.Proofs
namespace Go.Mp
open Go Go.Vc Go.Sp
variable{E:Env}{L:ct}{w:bI}
def clear.i{b o n c:Nat}{C:bA bE}{st ty:cc}{c9 m:Nat}{zs:bA bE}(h:Sep E (bC b C::L) w)(l:hi P st=some (c9,m,zs))(D:zs.length=m)(g:∀v∈zs,v.oneCell'=true)(F:o+n*m<=C.length){G:bf8}(k:∀a,Sep E (bC b (ig C o (Builtin.zeroCells zs.toArray n).toList)::L) a->G a):
  ∃a,Sem.run P (Builtin.clear_ #[st] ty #[.slice (some ⟨b,o,none⟩) n c]) w=.ok (.tuple #[]) a/\G a:=by
 obtain⟨e,i,z,t,A,y,p,s,x⟩:=pj l;subst p s x;cases n with
 |zero=>
  refine⟨w,by simp[Builtin.clear_,run_underlying t],k _ ?_⟩;simpa[Builtin.zeroCells,ig]using h
 |succ n=>
  have hl:(Builtin.zeroCells z.cells (n+1)).toList.length=(n+1)*i.size:=by rw[sF,<- D];simp
  have d:=run_storeCells_cells (P:=P) b o (Builtin.zeroCells z.cells (n+1)).toList 0 w (λj B=>h.isSome bu) (λj B=>h.qt bu) (λu hu=>by
   simp only[Builtin.zeroCells,Array.toList_map,fA]at hu;obtain⟨q,l,rfl⟩:=hu;have r:q%z.cells.size<z.cells.size:=by
    refine kM _ ?_;rcases k2 z.cells.size with f|f;·simp[f]at l
    ·exact f
   have:z.cells[q%z.cells.size]! =z.cells[q%z.cells.size]:=by simp[r]
   rw[this];exact g _ (by simp))
  refine⟨w.setCells b o (Builtin.zeroCells z.cells (n+1)).toList,?_,k _ (by simpa using h.setCells _ _)⟩;simp only[lK]at d;simp[Builtin.clear_,run_underlying t,zeroValue,typeInfo,A,y,d]
def vg(E:Env)(del:bE)(q:Int->Bool)(M:ct)(D:Int->Prop):Prop:=
 ∀x w,D x->Sep E M w->e1 P del #[Iv x] w λe w'=>e=.returned (.bool (q x))/\Sep E M w'
def PH{s:Sl}{l:bS}{del:bE}{q:Int->Bool}(z:vg E del q (bw s 1 (bD l)::L) (· ∈l))(hn:s.n=l.length)(hb:l.length<4611686018427387904)(h:Sep E (bw s 1 (bD l)::L) w):
  Calls P Cq #[Sv s,del] w (cz λv w'=>∃i:Int,v=Iv i/\((i= -1/\∀x∈l,q x=false)\/(0<=i/\i<l.length/\(∀j x,j<i.toNat->l[j]?=some x->q x=false)/\∀x,l[i.toNat]?=some x->q x=true))/\Sep E (bw s 1 (bD l)::L) w'):=by
 apply Xp;unfold LQ qD qO qW;refine⟨λi w=>(0<=i/\i<=l.length)/\(∀j x,j<i.toNat->l[j]?=some x->q x=false)/\Sep E (bw s 1 (bD l)::L) w,λi _=>(l.length-i).toNat,⟨⟨bu,bu⟩,λj x g=>by simp at g,h⟩,?_⟩;rintro _ i B ⟨⟨k,D⟩,a,h1⟩;refine cU (λy=>?_) (λC=>?_)
 ·have o:i<l.length:=by omega
  have hx:l[i.toNat]?=some (l[i.toNat]'bu):=dP;refine bw.el 0 h1 rfl k bu (λb hp t=>?_);have f:=t 0 bu;refine⟨l[i.toNat]'bu,f.trans (by simp[hx]),?_⟩;obtain⟨u,ca,p,r,d⟩:=z (l[i.toNat]'bu) B (oq _) h1;refine⟨u,ca,p,r,d.mono ?_⟩;rintro e w2 ⟨rfl,h2⟩;refine⟨_,rfl,cv (λA=>⟨i,rfl,.inr ⟨k,o,a,λx m=>?_⟩,h2⟩) (λhf=>?_)⟩;·rw[hx]at m;rw[<- cR m];exact A
  ·rw[cP bu bu];refine⟨⟨⟨bu,bu⟩,λj x g c=>?_,h2⟩,by show(l.length-(i+1)).toNat<(l.length-i).toNat;omega⟩;by_cases n:j<i.toNat;·exact a j x n c
   ·have:j=i.toNat:=by omega
    subst this;rw[hx]at c;rw[<- cR c];exact hf
 ·refine⟨-1,rfl,.inl ⟨rfl,λx hx=>?_⟩,h1⟩;obtain⟨j,g,rfl⟩:=je.1 hx;exact a j _ bu (dO g)
def PI{s:Sl}{l:bS}{del:bE}{q:Int->Bool}(T:∀m:bS,m.length=l.length->vg E del q (bw s 1 (bD m)::L) (· ∈l))(hn:s.n=l.length)(hb:l.length<4611686018427387904)(h:Sep E (bw s 1 (bD l)::L) w):
  Calls P B0 #[Sv s,del] w (cz λv w'=>∃s':Sl,v=.slice s'.p s'.n s'.c/\s'.n=(l.filter λx=> !q x).length/\Sep E (bw s' 1 (bD (l.filter λx=> !q x))::L) w'):=by
 apply WH;unfold Ld qD qI qQ qW;refine use (PH (T l rfl) hn hb h) ?_;rintro _ an ⟨i,rfl,X,h1⟩;refine⟨i,rfl,?_⟩;rcases X with⟨rfl,G⟩|⟨af,ag,M,O⟩
 ·have e:l.filter (λx=> !q x)=l:=by
   rw[vY];intro x hx;simp[G x hx]
  refine eQ (λ_=>⟨s,rfl,by rw[e];exact hn,by rw[e];exact h1⟩) (λF=>absurd rfl F)
 ·refine eQ (λF=>bu) (λ_=>?_);rw[cP bu bu];have u:(l.take i.toNat).filter (λx=> !q x)=l.take i.toNat:=by
   rw[vY];intro x hx;obtain⟨j,Y,rfl⟩:=je.1 hx;simp only[hF]at Y;have:=M j l[j] bu (dP);rw[List.getElem_take];simp[this]
  have I:(l.take (i.toNat+1)).filter (λx=> !q x)=l.take i.toNat:=by
   have J:l[i.toNat]?=some (l[i.toNat]'bu):=dP;rw[mG,J,tv,u];simp[O _ J]
  refine⟨λa j w=>(i+1<=j/\j<=l.length)/\∃m:bS,m.length=l.length/\a=((l.take j.toNat).filter λx=> !q x).length/\m.take a.toNat=(l.take j.toNat).filter (λx=> !q x)/\m.drop j.toNat=l.drop j.toNat/\Sep E (bw s 1 (bD m)::L) w,
   λ_ j _=>(l.length-j).toNat,⟨⟨bu,bu⟩,l,rfl,?_,?_,rfl,h1⟩,?_⟩
  ·have k:(i+1).toNat=i.toNat+1:=by omega
   rw[k,I];simp;omega
  ·have k:(i+1).toNat=i.toNat+1:=by omega
   rw[k,I]
  rintro _ a j w2 ⟨⟨ah,ai⟩,m,hm,W,c,p,h2⟩;have N:((l.take j.toNat).filter λx=> !q x).length<=j.toNat:=by
   refine mK (l2 _ _) ?_;simp;omega
  refine cU (λZ=>?_) (λae=>?_)
  ·have al:j<l.length:=by omega
   have z:l[j.toNat]?=some (l[j.toNat]'bu):=dP;have H:m[j.toNat]?=some (l[j.toNat]'bu):=by
    have:(m.drop j.toNat)[0]?=(l.drop j.toNat)[0]? :=by rw[p]
    simpa[z]using this
   generalize ab:l[j.toNat]'(bu)=v at z H;have V:v∈l:=by rw[<- ab];exact oq _
   refine bw.el 0 h2 rfl bu bu (λb hp B=>?_);have D:=B 0 bu;refine⟨v,D.trans (by simp[H]),?_⟩;obtain⟨F,ca,k,K,C⟩:=T m hm v w2 V h2;refine⟨F,ca,k,K,C.mono ?_⟩;rintro e ao ⟨rfl,r⟩;have d:(j+1).toNat=j.toNat+1:=by omega
   have g:(l.take (j.toNat+1)).filter (λx=> !q x)=(l.take j.toNat).filter (λx=> !q x)++(if q v then[]else[v]):=by
    rw[mG,z,tv];cases n:q v<;>simp[n]
   have o:m.drop (j.toNat+1)=l.drop (j.toNat+1):=by
    rw[<- p1,<- p1,p]
   refine⟨_,rfl,cv (λhf=>?_) (λaa=>?_)⟩
   ·have n:q v=false:=by simpa using hf
    rw[n]at g;refine bw.el 0 r rfl bu bu (λam S _=>?_);refine bw.st r S (by simp;omega) (λt f=>?_);rw[cP bu bu,cP bu bu];refine⟨⟨⟨bu,bu⟩,m.set a.toNat v,by simpa using hm,?_,?_,?_,?_⟩,by show(l.length-(j+1)).toNat<(l.length-j).toNat;omega⟩;·rw[d,g];simp;omega
    ·have k:(a+1).toNat=a.toNat+1:=by omega
     rw[k,d,g,mG,S2 (ek _),c,jd bu];simp
    ·rw[d,S3 bu];exact o
    ·have K:(bD m).set (a.toNat*1) (Iv v)=bD (m.set a.toNat v):=by simp[bD,hG]
     rw[K]at f;exact f
   ·have n:q v=true:=by simpa using aa
    rw[n]at g;rw[cP bu bu];refine⟨⟨⟨bu,bu⟩,m,hm,?_,?_,?_,r⟩,by show(l.length-(j+1)).toNat<(l.length-j).toNat;omega⟩;·rw[d,g];simp;omega
    ·rw[d,g];simpa using c
    ·rw[d];exact o
  ·have Q:l.take j.toNat=l:=iw bu;rw[Q]at W c N;have hle:=l2 (λx=> !q x) l;obtain⟨b,spare,hp,aj,y,ak,r⟩:=bw.im h2 bu;refine⟨⟨bu,bu⟩,?_⟩;rw[hp];have U:gi (some ⟨b,0,none⟩) a.toNat s.c 1=some ⟨b,if s.c=a.toNat then 0 else a.toNat,none⟩:=by
    unfold gi;split;·rfl
    ·simp
   rw[U];have fin:∀ {t:bI} {rest:bA bE},rest.length+a.toNat=s.c->Sep E (bC b (bD (l.filter λx=> !q x)++rest)::L) t->(0<=a/\a<=(s.c:Int))/\∃s':Sl,Value.slice (gi (some ⟨b,0,none⟩) 0 s.c 1) (a.toNat-0) (s.c-0)=.slice s'.p s'.n s'.c/\s'.n=(l.filter λx=> !q x).length/\Sep E (bw s' 1 (bD (l.filter λx=> !q x))::L) t:=by
    intro t rest hr f;refine⟨⟨bu,bu⟩,⟨some ⟨b,0,none⟩,a.toNat,s.c⟩,?_,by dsimp only;omega,bw.make f (by simp;omega) (by simp;omega) bu⟩;unfold gi;split<;>simp
   have R:bD m=bD (l.filter λx=> !q x)++(bD m).drop a.toNat:=by
    have:bD (l.filter λx=> !q x)=(bD m).take a.toNat:=by
     rw[<- c];simp[bD,List.map_take]
    rw[this,fK]
   by_cases B:s.c=a.toNat
   ·rw[bK B];have ad:s.n-a.toNat=0:=by omega
    rw[ad];refine clear.i r (c9:=8) (m:=1) (zs:=[Iv 0]) cS rfl (by simp[Value.oneCell']) (by simp) (λt f=>?_);refine fin (rest:=(bD m).drop a.toNat++spare) (by simp at y ⊢;omega) ?_;have e:ig (bD m++spare) 0 (Builtin.zeroCells [Value.int .i64 0].toArray 0).toList=bD (l.filter λx=> !q x)++((bD m).drop a.toNat++spare):=by
     rw[<- dj,<- R];simp[Builtin.zeroCells,ig]
    rw[e]at f;exact f
   ·rw[bJ B];refine clear.i r (c9:=8) (m:=1) (zs:=[Iv 0]) cS rfl (by simp[Value.oneCell']) (by simp;omega) (λt f=>?_);have A:=sF [Value.int .i64 0].toArray (s.n-a.toNat);refine fin (rest:=(Builtin.zeroCells [Value.int .i64 0].toArray (s.n-a.toNat)).toList++spare) (by simp at y A ⊢;omega) ?_;have e:ig (bD m++spare) a.toNat (Builtin.zeroCells [Value.int .i64 0].toArray (s.n-a.toNat)).toList=bD (l.filter λx=> !q x)++((Builtin.zeroCells [Value.int .i64 0].toArray (s.n-a.toNat)).toList++spare):=by
     rw[oF _ _ _ (by simp at y A ⊢;omega),A];rw[rC (by simp;omega),S9];have k:(bD m).take a.toNat=bD (l.filter λx=> !q x):=by rw[<- c];simp[bD,List.map_take]
     rw[k,kY (by simp;omega)];simp only[lJ,dj];congr 2;have:a.toNat+(s.n-a.toNat)* [Value.int i64 0].toArray.size-(bD m).length=0:=by simp;omega
     rw[this,rI]
    rw[e]at f;exact f
end Go.Mp
