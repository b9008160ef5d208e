/- A part of the proof. -/
import Derived.Test.YtafigbgagbolgaaGreatDoorF04
set_option linter.all false
set_option maxRecDepth 100000
open Go.IntKind(i64 u64)
open Go.Proofs.Tryz
namespace Go.Kc
open Go Go.Kt
def yF{l:bA G}(hw:WF l)(g:Int):(ia l g).length<=64:=by
 unfold ia nP;have:=hw.e8;split
 ·rw[en];exact mJ (l0 _ _) (by rw[Gc];exact this)
 ·exact e7 _
def aJ8{p:Nat->Prop}(h:∃n,p n):∃n,p n/\∀m,p m->n<=m:=by
 obtain⟨n,hn⟩:=h;induction n using Nat.strongRecOn with
 |_ n b=>
  by_cases h:∃m,m<n/\p m;·obtain⟨m,hm,hp⟩:=h;exact b m hm hp
  ·exact⟨n,hn,λm hm=>To (λa=>h ⟨m,a,hm⟩)⟩
variable{S:Cs}
def aEq(h:Inv S){g:Int}(hl:S.live g=true)(b:(dh S.fr.used (S.chain g) 1).2.2=0):(gk (dh S.fr.used (S.chain g) 1).1 (S.chain g) 1).1=S.fr.used:=by
 have a:=qT h.wf hl;have hr:=uo h.wf hl (n:=1) ⟨bN,bN⟩;obtain⟨_,he,_⟩:=uk b;rw[he];show(gk (dF S.fr.used (dp S.tree g) 1) (dp S.tree g) 1).1=_;rw[r9 hr (λx hx=>?_)];·exact HG h.fr.used.len a.1 a.2.1 1
 ·rw[pn h.fr.used.len a.1 a.2.1,bL hx];have:=(h.fr.used.of x).1.1;unfold cW;omega
end Go.Kc
namespace Go.Mp
open Go Go.Vc Go.Sp Go.Proofs Go.Kc
variable{E:Env}{L:cv}{w:bH}{A:At}{S:Cs}
def Ri(a:Inv S){t:Int}(h:Sep E (cg A S++L) w):Calls P sv #[Pb A.c,Iv t] w (cY E (.bool (S.c2 t).2) (cg A (S.c2 t).1++L)):=by
 apply WB;unfold K0 qF qJ qZ;refine⟨_,rfl,ld h 0 rfl rfl rfl (use (u7 a.wf (h.fr 1 rfl)) ?_)⟩;rintro _ c ⟨s,rfl,b,h1⟩;have h1:=h1.hS (q:=1) rfl;have h1:Sep E (cg A S++bw s 1 (bD (Kt.ia S.tree t))::L) c:=Sep.e4 (Q:=cg A S) h1;refine⟨s,rfl,use (Rh a (t:=t) (all:=true) (Ints.row b) (yF a.wf t) h1) ?_⟩;rintro _ w2 ⟨rfl,h2⟩;exact⟨_,rfl,rfl,h2.cut⟩
def nK(c:ch)(r:Sl)(K:bg1)(again:bg0)(w:bH):Prop:=
  NN c λa35=>∃h:ch,w.cell? ((a35.add 1).add 2)=some (.pointer h)/\Calls P uS #[(.pointer h),(Sv r),(.int
   .i64 1)] w λs d=>∃i:Int,∃j:Int,s=.returned (.tuple #[(Iv i),(Iv j)])/\∃b:Int->bg0,(bif(j==0)then(NN
   c λp=>∃k:ch,d.cell? ((p.add 1).add 0)=some (.pointer k)/\Calls P sA #[(.pointer k)] d λt e=>∃l:Int,∃
   m:Int,t=.returned (.tuple #[(Iv l),(Iv m)])/\bif(m==0)then(K (.tuple #[(Iv l),(Iv (-1)),(Iv 0)]) e)else
   (NN c λq=>∃n:ch,e.cell? ((q.add 1).add 2)=some (.pointer n)/\Calls P sr #[(.pointer n),(Sv r),
   (Iv 1)] e λu x=>∃y:Int,u=.returned (Iv y)/\b 0 x))else(b i d))/\(∀z:Nat->bE,∀a:Int,∀f:
   bH,b a f->Calls P sv #[(.pointer c),(Iv a)] f λv g=>∃o:Bool,v=.returned (.bool o)/\bif o then
   (again g)else(K (.tuple #[(Iv (-1)),(Iv a),(Iv 12)]) g))
def Rj{g:Int}{m:Nat}{b:Sl}{K:bg1}{again:bg0}(j:Inv S)(hl:S.live g=true)(p:b.n=(S.chain g).length)(h:Sep E (cg A S++bw b 1 (bD (S.chain g))::L) w)(hK:∀w',Sep E (cg A (take g (m+1) S).1++bw b 1 (bD (S.chain g))::L) w'->K (.tuple #[Iv (take g (m+1) S).2.1,Iv (take g (m+1) S).2.2.1,Iv (take g (m+1) S).2.2.2]) w')(u:∀S' w',Kc.Inv S'->S'.tree=S.tree->S'.bX.length<S.bX.length->take g (m+1) S=take g m S'->Sep E (cg A S'++bw b 1 (bD (S.chain g))::L) w'->again w'):
  nK (some ⟨A.c,0,none⟩) b K again w:=by
 have y:(S.chain g).length<=64:=pG j.wf _;have o:Ints E (bw b 1 (bD (S.chain g))::L) b (S.chain g):=Ints.row p;refine⟨_,rfl,ld h 0 rfl rfl rfl (use (Qo (o.er (A:=A) (S:=S) (q:=4) bN) bu 1 (h.fr 4 rfl)) ?_)⟩;rintro _ s ⟨rfl,h1⟩;have h1:=h1.put (q:=4) rfl;have i:∀(a:Int),take g (m+1) S=(if(S.c2 a).2 then take g m (S.c2 a).1 else((S.c2 a).1, -1,a,12))->∀w',Sep E (cg A S++bw b 1 (bD (S.chain g))::L) w'->
   Calls P sv #[Pb A.c,Iv a] w' λe d=>∃x:Bool,e=.returned (.bool x)/\bif x then again d else K (.tuple #[Iv (-1),Iv a,Iv 12]) d:=by
  intro a he w' h';refine use (Ri j (t:=a) h') ?_;rintro _ d ⟨rfl,k⟩;refine⟨_,rfl,cw (λhr=>?_) (λhr=>?_)⟩
  ·rw[bL hr]at he;have ho:eD S (S.c2 a).1:=eD.cO j a _ _;have hk:=ho.kept j;exact u _ _ (j.c2 a) hk.tree (HD j hr) he k
  ·rw[bJ (by rw[hr];decide)]at he;rw[he]at hK;exact hK _ k
 refine⟨_,_,rfl,λa w'=>take g (m+1) S=(if(S.c2 a).2 then take g m (S.c2 a).1 else((S.c2 a).1, -1,a,12))/\Sep E (cg A S++bw b 1 (bD (S.chain g))::L) w',eX (λe0=>?_) (λe0=>?_),λ_ a w' ⟨he,h'⟩=>i a he w' h'⟩
 ·have h1:Sep E (cg A {S with fr:={S.fr with used:=(dh S.fr.used (S.chain g) 1).1}} ++bw b 1 (bD (S.chain g))::L) s:=h1;refine⟨_,rfl,ld h1 0 rfl rfl rfl (use (QP (q:=14) rfl (h1.fr 2 rfl)) ?_)⟩;rintro _ w2 ⟨rfl,h2⟩;have h2:=h2.put (q:=2) rfl;refine⟨_,_,rfl,eX (λf=>?_) (λf=>?_)⟩
  ·have l:take g (m+1) S=({S with fr:={S.fr with bS:=(fW S.fr.bS).1,used:=(dh S.fr.used (S.chain g) 1).1}},(fW S.fr.bS).2.1, -1,0):=by
    unfold take;dsimp only;rw[bL e0,bL f]
   rw[l]at hK;refine hK _ ?_;have c:Sep E ((cg A {S with fr:={S.fr with used:=(dh S.fr.used (S.chain g) 1).1}} ++bw b 1 (bD (S.chain g))::L).set 2 (ga A.fp (fW S.fr.bS).1)) w2:=h2;unfold cg;simp only;rw[AM];exact c
  ·have r:=(AY f).2;have h2:Sep E (cg A {S with fr:={S.fr with bS:=(fW S.fr.bS).1,used:=(dh S.fr.used (S.chain g) 1).1}} ++bw b 1 (bD (S.chain g))::L) w2:=by
    have c:Sep E ((cg A {S with fr:={S.fr with used:=(dh S.fr.used (S.chain g) 1).1}} ++bw b 1 (bD (S.chain g))::L).set 2 (ga A.fp (fW S.fr.bS).1)) w2:=h2;unfold cg;simp only;rw[AM];exact c
   rw[r]at h2;refine⟨_,rfl,ld h2 0 rfl rfl rfl (use (yq (o.er (A:=A) (q:=4) bN) bu 1 (h2.fr 4 rfl)) ?_)⟩;rintro _ v ⟨rfl,c⟩;have c:=c.put (q:=4) rfl;have hb:=aEq j hl e0;have c:Sep E (cg A {S with fr:={S.fr with used:=(gk (dh S.fr.used (S.chain g) 1).1 (S.chain g) 1).1}} ++bw b 1 (bD (S.chain g))::L) v:=c;rw[hb]at c;refine⟨_,rfl,?_,c⟩
   conv=>lhs;unfold take
   dsimp only;rw[bL e0,bJ f,hb]
 ·obtain⟨x,hx,he,_⟩:=um (uo j.wf hl (n:=1) ⟨bN,bN⟩) e0;have h1:Sep E (cg A {S with fr:={S.fr with used:=(dh S.fr.used (S.chain g) 1).1}} ++bw b 1 (bD (S.chain g))::L) s:=h1;have he:dh S.fr.used (S.chain g) 1=(S.fr.used,x,22):=he;have l:take g (m+1) S=(if(S.c2 (dh S.fr.used (S.chain g) 1).2.1).2 then take g m (S.c2 (dh S.fr.used (S.chain g) 1).2.1).1 else((S.c2 (dh S.fr.used (S.chain g) 1).2.1).1, -1,(dh S.fr.used (S.chain g) 1).2.1,12)):=by
   conv=>lhs;unfold take
   dsimp only;rw[bJ e0]
  refine⟨l,?_⟩;rw[he]at h1;exact h1
def Rk{g:Int}(D:Inv S)(hl:S.live g=true)(h:Sep E (cg A S++L) w):Calls P CB #[Pb A.c,Iv g] w
    (cY E (.tuple #[Iv (S.take g).2.1,Iv (S.take g).2.2.1,Iv (S.take g).2.2.2]) (cg A (S.take g).1++L)):=by
  apply X6;generalize hK:(λ(v:bE) (w':bH)=>v=.tuple #[Iv (S.take g).2.1,Iv (S.take g).2.2.1,Iv (S.take g).2.2.2]/\Sep E (cg A (S.take g).1++L) w')=K;unfold Mk q9 qF qJ qQ qZ qj;let c:Sl->bH->Nat->Prop:=λa w' n=>∃T m,T.bX.length=n/\Kc.Inv T/\T.tree=S.tree/\n<=m/\S.take g=take g (m+1) T/\a.n=(S.chain g).length/\Sep E (cg A T++bw a 1 (bD (S.chain g))::L) w';have x:∃M2:Sl->bH->Nat,∀a w',(∃n,c a w' n)->c a w' (M2 a w')/\∀k,c a w' k->M2 a w'<=k:=by
    refine⟨λa w'=>Classical.epsilon λn=>c a w' n/\∀k,c a w' k->n<=k,λa w' hx=>?_⟩;exact Classical.epsilon_spec (aJ8 hx)
  obtain⟨M2,f⟩:=x;refine⟨λa w'=>∃n,c a w' n,M2,⟨_,rfl,ld h 0 rfl rfl rfl (use (sW D.wf (h.fr 1 rfl)) ?_)⟩,?_⟩
  · rintro _ u ⟨a,rfl,b,h1⟩
    have h1:=h1.hS (q:=1) rfl;have h1:Sep E (cg A S++bw a 1 (bD (S.chain g))::L) u:=Sep.e4 (Q:=cg A S) h1;have key:nK (some ⟨A.c,0,none⟩) a K (λw'=>∃n,c a w' n) u:=by
      refine Rj (m:=S.bX.length) D hl b h1 (λw' h'=>by rw[<- hK];exact⟨rfl,h'.cut⟩) (λT w' j e z he h'=>?_);cases hm:S.bX.length with
      |zero=>omega
      |succ m=>exact⟨T.bX.length,T,m,rfl,j,e,bu,by rw[hm]at he;exact(show S.take g=take g (S.bX.length+1) S from rfl).trans (by rw[hm];exact he),b,h'⟩
    exact⟨a,rfl,key⟩
  · intro _ a l y
    obtain⟨⟨T,m,hn,j,e,F,he,b,o⟩,B⟩:=f a l y;have s:T.live g=true:=by unfold Cs.live;rw[e];exact hl
    have r:T.chain g=S.chain g:=by unfold Cs.chain;rw[e]
    rw[<- r]at o b;have key:nK (some ⟨A.c,0,none⟩) a K (λw'=>(∃n,c a w' n)/\M2 a w'<M2 a l) l:=by
     refine Rj (m:=m) j s b o (λw' h'=>?_) (λT' w' p t z i h'=>?_);· rw[<- hK,he];exact⟨rfl,h'.cut⟩
     · rw[r]at h' b
       cases hm:m with
       |zero=>omega
       |succ C=>
         rw[hm]at i;have d:c a w' T'.bX.length:=⟨T',C,rfl,p,t.trans e,bu,by rw[he,hm,i],b,h'⟩
         have:=(f a w' ⟨_,d⟩).2 _ d;exact⟨⟨_,d⟩,bu⟩
    exact key
end Go.Mp
namespace Go.Kc
open Go Go.Kt
variable{S:Cs}
def Rl(h:Inv S){g:Int}(hl:S.live g=true):hA (S.take g).1.bt/\Good (S.take g).1.bX/\(S.take g).1.tree=S.tree:=by
 rcases Cs.fP h hl with⟨S0,a,k⟩|⟨S0,t,k⟩
 ·have b:=k.outs.inv h;have hk:=k.outs.kept h;rw[k.eq];exact⟨b.cI,b.eu,hk.tree⟩
 ·have b:=k.outs.inv h;have hk:=k.outs.kept h;rw[k.eq];exact⟨b.cI,b.eu,hk.tree⟩
def hA.fresh{T:TS}(h:hA T):T.pg T.next=none:=by
 cases hp:T.pg T.next with
 |none=>rfl
 |some p=>have:=(h.ids _ _ hp).2;omega
end Go.Kc
namespace Go.Mp
open Go Go.Vc Go.Sp Go.Proofs Go.Kc
variable{E:Env}{L:cv}{w:bH}{A:At}{S:Cs}
def Rm{g:Int}(d:Kc.Inv S)(hl:S.live g=true)(t:bA UInt8)(h:Sep E (cg A S++L) w):Calls P Cm #[Pb A.c,Iv g,hE t] w
  (cY E (.tuple #[Iv (S.c3 g t).2.1,Iv (S.c3 g t).2.2.1,Iv (S.c3 g t).2.2.2]) (cg A (S.c3 g t).1++L)):=by
 apply XA;unfold LO qE qZ qj zX;refine use (Rk d hl h) ?_;rintro _ f ⟨rfl,h1⟩;obtain⟨c,b,_⟩:=Rl d hl;refine⟨_,_,_,rfl,iz (λhf=>?_) (λhe=>?_)⟩
 ·have e:S.c3 g t=((S.take g).1, -1,(S.take g).2.2.1,(S.take g).2.2.2):=by unfold Cs.c3;dsimp only;rw[bL hf]
  rw[e];exact⟨rfl,h1⟩
 ·have e:S.c3 g t=(({(S.take g).1 with bt:=((S.take g).1.bt.make (-1) 0 g).1} :Cs).place ((S.take g).1.bt.make (-1) 0 g).2.1 (S.take g).2.1 g t false,((S.take g).1.bt.make (-1) 0 g).2.1, -1,0):=by
   unfold Cs.c3;dsimp only;rw[cF]
  rw[e];refine⟨_,rfl,ld h1 0 rfl rfl rfl (use (Tp.yr (-1) 0 g c.fresh (h1.fr 11 rfl)) ?_)⟩;rintro _ w2 ⟨rfl,h2⟩;have h2:=h2.put (q:=11) rfl;have h2:Sep E (cg A {(S.take g).1 with bt:=((S.take g).1.bt.make (-1) 0 g).1} ++L) w2:=h2;refine⟨_,_,rfl,use (QU _ _ g t false (by exact b) h2) ?_⟩;rintro _ i ⟨rfl,a⟩;exact⟨rfl,rfl,a⟩
def aFS:hi P sm=some (1,1,[.int .u8 0]):=by kernel_rfl
def aJF{id g:Int}(r:Kc.Inv S)(h:Sep E (cg A S++L) w):Calls P IU #[Pb A.c,Iv id,Iv g] w
  (cY E (.tuple #[Iv (S.copy id g).2.1,Iv (S.copy id g).2.2.1,Iv (S.copy id g).2.2.2]) (cg A (S.copy id g).1++L)):=by
 apply WJ;unfold K8 qF qL qU qV qX qY qZ qg zJ zX;refine⟨_,rfl,ld h 0 rfl rfl rfl (use (Tp.oS id (h.fr 11 rfl)) ?_)⟩;rintro _ n ⟨rfl,h1⟩;have h1:Sep E (cg A S++L) n:=h1.put (q:=11) rfl;obtain⟨p,hp⟩:∃p,S.bt.get id=p:=⟨_,rfl⟩
 rw[hp];refine⟨_,_,_,_,_,_,_,_,_,_,rfl,Al.i h1 (λb w2 h2=>ew (vs:=p.1.vs) _ h2 rfl (λo c=>?_))⟩;have c:Sep E (cg A S++bC b p.1.vs::L) o:=Sep.e4 c;have d:(p.2≠0\/S.live g=false\/p.1.place=0)->S.copy id g=(S, -1, -1,2):=by
  intro m;unfold Cs.copy;rw[hp];dsimp only;rw[bL m]
 refine⟨λw'=>p.2=0/\S.live g=true/\p.1.place≠0/\Sep E (cg A S++bC b p.1.vs::L) w',iz (λhf=>?_) (λhe=>?_),?_⟩;·rw[d (.inl hf)];exact⟨rfl,c.cut⟩
 ·refine⟨_,rfl,ld c 0 rfl rfl rfl (use (kB c (q:=1) rfl) ?_)⟩;rintro _ _ ⟨rfl,rfl⟩;refine⟨_,rfl,cw (λf=>?_) (λa=>?_)⟩
  ·have f:Kt.dt S.tree g=false:=by simpa using f
   rw[d (.inr (.inl f))];exact⟨rfl,c.cut⟩
  ·have a:Kt.dt S.tree g=true:=by simpa using a
   refine ld c 16 rfl rfl rfl (eX (λe0=>?_) (λe0=>⟨bu,a,e0,c⟩));rw[d (.inr (.inr e0))];exact⟨rfl,c.cut⟩
 ·rintro _ s ⟨he,a,j,i⟩
  iterate 9 refine ld i 16 rfl rfl rfl ?_
  refine use (yx p.1 i) ?_;rintro _ t ⟨rfl,k⟩;have e:S.copy id g=S.c3 g (S.text p.1):=by
   unfold Cs.copy;rw[hp];dsimp only;rw[bJ (by rw[a];simp[he,j])]
  rw[e];refine⟨_,rfl,use (Rm r a _ k) ?_⟩;rintro _ u ⟨rfl,l⟩;exact⟨_,_,_,rfl,rfl,l.cut⟩
def Rn{m:Nat}{f:Int->bW Int}{id:Int}{q:Nat}(h:Sep E L w)(a:L[q]?=some (nJ m f)):gr P Bh (.map (some m)) (Iv id) false w (.int .u64 ((f id).getD 0)):=by
 obtain⟨hk,h1⟩:=Sep.cG.1 (h.fr q a);have:=gr.i false 0 h1 rfl Tp.mA QS id;simp only at this;cases hf:f id with
 |none=>rw[hf]at this;exact this
 |some x=>rw[hf]at this;exact this
def aI3{m:Nat}{f:Int->bW Int}{q:Nat}(h:Sep E L w)(a:L[q]?=some (nJ m f))(id:Int):0<=(f id).getD 0/\(f id).getD 0<18446744073709551616:=by
 obtain⟨hk,_⟩:=Sep.cG.1 (h.fr q a);cases hf:f id with
 |none=>exact⟨by simp,by simp⟩
 |some x=>exact hk id x hf
def aHb{T:TS}{id:Int}(h:(T.get id).2=0):T.pg id=some (T.get id).1:=by
 unfold TS.get at h ⊢;cases hp:T.pg id with
 |none=>rw[hp]at h;exact absurd h (by simp)
 |some p=>rfl
def Ro{id g:Int}(G:Kc.Inv S)(h:Sep E (cg A S++L) w):Calls P Cj #[Pb A.c,Iv id,Iv g] w
  (cY E (.tuple #[Iv (S.cd id g).2.1,Iv (S.cd id g).2.2]) (cg A (S.cd id g).1++L)):=by
 apply Xv;unfold LI q9 qE qF qG qJ qL qM qP qQ qU qV qX qY qZ qg qh zH zJ zS zX;refine⟨_,rfl,ld h 0 rfl rfl rfl (use (Tp.oS id (h.fr 11 rfl)) ?_)⟩;rintro _ af ⟨rfl,h1⟩;have h1:Sep E (cg A S++L) af:=h1.put (q:=11) rfl;obtain⟨p,hp⟩:∃p,S.bt.get id=p:=⟨_,rfl⟩
 have u:p.2=0->S.bt.pg id=some p.1:=λI=>by rw[<- hp]at I ⊢;exact aHb I
 rw[hp];refine⟨_,_,_,_,_,_,_,_,_,_,rfl,Al.i h1 (λb w2 h2=>ew (vs:=p.1.vs) _ h2 rfl (λag f=>?_))⟩;have f:Sep E (cg A S++bC b p.1.vs::L) ag:=Sep.e4 f;let bad:Prop:=p.2≠0\/S.live g=false\/(p.1.place=0/\p.1.kf<0);refine ld f 16 rfl rfl rfl ⟨λo w'=>o=(if p.1.place=0 then g else p.1.owner)/\¬ bad/\p.1.place≠1/\Sep E (cg A S++bC b p.1.vs::L) w',
  ⟨λx w'=>(x=true↔bad)/\Sep E (cg A S++bC b p.1.vs::L) w',iz (λhf=>⟨⟨λ_=>.inl hf,λ_=>rfl⟩,f⟩) (λhe=>?_),?_⟩,?_⟩
 ·refine⟨_,rfl,ld f 0 rfl rfl rfl (use (kB f (q:=1) rfl) ?_)⟩;rintro _ _ ⟨rfl,rfl⟩;refine⟨_,rfl,cw (λa=>?_) (λr=>?_)⟩
  ·have a:Kt.dt S.tree g=false:=by simpa using a
   exact⟨⟨λ_=>.inr (.inl a),λ_=>rfl⟩,f⟩
  ·have r:Kt.dt S.tree g=true:=by simpa using r
   have s:¬ S.live g=false:=by rw[show S.live g=true from r];decide
   refine ld f 16 rfl rfl rfl (eX (λe0=>ld f 16 rfl rfl rfl ⟨⟨λa=>.inr (.inr ⟨e0,by simpa using a⟩),λa=>?_⟩,f⟩) (λe0=>⟨⟨λa=>(by cases a),λa=>?_⟩,f⟩))
   ·rcases a with a|a|a;·exact absurd he a
    ·exact absurd a s
    ·simpa using a.2
   ·rcases a with a|a|a;·exact absurd he a
    ·exact absurd a s
    ·exact absurd a.1 e0
 ·rintro _ x ah ⟨hx,j⟩;refine cw (λU=>?_) (λR=>?_)
  ·have hb:=hx.1 U;have e:S.cd id g=(S, -1,2):=by unfold Cs.cd;rw[hp];dsimp only;rw[bL hb]
   rw[e];exact⟨rfl,j.cut⟩
  ·have hb:¬ bad:=λD=>by have:=hx.2 D;rw[R]at this;cases this
   refine ld j 16 rfl rfl rfl (eX (λZ=>?_) (λt=>ld j 16 rfl rfl rfl (eX (λe0=>⟨(bL e0).symm,hb,t,j⟩) (λad=>⟨(bJ ad).symm,hb,t,j⟩))));refine⟨_,rfl,ld j 0 rfl rfl rfl (use (Gp.Eg G.eu id (j.fr 9 rfl)) ?_)⟩;rintro _ W ⟨rfl,i⟩;have i:=i.put (q:=9) rfl;have i:Sep E (cg A {S with bX:=(kp S.bX id).1} ++bC b p.1.vs::L) W:=i;have e:S.cd id g=({S with bX:=(kp S.bX id).1}, -1,0):=by unfold Cs.cd;rw[hp];dsimp only;rw[bJ hb,bL Z]
   rw[e];exact⟨_,rfl,rfl,i.cut⟩
 rintro _ o ah ⟨ho,hb,t,j⟩;have y:S.live o=true:=by
  rw[ho];split
  ·cases hl:S.live g with
   |true=>rfl
   |false=>exact absurd (.inr (.inl hl)) hb
  ·have:p.2=0:=rE λD=>hb (.inl D);exact G.own id p.1 (u this)
 refine use (Rk G y j) ?_;rintro _ W ⟨rfl,i⟩;obtain⟨F,K,z⟩:=Rl G y;obtain⟨T,C⟩:∃T,S.take o=T:=⟨_,rfl⟩
 rw[C]at i F K z ⊢;have M:Kt.WF T.1.tree:=by rw[z];exact G.wf
 refine⟨_,_,_,rfl,iz (λhf=>?_) (λhe=>?_)⟩
 ·have e:S.cd id g=(T.1,T.2.2.1,T.2.2.2):=by unfold Cs.cd;rw[hp];dsimp only;rw[bJ hb,bJ t,<- ho,C,bL hf]
  rw[e];exact⟨rfl,i.cut⟩
 iterate 9 refine ld i 16 rfl rfl rfl ?_
 refine use (yx p.1 i) ?_;rintro _ am ⟨rfl,B⟩;obtain⟨d,m⟩:∃d,d=if p.1.place=2 then {T.1 with sl:=T.1.sl.dv p.1.at_ (T.1.chain o)} else T.1:=⟨_,rfl⟩
 have O:d.bX=T.1.bX:=by rw[m];split<;>rfl
 refine⟨_,rfl,λw'=>Sep E (cg A d++bC b p.1.vs::L) w',ld B 16 rfl rfl rfl (eX (λaa=>?_) (λae=>by rw[m,bJ ae];exact B)),?_⟩
 ·refine Dr.i B (λai k=>⟨_,rfl,ld k 0 rfl rfl rfl (ld k 0 rfl rfl rfl (ld k 0 rfl rfl rfl (ld k 16 rfl rfl rfl ⟨_,rfl,ld k 0 rfl rfl rfl (use (sW M (k.fr 1 rfl)) ?_)⟩)))⟩);rintro _ Y ⟨H,rfl,N,c⟩;have c:=c.hS (q:=1) rfl;have c:Sep E (cg A T.1++bw H 1 (bD (T.1.chain o))::bC b p.1.vs::L) Y:=Sep.e4 (Q:=cg A T.1) c;refine⟨H,rfl,ld c 17 rfl rfl rfl ⟨rfl,ld c 0 rfl rfl rfl (ld c 0 rfl rfl rfl (ld c 0 rfl rfl rfl ⟨rfl,use (QR p.1.at_ (Ints.row N) (pG M _) c) ?_⟩))⟩⟩;rintro _ aj ⟨rfl,l⟩;rw[m,bL aa];exact⟨rfl,l.cut⟩
 intro _ ai k;have e:S.cd id g=(d.place id T.2.1 o (T.1.text p.1) (!(mh d.log ((d.kept id).getD 0) (d.memory o))), -1,0):=by
  rw[m];unfold Cs.cd;rw[hp];dsimp only;rw[bJ hb,bJ t,<- ho,C,cF]
 rw[e];refine Dr.i k (λY c=>⟨_,rfl,ld c 0 rfl rfl rfl ⟨_,rfl,ld c 0 rfl rfl rfl ⟨_,Rn c (q:=12) rfl,use (Eh o c) ?_⟩⟩⟩);rintro _ aj ⟨rfl,l⟩;obtain⟨k0,al⟩:=aI3 l (q:=12) rfl id;obtain⟨X,ab⟩:∃X:Nat,(d.kept id).getD 0=X:=⟨((d.kept id).getD 0).toNat,bu⟩
 refine⟨_,rfl,_,Rn l (q:=12) rfl,rfl,ld l 0 rfl rfl rfl ⟨rfl,ld l 0 rfl rfl rfl ⟨rfl,?_⟩⟩⟩;rw[ab];refine use (aJE (l.fr 10 rfl) bu o _) ?_;rintro _ V ⟨rfl,n⟩;have n:Sep E (cg A d++bC b p.1.vs::L) V:=n.put (q:=10) rfl;refine⟨_,rfl,use (QU id T.2.1 o (T.1.text p.1) _ (by rw[O];exact K) n) ?_⟩;rintro _ ak ⟨rfl,J⟩;exact⟨rfl,rfl,J.cut⟩
end Go.Mp
namespace Go.Kc
open Go Go.Kt
variable{S:Cs}
def aHl(h:Inv S)(hn:S.bt.next<16777216){k:Int×Int}{g:Int}(hl:S.live g=true)(hf:ej S.files k=true)(hm:S.bt.of k<0):Inv {S with bt:=(S.bt.make k.1 k.2 g).1} :=by
 obtain⟨kf,ki⟩:=k;have d:=uw hf;have f:=pv S.bt (kf:=kf) (ki:=ki) (o:=g) ⟨h.cI.next,hn⟩ (.inr hm);have i:=h.toInv0.make hn (kf:=kf) (ki:=ki) hl (.inr ⟨hm,hf⟩);have e:gJ S.bt kf ki=(kf,ki):=by unfold gJ;rw[bJ (by have:0<=kf:=d;omega)]
 have b:∀x p,(S.bt.make kf ki g).1.pg x=some p->p.kf<0->p.place≠0:=by
  intro x q c a;rw[f.2.2]at c;split at c
  ·rw[<- cU c,e]at a;have:kf<0:=a;have:0<=kf:=d;omega
  ·exact h.anon _ _ c a
 exact⟨i,b⟩
def Rp{F:FS}{k:Int×Int}:(rZ F k).2≠0↔ej F k=false:=by
 unfold rZ;by_cases h:ej F k=false;·rw[bL h];simp[h]
 ·rw[bJ h];split<;>simp[h]
end Go.Kc
namespace Go.Mp
open Go Go.Vc Go.Sp Go.Proofs Go.Kc
variable{E:Env}{L:cv}{w:bH}{A:At}{S:Cs}
def aJJ{k:Int×Int}{g:Int}(u:Kc.Inv S)(hn:S.bt.next<16777216)(h:Sep E (cg A S++L) w):Calls P IP #[Pb A.c,.agg #[Iv k.1,Iv k.2],Iv g] w
  (cY E (.tuple #[Iv (S.cN k g).2.1,Iv (S.cN k g).2.2.1,Iv (S.cN k g).2.2.2]) (cg A (S.cN k g).1++L)):=by
 apply WE;unfold K4 q9 qF qQ qZ qg qj zQ zZ;refine Al.i h (λb B h1=>?_);have h1:Sep E (cg A S++bC b [Iv k.1,Iv k.2]::L) B:=Sep.e4 h1;have p:(ej S.files k=false\/S.live g=false)->S.cN k g=(S, -1, -1,2):=by
  intro y;unfold Cs.cN;rw[bL y]
 refine⟨λw'=>ej S.files k=true/\S.live g=true/\Sep E (cg A S++bC b [Iv k.1,Iv k.2]::L) w',Dr.i h1 (λw2 h2=>⟨_,rfl,ld h2 0 rfl rfl rfl (ld h2 16 rfl rfl rfl (ld h2 16 rfl rfl rfl (use (OS k (h2.fr 8 rfl)) ?_)))⟩),?_⟩
 ·rintro _ t ⟨rfl,c⟩;have c:=c.put (q:=8) rfl;have c:Sep E (cg A S++bC b [Iv k.1,Iv k.2]::L) t:=c;refine⟨_,_,rfl,iz (λhf=>?_) (λhe=>?_)⟩;·rw[p (.inl (Rp.1 hf))];exact⟨rfl,c.cut⟩
  ·have j:ej S.files k=true:=by
    cases z:ej S.files k with
    |true=>rfl
    |false=>exact absurd he (Rp.2 z)
   refine⟨_,rfl,ld c 0 rfl rfl rfl (use (kB c (q:=1) rfl) ?_)⟩;rintro _ _ ⟨rfl,rfl⟩;refine⟨_,rfl,cw (λr=>?_) (λd=>?_)⟩
   ·have r:Kt.dt S.tree g=false:=by simpa using r
    rw[p (.inr r)];exact⟨rfl,c.cut⟩
   ·have d:Kt.dt S.tree g=true:=by simpa using d
    exact⟨j,d,c⟩
 rintro _ w2 ⟨j,d,h2⟩;refine Dr.i h2 (λt c=>⟨_,rfl,ld c 0 rfl rfl rfl (ld c 16 rfl rfl rfl (ld c 16 rfl rfl rfl (use (Tp.vp k (c.fr 11 rfl)) ?_)))⟩);rintro _ C ⟨rfl,l⟩;have l:=l.put (q:=11) rfl;have l:Sep E (cg A S++bC b [Iv k.1,Iv k.2]::L) C:=l;obtain⟨a,i⟩:∃a,a=if S.bt.of k<0 then {S with bt:=(S.bt.make k.1 k.2 g).1} else S:=⟨_,rfl⟩
 obtain⟨i1,o⟩:∃i1,i1=if S.bt.of k<0 then(S.bt.make k.1 k.2 g).2.1 else S.bt.of k:=⟨_,rfl⟩
 have x:Kc.Inv a:=by
  rw[i];split;·next hm=>exact aHl u hn d j hm
  ·exact u
 have e:S.cN k g=if(a.cd i1 g).2.2=0 then((a.cd i1 g).1,i1, -1,0)else if S.bt.of k<0 then({(a.cd i1 g).1 with bt:=((a.cd i1 g).1.bt.drop i1).1}, -1,(a.cd i1 g).2.1,(a.cd i1 g).2.2)else((a.cd i1 g).1, -1,(a.cd i1 g).2.1,(a.cd i1 g).2.2):=by
  rw[i,o];unfold Cs.cN;rw[bJ (by rw[j,d];simp)];by_cases hm:S.bt.of k<0;·simp only[hm,decide_true,gQ]
  ·simp only[hm,decide_false,gP,l2]
 refine⟨_,rfl,λid w'=>id=i1/\Sep E (cg A a++bC b [Iv k.1,Iv k.2]::L) w',cX (λhm=>?_) (λhm=>⟨by rw[o,cF],by rw[i,cF];exact l⟩),?_⟩
 ·refine Dr.i l (λD m=>⟨_,rfl,ld m 0 rfl rfl rfl (ld m 16 rfl rfl rfl (ld m 16 rfl rfl rfl (use (Tp.yr k.1 k.2 g u.cI.fresh (m.fr 11 rfl)) ?_)))⟩);rintro _ F ⟨rfl,f⟩;have f:=f.put (q:=11) rfl;exact⟨_,_,rfl,by rw[o,bL hm],by rw[i,bL hm];exact f⟩
 rintro _ id D ⟨rfl,m⟩;refine use (Ro x m) ?_;rintro _ F ⟨rfl,f⟩;rw[e];refine⟨_,_,rfl,eX (λe0=>?_) (λs=>cX (λhm=>?_) (λhm=>?_))⟩;·rw[bL e0];exact⟨rfl,f.cut⟩
 ·rw[bJ s,bL hm];refine⟨_,rfl,ld f 0 rfl rfl rfl (use (Tp.vq id (f.fr 11 rfl)) ?_)⟩;rintro _ G ⟨rfl,n⟩;have n:=n.put (q:=11) rfl;have n:Sep E (cg A {(a.cd id g).1 with bt:=((a.cd id g).1.bt.drop id).1} ++bC b [Iv k.1,Iv k.2]::L) G:=n;exact⟨_,rfl,rfl,n.cut⟩
 ·rw[bJ s,cF];exact⟨rfl,f.cut⟩
def oS{id at_:Int}(d:Kc.Inv S)(h:Sep E (cg A S++L) w):Calls P It #[Pb A.c,Iv id,Iv at_] w
  (cY E (.tuple #[.int .u8 (S.get id at_).2.1,Iv (S.get id at_).2.2]) (cg A (S.get id at_).1++L)):=by
 apply V6;unfold KI qQ qZ qo qp;refine use (QT id h) ?_;rintro _ f ⟨rfl,h1⟩;refine⟨_,_,rfl,cw (λb=>?_) (λhl=>?_)⟩
 ·have b:(S.here id).2=false:=by simpa using b
  have e:S.get id at_=(S,0,2):=by unfold Cs.get;dsimp only;rw[bL b]
  rw[e];exact⟨rfl,h1⟩
 have hl:(S.here id).2=true:=by simpa using hl
 refine⟨_,rfl,ld h1 0 rfl rfl rfl (use (aBO (S.here id).1 at_ (h1.fr 3 rfl)) ?_)⟩;rintro _ _ ⟨rfl,rfl⟩;have e:S.get id at_=(if(By.gt S.fr.bS.length S.fr.dd (S.here id).1 at_).2=0 then {S with bX:=(kp S.bX id).1} else S,((By.gt S.fr.bS.length S.fr.dd (S.here id).1 at_).1.toNat:Int),(By.gt S.fr.bS.length S.fr.dd (S.here id).1 at_).2):=by
  unfold Cs.get;dsimp only;rw[bJ (by rw[hl];decide)]
 rw[e];refine⟨_,_,rfl,eX (λe0=>?_) (λc=>?_)⟩
 ·rw[bL e0];refine⟨_,rfl,ld h1 0 rfl rfl rfl (use (Gp.Eg d.eu id (h1.fr 9 rfl)) ?_)⟩;rintro _ g ⟨rfl,a⟩;have a:=a.put (q:=9) rfl;exact⟨_,rfl,rfl,a⟩
 ·rw[bJ c];exact⟨rfl,h1⟩
def te{id at_:Int}{x:UInt8}(j:Kc.Inv S)(h:Sep E (cg A S++L) w):Calls P Iy #[Pb A.c,Iv id,Iv at_,.int .u8 x.toNat] w
  (cY E (Iv (S.put id at_ x).2) (cg A (S.put id at_ x).1++L)):=by
 apply V7;unfold KJ qQ qZ qp;refine use (QT id h) ?_;rintro _ k ⟨rfl,h1⟩;refine⟨_,_,rfl,cw (λf=>?_) (λhl=>?_)⟩
 ·have f:(S.here id).2=false:=by simpa using f
  have e:S.put id at_ x=(S,2):=by unfold Cs.put;dsimp only;rw[bL f]
  rw[e];exact⟨rfl,h1⟩
 have hl:(S.here id).2=true:=by simpa using hl
 refine⟨_,rfl,ld h1 0 rfl rfl rfl (use (aBQ (S.here id).1 at_ x (h1.fr 3 rfl)) ?_)⟩;rintro _ w2 ⟨rfl,h2⟩;have h2:=h2.put (q:=3) rfl;obtain⟨r,hr⟩:∃r,By.pt S.fr.bS.length S.fr.dd (S.here id).1 at_ x=r:=⟨_,rfl⟩
 have e:S.put id at_ x=if r.2=0 then({S with fr:={S.fr with dd:=r.1},bX:=(kp S.bX id).1,bt:=(S.bt.mark id true).1},0)else(S,r.2):=by
  unfold Cs.put;dsimp only;rw[bJ (by rw[hl];decide),hr]
 rw[hr]at h2 ⊢;rw[e];have h2:Sep E (cg A {S with fr:={S.fr with dd:=r.1}} ++L) w2:=h2;refine⟨_,rfl,eX (λe0=>?_) (λb=>?_)⟩
 ·rw[bL e0];refine⟨_,rfl,ld h2 0 rfl rfl rfl (use (Gp.Eg j.eu id (h2.fr 9 rfl)) ?_)⟩;rintro _ i ⟨rfl,a⟩;have a:=a.put (q:=9) rfl;have a:Sep E (cg A {S with fr:={S.fr with dd:=r.1},bX:=(kp S.bX id).1} ++L) i:=a;refine⟨_,rfl,_,rfl,ld a 0 rfl rfl rfl (use (Tp.QE id true (a.fr 11 rfl)) ?_)⟩;rintro _ l ⟨rfl,d⟩;have d:=d.put (q:=11) rfl;exact⟨_,rfl,by rw[e0],d⟩
 ·rw[bJ b];have c:r.1=S.fr.dd:=by
   rw[<- hr]at b ⊢;unfold By.pt at b ⊢;split;·next g=>rw[bL g]at b;exact absurd rfl b
   ·rfl
  rw[c]at h2;exact⟨rfl,h2⟩
def yG{id n:Int}(X:Kc.Inv S)(h:Sep E (cg A S++L) w):Calls P uH #[Pb A.c,Iv id,Iv n] w
  (cY E (Iv (S.bO id n).2) (cg A (S.bO id n).1++L)):=by
 apply V8;unfold KK qE qJ qL qP qQ qU qV qX qY qZ qg qj;refine⟨_,rfl,ld h 0 rfl rfl rfl (use (Tp.aIv id n (h.fr 11 rfl)) ?_)⟩;rintro _ R ⟨rfl,h1⟩;have h1:=h1.put (q:=11) rfl;obtain⟨r,hr⟩:∃r,S.bt.bO id n=r:=⟨_,rfl⟩
 obtain⟨a,i⟩:∃a:Cs,a= {S with bt:=r.1} :=⟨_,rfl⟩
 rw[hr]at h1 ⊢;have h1:Sep E (cg A a++L) R:=by rw[i];exact h1
 have x:(r.2.2≠0\/0<r.2.1)->S.bO id n=(a,r.2.2):=by
  intro B;unfold Cs.bO;rw[hr,i];dsimp only;rw[bL B]
 refine⟨_,_,rfl,λw'=>¬ (r.2.2≠0\/0<r.2.1)/\Sep E (cg A a++L) w',iz (λhf=>?_) (λhe=>gn (λI=>?_) (λI=>⟨bu,h1⟩)),?_⟩;·rw[x (.inl hf)];exact⟨rfl,h1⟩
 ·rw[x (.inr I)];exact⟨rfl,h1⟩
 rintro _ w2 ⟨B,h2⟩;have F:Kt.WF a.tree:=by rw[i];exact X.wf
 have N:Kc.Good a.bX:=by rw[i];exact X.eu
 refine⟨_,rfl,ld h2 0 rfl rfl rfl (use (Tp.oS id (h2.fr 11 rfl)) ?_)⟩;rintro _ T ⟨rfl,o⟩;have o:Sep E (cg A a++L) T:=o.put (q:=11) rfl;obtain⟨p,hp⟩:∃p,(a.bt.get id).1=p:=⟨_,rfl⟩
 rw[hp];refine⟨_,_,_,_,_,_,_,_,_,_,rfl,Al.i o (λb Z D=>ew (vs:=p.vs) _ D rfl (λU s=>?_))⟩;have s:Sep E (cg A a++bC b p.vs::L) U:=Sep.e4 s;refine Dr.i s (λaa y=>⟨_,rfl,ld y 0 rfl rfl rfl (ld y 16 rfl rfl rfl (use (sW F (y.fr 1 rfl)) ?_))⟩);rintro _ V ⟨k,rfl,H,g⟩;have g:=g.hS (q:=1) rfl;have g:Sep E (cg A a++bw k 1 (bD (a.chain p.owner))::bC b p.vs::L) V:=Sep.e4 (Q:=cg A a) g;have z:Ints E (bw k 1 (bD (a.chain p.owner))::bC b p.vs::L) k (a.chain p.owner):=Ints.row H;have u:(a.chain p.owner).length<=64:=pG F _;obtain⟨f,j⟩:∃f:Cs,f=if p.place=1 then {a.clean id p with fr:=(a.clean id p).fr.dv p.at_ (a.chain p.owner),bX:=(jj (a.clean id p).bX id).1} else if p.place=2 then {a with sl:=a.sl.dv p.at_ (a.chain p.owner)} else a:=⟨_,rfl⟩
 have e:S.bO id n=({f with bt:=((f.bt.put id 0 0).1.drop id).1},((f.bt.put id 0 0).1.drop id).2):=by
  clear h1 h2 o D s g z;subst j hp i;unfold Cs.bO;rw[hr];dsimp only;rw[bJ B]
 refine⟨_,rfl,λw'=>Sep E (cg A f++bw k 1 (bD (a.chain p.owner))::bC b p.vs::L) w',ld g 17 rfl rfl rfl (eX (λK=>?_) (λJ=>eX (λM=>?_) (λO=>by rw[j,bJ J,bJ O];exact g))),?_⟩
 ·iterate 9 refine ld g 17 rfl rfl rfl ?_
  refine use (QO id p g) ?_;rintro _ W ⟨rfl,t⟩;have G:(a.clean id p).bX=a.bX:=by unfold Cs.clean;split<;>rfl
  refine⟨rfl,Dr.i t (λC c=>⟨_,rfl,ld c 0 rfl rfl rfl (ld c 0 rfl rfl rfl (ld c 0 rfl rfl rfl (ld c 17 rfl rfl rfl (use (QQ p.at_ z u c) ?_))))⟩)⟩;rintro _ m ⟨rfl,d⟩;refine⟨rfl,_,rfl,ld d 0 rfl rfl rfl (use (Gp.vq (by show Kc.Good (a.clean id p).bX;rw[G];exact N) id (d.fr 9 rfl)) ?_)⟩;rintro _ Y ⟨rfl,l⟩;have l:=l.put (q:=9) rfl;rw[j,bL K];exact⟨_,rfl,l⟩
 ·refine Dr.i g (λC c=>⟨_,rfl,ld c 0 rfl rfl rfl (ld c 0 rfl rfl rfl (ld c 0 rfl rfl rfl (ld c 17 rfl rfl rfl (use (QR p.at_ z u c) ?_))))⟩);rintro _ m ⟨rfl,d⟩;rw[j,bJ J,bL M];exact⟨rfl,d⟩
 intro _ W t;refine⟨_,rfl,ld t 0 rfl rfl rfl (use (Tp.te id 0 0 (t.fr 11 rfl)) ?_)⟩;rintro _ C ⟨rfl,c⟩;have c:=c.put (q:=11) rfl;have c:Sep E (cg A {f with bt:=(f.bt.put id 0 0).1} ++bw k 1 (bD (a.chain p.owner))::bC b p.vs::L) C:=c;refine⟨_,rfl,_,rfl,ld c 0 rfl rfl rfl (use (Tp.vq id (c.fr 11 rfl)) ?_)⟩;rintro _ m ⟨rfl,d⟩;have d:=d.put (q:=11) rfl;have d:Sep E (cg A {f with bt:=((f.bt.put id 0 0).1.drop id).1} ++bw k 1 (bD (a.chain p.owner))::bC b p.vs::L) m:=d;rw[e];exact⟨_,rfl,rfl,d.cut.cut⟩
def aGE(h:Sep E (cg A S++L) w):Calls P Iq #[Pb A.c] w (cY E (Iv (S.files.bY.length:Nat)) (cg A S++L)):=by
 apply V4;unfold KG qQ qZ;refine⟨_,rfl,ld h 0 rfl rfl rfl (use (aAg h (q:=8) rfl) ?_)⟩;rintro _ _ ⟨rfl,rfl⟩;exact⟨_,rfl,rfl,h⟩
def aDs(f:Int)(h:Sep E (cg A S++L) w):Calls P Ir #[Pb A.c,Iv f] w (cY E (Iv (np S.files f)) (cg A S++L)):=by
 apply V5;unfold KH qQ qZ;refine⟨_,rfl,ld h 0 rfl rfl rfl (use (OQ h (q:=8) rfl f) ?_)⟩;rintro _ _ ⟨rfl,rfl⟩;exact⟨_,rfl,rfl,h⟩
def Rq(id:Int)(h:Sep E (cg A S++L) w):Calls P Bl #[Pb A.c,Iv id] w (cY E (.tuple #[.agg (S.bt.get id).1.vs.toArray,Iv (S.bt.get id).2]) (cg A S++L)):=by
 apply Vz;unfold J7 qU qV qX qY qZ;refine Al.i h (λb c h1=>?_);have h1:=Sep.e4 (Q:=cg A S) h1;refine⟨_,rfl,ld h1 0 rfl rfl rfl (use (Tp.oS id (h1.fr 11 rfl)) ?_)⟩;rintro _ w2 ⟨rfl,h2⟩;have h2:=h2.put (q:=11) rfl;have h2:=Sep.mB (Q:=cg A S) (L:=L) h2;refine⟨_,_,_,_,_,_,_,_,_,_,rfl,ew (vs:=(S.bt.get id).1.vs) _ h2 rfl (λd a=>?_)⟩
 iterate 9 refine ld a 0 rfl rfl rfl ?_
 exact⟨rfl,a.tail⟩
def yH(h:Sep E (cg A S++L) w):Calls P uF #[Pb A.c] w (cY E (Pb A.t) (cg A S++L)):=by
 apply VA;unfold J8 qZ;exact⟨_,rfl,ld h 0 rfl rfl rfl ⟨rfl,h⟩⟩
def aIr{g:Int}(l:Kc.Inv S)(h:Sep E (cg A S++L) w):Calls P IV #[Pb A.c,Iv g] w
  (cY E (.tuple #[Iv (S.fresh g).2.1,Iv (S.fresh g).2.2.1,Iv (S.fresh g).2.2.2]) (cg A (S.fresh g).1++L)):=by
 apply WK;unfold K9 qF qZ zX;refine⟨_,rfl,ld h 0 rfl rfl rfl (use (kB h (q:=1) rfl) ?_)⟩;rintro _ _ ⟨rfl,rfl⟩;refine⟨_,rfl,cw (λd=>?_) (λa=>?_)⟩
 ·have d:Kt.dt S.tree g=false:=by simpa using d
  have e:S.fresh g=(S, -1, -1,2):=by unfold Cs.fresh;rw[bL (show S.live g=false from d)]
  rw[e];exact⟨rfl,h⟩
 ·have a:Kt.dt S.tree g=true:=by simpa using a
  have e:S.fresh g=S.c3 g By.zs:=by unfold Cs.fresh;rw[bJ (by rw[show S.live g=true from a];decide)]
  rw[e];refine makeSlice.i h aFS bN (g3 _) bN bN (λb k h1=>?_);have h1:Sep E (bC b (g9 By.zs)::(cg A S++L)) k:=h1;have f:=Qv By.zs h1 (q:=0) (o:=0) (n:=16) (c:=16) rfl rfl (λj i=>by
   rw[fy,ug,dL i];rfl)
  refine⟨_,f,use (Rm l a By.zs h1.tail) ?_⟩;rintro _ w2 ⟨rfl,h2⟩;exact⟨_,_,_,rfl,rfl,h2⟩
def Ez{R:bA dy}:∀(l:bR) (g:Int),gV R (l++[g])=((iw (gV R l).1 g jK).1,(gV R l).2+(iw (gV R l).1 g jK).2)
 |[],g=>by simp[gV]
 |x::l,g=>by
  rw[o4,gV,Ez l g,gV];simp only[o7,true_and];omega
def gB{R:bA dy}(G:Kc.Good R):R.length<=16777217:=by
 have h:=sK 16777217 (R.map dy.id) (by
  rw[ob,kc];exact G.cZ.imp (λa he=>bu)) (λx hx=>by
  obtain⟨e,he,rfl⟩:=fo.1 hx;have:=(G.ok e he).1;omega)
 simpa using h
def aJD{t:Int}(p:Kc.Inv S)(h:Sep E (cg A S++L) w):Calls P Io #[Pb A.c,Iv t] w
  (cY E (Iv (S.du t).2) (cg A (S.du t).1++L)):=by
 apply V2;unfold KE qD qI qJ qQ qW qZ;refine⟨_,rfl,ld h 0 rfl rfl rfl (use (u7 p.wf (h.fr 1 rfl)) ?_)⟩;rintro _ u ⟨s,rfl,m,h1⟩;have h1:=h1.hS (q:=1) rfl;obtain⟨gs,a⟩:∃gs,Kt.ia S.tree t=gs:=⟨_,rfl⟩
 have C:gs.length<=64:=by rw[<- a];exact yF p.wf t
 have e:S.du t=({S with bX:=(gV S.bX gs).1},(gV S.bX gs).2):=by unfold Cs.du;rw[a]
 rw[a]at m h1;rw[e];have h1:Sep E (cg A S++bw s 1 (bD gs)::L) u:=Sep.e4 (Q:=cg A S) h1;have i:∀k,0<=(gV S.bX (gs.take k)).2/\(k<=gs.length->(gV S.bX (gs.take k)).2<=k*16777217):=by
  intro k;induction k with
  |zero=>simp[gV]
  |succ k o=>
   by_cases hk:k<gs.length
   ·have hx:gs[k]?=some gs[k]:=dL hk;rw[fL hx,Ez];have f:=wW (gs.take k) p.eu;have h2:=gB f.1;have d:(iw (gV S.bX (gs.take k)).1 gs[k] jK).2<=((gV S.bX (gs.take k)).1.length:Nat):=by
     unfold iw;simp only;have:=l0 (nS gs[k] jK) (gV S.bX (gs.take k)).1;omega
    have F:0<=(iw (gV S.bX (gs.take k)).1 gs[k] jK).2:=by unfold iw;simp only;omega
    have G:=o.2 bu;refine⟨by simp only;omega,λ_=>by simp only;omega⟩
   ·have j:gs.take (k+1)=gs.take k:=by rw[iq bu,iq bu]
    rw[j];exact⟨o.1,λH=>bu⟩
 refine⟨s,rfl,λn x w'=>(∃k:Nat,x=k/\k<=gs.length/\n=(gV S.bX (gs.take k)).2/\Sep E (cg A {S with bX:=(gV S.bX (gs.take k)).1} ++bw s 1 (bD gs)::L) w'),λ_ x _=>(gs.length-x).toNat,⟨0,rfl,e7 _,rfl,h1⟩,?_⟩;rintro _ _ _ w2 ⟨k,rfl,hk,rfl,h2⟩;refine cX (λD=>?_) (λB=>?_)
 ·have b:k<gs.length:=by omega
  obtain⟨g,f⟩:∃g,gs[k]?=some g:=⟨_,dL b⟩
  have l:=wW (gs.take k) p.eu;have hlen:=gB l.1;refine(Ints.at_ (q:=16) rfl m).el h2 k rfl f ⟨_,rfl,ld h2 0 rfl rfl rfl (use (Gp.aKv l.1 g (by show(gV S.bX (gs.take k)).1.length<_;omega) (h2.fr 9 rfl)) ?_)⟩;rintro _ I ⟨rfl,d⟩;have d:=d.put (q:=9) rfl;have c:=Ez (R:=S.bX) (gs.take k) g;rw[<- fL f]at c;have y:=(i (k+1)).1;have z:=(i (k+1)).2 b;have r:(gV S.bX (gs.take (k+1))).2=(gV S.bX (gs.take k)).2+(iw (gV S.bX (gs.take k)).1 g jK).2:=by rw[c]
  have j:(gV S.bX (gs.take (k+1))).1=(iw (gV S.bX (gs.take k)).1 g jK).1:=by rw[c]
  refine⟨_,rfl,?_⟩;rw[de];have hw:i64.wrap ((gV S.bX (gs.take k)).2+(iw (gV S.bX (gs.take k)).1 g jK).2)=(gV S.bX (gs.take (k+1))).2:=by rw[cR bu bu,r]
  refine⟨⟨k+1,rfl,b,hw,by rw[j];exact d⟩,?_⟩;show(((gs.length:Nat):Int)-((k+1:Nat):Int)).toNat<(((gs.length:Nat):Int)-(k:Int)).toNat;omega
 ·have:k=gs.length:=by omega
  subst this;rw[gg]at h2 ⊢;exact⟨rfl,h2.cut⟩
def aGF{g what n:Int}(Q:Kc.Inv S)(h:Sep E (cg A S++L) w):Calls P Il #[Pb A.c,Iv g,Iv what,Iv n] w
  (cY E (Iv (S.cC g what n).2) (cg A (S.cC g what n).1++L)):=by
 apply VZ;unfold KD qF qK qQ qW qZ qg;have t:S.live g=false->S.cC g what n=(S,2):=by intro e;unfold Cs.cC;rw[bL e]
 have o:S.live g=true->gS n=false->S.cC g what n=(S,1):=by intro e hn;unfold Cs.cC;rw[bJ (by rw[e];decide),bL hn]
 have u:S.live g=true->gS n=true->S.cC g what n=(if what=0 then(S.ig g {S.mV g with min:=n},0)
   else if what=1 then(S.ig g {S.mV g with low:=n},0)
   else if what=2 then({S with fr:={S.fr with used:=(j4 S.fr.used g n).1}},(j4 S.fr.used g n).2)
   else if what=3 then({S with sl:={S.sl with used:=(j4 S.sl.used g n).1}},(j4 S.sl.used g n).2)
   else if what=4 then(if 1<n then(S,1)else(S.ig g {S.mV g with whole:=n==1},0))else(S,1)):=by
  intro e hn;unfold Cs.cC;rw[bJ (by rw[e];decide),bJ (by rw[hn];decide)]
 have M:=n1;refine⟨λw'=>S.live g=true/\gS n=true/\Sep E (cg A S++L) w',⟨_,rfl,ld h 0 rfl rfl rfl (use (kB h (q:=1) rfl) ?_)⟩,?_⟩
 ·rintro _ _ ⟨rfl,rfl⟩;refine⟨_,rfl,cw (λp=>?_) (λc=>?_)⟩
  ·have p:Kt.dt S.tree g=false:=by simpa using p
   rw[t p];exact⟨rfl,h⟩
  ·have c:Kt.dt S.tree g=true:=by simpa using c
   refine cX (λH=>?_) (λH=>gn (λI=>?_) (λI=>⟨c,?_,h⟩));·rw[o c (by unfold gS;rw[di (show ¬ 0<=n by omega)];rfl)];exact⟨rfl,h⟩
   ·rw[o c (by unfold gS;rw[di (show ¬ n<=top by omega),rL])];exact⟨rfl,h⟩
   ·unfold gS;rw[dE (show 0<=n by omega),dE (show n<=top by omega)];rfl
 rintro _ R ⟨c,hn,h1⟩;rw[u c hn];have O:=Ey (show Kt.dt S.tree g=true from c);obtain⟨k,rfl⟩:∃k:Nat,g=k:=⟨g.toNat,bu⟩
 have s:k<S.guards.length:=by rw[Q.gl];omega
 obtain⟨x,hx⟩:∃x,S.guards[k]?=some x:=⟨_,dL s⟩
 have J:S.mV (k:Int)=x:=by unfold Cs.mV;rw[dz,dT,hx];rfl
 rw[J];obtain⟨m,h2⟩:=iL.open (h1.fr 13 rfl);refine⟨_,rfl,A.gs,h1.cellAt 0 rfl 12,lR eE.mx 0 h2 rfl m rfl hx (λb hb _=>?_)⟩;have d:∀(y:eE) {w':bH},Sep E (bw A.gs 3 (bP eE.vs (S.guards.set k y))::(cg A S++L).eraseIdx 13) w'->Sep E (cg A (S.ig (k:Int) y)++L) w':=by
  intro y w' K;have z:Sep E (iL A.gs (S.guards.set k y)::(cg A S++L).eraseIdx 13) w':=Sep.cG.2 ⟨by simpa using m,K⟩;exact z.put (q:=13) rfl
 refine eX (λe0=>?_) (λf=>eX (λC=>?_) (λi=>eX (λD=>?_) (λr=>eX (λF=>?_) (λB=>eX (λG=>?_) (λN=>?_)))))
 ·rw[bL e0];refine⟨_,rfl,sM eE.mx (a':={x with min:=n}) (j:=0) h2 hb hx bN rfl (λw2 a=>⟨rfl,d _ a⟩)⟩
 ·rw[bJ f,bL C];refine⟨_,rfl,sM eE.mx (a':={x with low:=n}) (j:=1) h2 hb hx bN rfl (λw2 a=>⟨rfl,d _ a⟩)⟩
 ·rw[bJ f,bJ i,bL D];refine⟨_,rfl,ld h1 0 rfl rfl rfl (use (Qj (h1.fr 4 rfl) (k:Int) n) ?_)⟩;rintro _ w2 ⟨rfl,a⟩;have a:=a.put (q:=4) rfl;exact⟨_,rfl,rfl,a⟩
 ·rw[bJ f,bJ i,bJ r,bL F];refine⟨_,rfl,ld h1 0 rfl rfl rfl (use (Qj (h1.fr 7 rfl) (k:Int) n) ?_)⟩;rintro _ w2 ⟨rfl,a⟩;have a:=a.put (q:=7) rfl;exact⟨_,rfl,rfl,a⟩
 ·rw[bJ f,bJ i,bJ r,bJ B,bL G];refine gn (λl=>?_) (λl=>?_);·rw[bL l];exact⟨rfl,h1⟩
  ·rw[cF];refine⟨_,rfl,sM eE.mx (a':={x with whole:=n==1}) (j:=2) h2 hb hx bN rfl (λw2 a=>⟨rfl,d _ a⟩)⟩
 ·rw[bJ f,bJ i,bJ r,bJ B,bJ N];exact⟨rfl,h1⟩
def Rr:hi P sk=some (24,3,[Iv 0,Iv 0,.bool false]):=by kernel_rfl
def aDI{s:Sl}{q:Nat}{l:bA eE}{x:eE}(hn:s.n=l.length)(hb:l.length<1000000)(h:Sep E (bC q (eE.vs x)::bw s 3 (bP eE.vs l)::L) w){G:Sl->bg0}(g:∀s' a,Sep E (iL s' (l++[x])::L) a->G s' a):
  ∃d:Sl,∃a,Sem.run P (Builtin.append_ #[sk,sk] sk #[Sv s,.slice (some ⟨q,0,none⟩) 1 1]) w=.ok (Sv d) a/\G d a:=by
 have e:=Src.bC (n:=1) (c:=1) h (i:=0) rfl Rr rfl (λu hu=>by simp[eE.vs]at hu;rcases hu with rfl|rfl|rfl<;>rfl);refine bw.append h.swap Rr rfl e bu (by rw[hn];omega) (λs' a b h1=>?_);refine g s' a (Sep.cG.2 ⟨by rw[b,hn];simp,?_⟩);rw[m4,oL];exact(h1.fr 0 rfl).ro 2 [0] rfl
def pO(A:At)(row:bA bE)(b a up:Asn)(S:Cs):cv:=
 [bC A.c row,b,ga A.fp S.fr.bS,gf A.fb S.fr.bS.length S.fr.dd,da A.fu S.fr.used,ga A.sp S.sl.bS,gf A.sb S.sl.bS.length S.sl.dd,da A.su S.sl.used,
  iA A.fi S.files,Gp.fm A.ge S.bX,fG A.lg S.log,Tp.c5 A.pg S.bt,nJ A.m S.kept,a,up,eg A.o]
def aDp{p:Int}(D:Kc.Inv S)(h:Sep E (cg A S++L) w):Calls P Ij #[Pb A.c,Iv p] w
  (cA λv w'=>v=.tuple #[Iv (S.cp p).2.1,Iv (S.cp p).2.2]/\∃gs us:Sl,Sep E (cg {A with gs:=gs,us:=us} (S.cp p).1++L) w'):=by
 apply VW;unfold KA qC qK qZ qj qx;refine⟨_,rfl,ld h 0 rfl rfl rfl (use (DF D.wf (h.fr 1 rfl)) ?_)⟩;rintro _ K ⟨rfl,h1⟩;have h1:=h1.put (q:=1) rfl;obtain⟨r,hr⟩:∃r,Kt.gi S.tree p=r:=⟨_,rfl⟩
 rw[hr]at h1 ⊢;refine⟨_,_,rfl,eX (λe0=>?_) (λa=>?_)⟩
 ·have e:S.cp p=({S with tree:=r.1,guards:=S.guards++[⟨0,0,false⟩]},r.2):=by unfold Cs.cp;rw[hr];dsimp only;rw[bL e0]
  rw[e];have i:r.1=S.tree++[⟨p,true⟩]:=by
   rw[<- hr]at e0 ⊢;unfold Kt.gi at e0 ⊢;split at e0;·exact absurd e0 (by simp)
   ·next j=>
    rw[bJ j];split at e0;·exact absurd e0 (by simp)
    ·next k=>
     rw[bJ k];split at e0;·exact absurd e0 (by simp)
     ·next l=>rw[bJ l]
  have J:=D.wf.e8;have h1:Sep E (pO A A.row (dR A.t r.1) (iL A.gs S.guards) (jq A.us S.tree) S++L) K:=h1;refine⟨_,rfl,A.gs,h1.cellAt 0 rfl 12,Al.i h1 (λq w2 h2=>?_)⟩;obtain⟨u,G⟩:=iL.open (h2.fr 14 rfl);refine aDI (x:=⟨0,0,false⟩) u (by rw[D.gl];omega) (G.fr 1 rfl) (λgs B m=>?_);have m:Sep E (iL gs (S.guards++[⟨0,0,false⟩])::(pO A A.row (dR A.t r.1) (iL A.gs S.guards) (jq A.us S.tree) S++L).eraseIdx 13) B:=m;have n:=m.put (q:=13) rfl;have n:Sep E (pO A A.row (dR A.t r.1) (iL gs (S.guards++[⟨0,0,false⟩])) (jq A.us S.tree) S++L) B:=n;refine⟨_,rfl,St.i (b:=A.c) (c:=A.row) (o:=12) (L:=(pO A A.row (dR A.t r.1) (iL gs (S.guards++[⟨0,0,false⟩])) (jq A.us S.tree) S++L).eraseIdx 0) n (by simp[At.row]) (λM f=>?_)⟩;have f:Sep E (pO A ({A with gs:=gs} :At).row (dR A.t r.1) (iL gs (S.guards++[⟨0,0,false⟩])) (jq A.us S.tree) S++L) M:=f;refine⟨_,rfl,A.us,f.cellAt 0 rfl 13,Al.i f (λq2 N H=>?_)⟩;obtain⟨y,I⟩:=jq.open (H.fr 15 rfl);refine sV (x:=p) (by simpa using y) (by simp;omega) (I.fr 1 rfl) (λus C z s=>?_);have s:Sep E (jq us r.1::(pO A ({A with gs:=gs} :At).row (dR A.t r.1) (iL gs (S.guards++[⟨0,0,false⟩])) (jq A.us S.tree) S++L).eraseIdx 14) C:=by
   refine Sep.cG.2 ⟨by rw[z,i];simp,?_⟩;have F:r.1.map Kt.G.up=S.tree.map Kt.G.up++[p]:=by rw[i];simp
   rw[F];exact s
  have d:=s.put (q:=14) rfl;have d:Sep E (pO A ({A with gs:=gs} :At).row (dR A.t r.1) (iL gs (S.guards++[⟨0,0,false⟩])) (jq us r.1) S++L) C:=d;refine⟨_,rfl,St.i (b:=A.c) (c:=({A with gs:=gs} :At).row) (o:=13) (L:=(pO A ({A with gs:=gs} :At).row (dR A.t r.1) (iL gs (S.guards++[⟨0,0,false⟩])) (jq us r.1) S++L).eraseIdx 0) d (by simp[At.row]) (λO t=>?_)⟩;exact⟨rfl,gs,us,t⟩
 ·have e:S.cp p=(S,r.2):=by unfold Cs.cp;rw[hr];dsimp only;rw[bJ a]
  have g:r.1=S.tree:=by
   rw[<- hr]at a ⊢;unfold Kt.gi at a ⊢;split;·rfl
   ·next j=>
    rw[bJ j]at a;split;·rfl
    ·next k=>
     rw[bJ k]at a;split;·rfl
     ·next l=>rw[bJ l]at a;exact absurd rfl a
  rw[e];rw[g]at h1;exact⟨rfl,A.gs,A.us,h1⟩
end Go.Mp
namespace Go.Kc
open Go Go.Kt
def aDY{T:TS}{g:Int}:(T.et g).Pairwise (· < ·):=by
 unfold TS.et;rw[kc];exact(Td.filter _).imp (λ{a b} h=>by show(a:Int)<(b:Int);omega)
def Rs{l:bA G}{g:Int}(h:(iT l g).2≠0):(iT l g).1=l:=by
 unfold iT at h ⊢;split;·rfl
 ·next a=>
  rw[bJ a]at h;split;·rfl
  ·next b=>
   rw[bJ b]at h;split;·rfl
   ·next c=>rw[bJ c]at h;exact absurd rfl h
def aFK(l:bA G)(g:Int):(iT l g).1.map G.up=l.map G.up/\(iT l g).1.length=l.length:=by
 by_cases h:(iT l g).2≠0;·rw[Rs h];exact⟨rfl,rfl⟩
 ·have h:(iT l g).2=0:=by omega
  unfold iT at h ⊢;split at h;·exact absurd h (by simp)
  ·next c=>
   rw[bJ c];split at h;·exact absurd h (by simp)
   ·next a=>
    rw[bJ a];split at h;·exact absurd h (by simp)
    ·next d=>
     rw[bJ d];have hl:dt l g=true:=by
      cases hl:dt l g with
      |true=>rfl
      |false=>exact absurd hl a
     obtain⟨n,rfl,x,hx,_⟩:=iR.1 hl;have b:=(c4.1 hx).1;refine⟨?_,by simp⟩;rw[dz,hx,hL];apply hg;intro i;rw[hd];split;·next e=>subst e;rw[en,bL b,eI,hx];rfl
     ·rfl
end Go.Kc
namespace Go.Mp
open Go Go.Vc Go.Sp Go.Proofs Go.Kc
variable{E:Env}{L:cv}{w:bH}{A:At}{S:Cs}
def aJj(a b:Nat)(w:bH):Sem.run P (Instr.index H3 (.agg #[Pb a,Pb b]) (Iv 0)) w=.ok (Pb a) w:=by kernel_rfl
def aHI(a b:Nat)(w:bH):Sem.run P (Instr.index H3 (.agg #[Pb a,Pb b]) (Iv 1)) w=.ok (Pb b) w:=by kernel_rfl
def aB5(T:TS)(l:bR)(x o:Int):T.dx (l++[x]) o=((T.dx l o).own x o).1:=by
 unfold TS.dx;rw[y5];rfl
def aEA{g:Int}(U:Kc.Inv S)(h:Sep E (cg A S++L) w):Calls P Ik #[Pb A.c,Iv g] w
  (cY E (Iv (S.remove g).2) (cg A (S.remove g).1++L)):=by
 apply VY;unfold KC qC qD qJ qO qQ qW qZ;obtain⟨up,I⟩:∃up,Kt.o9 S.tree g=up:=⟨_,rfl⟩
 obtain⟨r,hr⟩:∃r,Kt.iT S.tree g=r:=⟨_,rfl⟩
 refine⟨_,rfl,ld h 0 rfl rfl rfl (use (aGI h (q:=1) rfl) ?_)⟩;rintro _ _ ⟨rfl,rfl⟩;rw[I];refine⟨_,rfl,_,rfl,ld h 0 rfl rfl rfl (use (Go.Mp.nG U.wf (h.fr 1 rfl)) ?_)⟩;rintro _ ab ⟨rfl,h1⟩;have h1:=h1.put (q:=1) rfl;rw[hr]at h1 ⊢;refine⟨_,rfl,iz (λhf=>?_) (λhe=>?_)⟩
 ·have e:S.remove g=(S,r.2):=by unfold Cs.remove;rw[hr];dsimp only;rw[bJ hf]
  have C:r.1=S.tree:=by rw[<- hr]at hf ⊢;exact Rs hf
  rw[C]at h1;rw[e];exact⟨rfl,h1⟩
 have B:=aFK S.tree g;rw[hr]at B;have h1:Sep E (cg A {S with tree:=r.1} ++L) ab:=by
  have e:jq A.us r.1=jq A.us S.tree:=by unfold jq;rw[B.1,B.2]
  unfold cg;simp only;rw[e];exact h1
 have e:S.remove g=({S with tree:=r.1,bt:=S.bt.dx (S.bt.et g) up,bX:=(mU S.bX g up).1,fr:={S.fr with used:=(gk S.fr.used [g] (cW S.fr.used g)).1},sl:={S.sl with used:=(gk S.sl.used [g] (cW S.sl.used g)).1}},0):=by
  unfold Cs.remove;rw[hr,I];dsimp only;rw[bL he]
 rw[e];have u:Tp.e8 S.bt 16777216:=λk hk=>by
  obtain⟨p,hp⟩:=kJ.1 hk;have:=U.cI.ids _ _ hp;have:=U.ids;omega
 refine⟨_,rfl,ld h1 0 rfl rfl rfl (use (Tp.aIx g u bN (h1.fr 11 rfl)) ?_)⟩;rintro _ w2 ⟨s,ids,rfl,m,C,h2⟩;have H:(ids.filter λx=> !Tp.rr S.bt g x)=S.bt.et g:=by
  refine Gp.yE (r:=(· < · :Int->Int->Prop)) (λx=>Int.lt_irrefl x) (λx y z=>Int.lt_trans) (m.cZ.filter _) aDY (λk=>?_);rw[gq,m.mem,A7 U.cI];unfold Tp.rr;cases S.bt.pg k with
  |none=>simp
  |some p=>simp[bne]
 rw[H]at C h2;have h2:=h2.hS (q:=11) rfl;have h2:Sep E (cg A {S with tree:=r.1} ++bw s 1 (bD (S.bt.et g))::L) w2:=Sep.e4 (Q:=cg A {S with tree:=r.1}) h2;have hlen:(S.bt.et g).length<=16777216:=by
  rw[<- H];exact mJ (l0 _ _) (m.le u)
 obtain⟨O,aa⟩:∃O,S.bt.et g=O:=⟨_,rfl⟩
 rw[aa]at C h2 hlen ⊢;refine⟨s,rfl,λx w'=>∃k:Nat,x=k/\k<=O.length/\Sep E (cg A {S with tree:=r.1,bt:=S.bt.dx (O.take k) up} ++bw s 1 (bD O)::L) w',λx _=>(O.length-x).toNat,⟨0,rfl,e7 _,h2⟩,?_⟩;rintro _ _ ag ⟨k,rfl,hk,i⟩;refine cX (λaf=>?_) (λae=>?_)
 ·have G:k<O.length:=by omega
  obtain⟨x,hx⟩:∃x,O[k]?=some x:=⟨_,dL G⟩
  refine(Ints.at_ (q:=16) rfl C).el i k rfl hx ⟨_,rfl,ld i 0 rfl rfl rfl (use (Tp.QD x up (i.fr 11 rfl)) ?_)⟩;rintro _ Y ⟨rfl,f⟩;have f:=f.put (q:=11) rfl;rw[de];refine⟨_,rfl,⟨k+1,rfl,G,by rw[fL hx,aB5];exact f⟩,?_⟩;show(((O.length:Nat):Int)-((k+1:Nat):Int)).toNat<(((O.length:Nat):Int)-(k:Int)).toNat;omega
 have X:k=O.length:=by omega
 subst X;rw[gg]at i;have i:=i.cut;refine⟨_,rfl,ld i 0 rfl rfl rfl (use (Gp.aJI U.eu g up (by have:=gB U.eu;omega) (i.fr 9 rfl)) ?_)⟩;rintro _ Y ⟨rfl,f⟩;have f:=f.put (q:=9) rfl;obtain⟨T,D⟩:∃T:Cs,T= {S with tree:=r.1,bt:=S.bt.dx O up,bX:=(mU S.bX g up).1} :=⟨_,rfl⟩
 have f:Sep E (cg A T++L) Y:=by rw[D];exact f
 have V:T.fr.used=S.fr.used:=by rw[D]
 have W:T.sl.used=S.sl.used:=by rw[D]
 obtain⟨d,t⟩:∃d:Cs,d= {T with fr:={T.fr with used:=(gk S.fr.used [g] (cW S.fr.used g)).1}} :=⟨_,rfl⟩
 obtain⟨o,F⟩:∃o:Cs,o= {d with sl:={d.sl with used:=(gk S.sl.used [g] (cW S.sl.used g)).1}} :=⟨_,rfl⟩
 refine⟨_,rfl,Dr.i f (λah J=>⟨_,rfl,ld J 0 rfl rfl rfl ⟨_,rfl,ld J 0 rfl rfl rfl ?_⟩⟩)⟩;refine⟨λx w'=>(x=0/\Sep E (cg A T++L) w')\/(x=1/\Sep E (cg A d++L) w')\/(x=2/\Sep E (cg A o++L) w'),λx _=>(2-x).toNat,.inl ⟨rfl,J⟩,?_⟩;rintro _ x Z (⟨rfl,n⟩|⟨rfl,n⟩|⟨rfl,n⟩)
 ·refine bT bN ⟨some ⟨A.fu,0,none⟩,Z,aJj _ _ _,Al.i n (λq N j=>?_)⟩;have j:Sep E (cg A T++bC q (bD [g])::L) N:=Sep.e4 j;refine use (yp j (q:=4) rfl g) ?_;rintro _ ad ⟨rfl,K⟩;refine⟨_,rfl,use (yq (s:=⟨some ⟨q,0,none⟩,1,1⟩) (l:=[g]) ((Ints.jm (L:=bC q (bD [g])::L) (b:=q) (c:=1) (gs:=[g]) (q:=0) rfl).er (A:=A) (S:=T) (q:=4) bN) (by simp) _ (K.fr 4 rfl)) ?_⟩;rintro _ R ⟨rfl,a⟩;have a:=a.put (q:=4) rfl;have a:Sep E (cg A d++bC q (bD [g])::L) R:=by rw[t,<- V];exact a
  exact⟨_,rfl,.inr (.inl ⟨bN,a.cut⟩),show((2:Int)-i64.wrap (0+1)).toNat<((2:Int)-0).toNat by decide⟩
 ·refine bT bN ⟨some ⟨A.su,0,none⟩,Z,aHI _ _ _,Al.i n (λq N j=>?_)⟩;have j:Sep E (cg A d++bC q (bD [g])::L) N:=Sep.e4 j;refine use (yp j (q:=7) rfl g) ?_;rintro _ ad ⟨rfl,K⟩;refine⟨_,rfl,use (yq (s:=⟨some ⟨q,0,none⟩,1,1⟩) (l:=[g]) ((Ints.jm (L:=bC q (bD [g])::L) (b:=q) (c:=1) (gs:=[g]) (q:=0) rfl).er (A:=A) (S:=d) (q:=7) bN) (by simp) _ (K.fr 7 rfl)) ?_⟩;rintro _ R ⟨rfl,a⟩;have a:=a.put (q:=7) rfl;have M:d.sl.used=S.sl.used:=by rw[t];exact W
  have a:Sep E (cg A o++bC q (bD [g])::L) R:=by rw[F,<- M];exact a
  exact⟨_,rfl,.inr (.inr ⟨bN,a.cut⟩),show((2:Int)-i64.wrap (1+1)).toNat<((2:Int)-1).toNat by decide⟩
 ·refine bF bN ⟨rfl,?_⟩;have:o= {S with tree:=r.1,bt:=S.bt.dx O up,bX:=(mU S.bX g up).1,fr:={S.fr with used:=(gk S.fr.used [g] (cW S.fr.used g)).1},sl:={S.sl with used:=(gk S.sl.used [g] (cW S.sl.used g)).1}} :=by
   rw[F,t,D]
  rw[this]at n;exact n
end Go.Mp
namespace Go.Kc
open Go Go.Kt
variable{S:Cs}
def Rt(t:Int)(gs:bR):∀(n:Nat) (S:Cs),db t gs (n+1) S=(((db t gs n S).1.cO t gs false).1,(db t gs n S).2+if((db t gs n S).1.cO t gs false).2 then 1 else 0)
 |0,S=>Prod.ext rfl ((Int.add_zero _).trans (zv _).symm)
 |n+1,S=>by
  have a:=Rt t gs n (S.cO t gs false).1;rw[db,a,db];rw[o7];exact⟨rfl,(Gu _ _ _).symm⟩
def EA(t:Int)(gs:bR):∀(n:Nat) (S:Cs),0<=(db t gs n S).2/\(db t gs n S).2<=n
 |0,S=>by simp[db]
 |n+1,S=>by
  have:=EA t gs n (S.cO t gs false).1;rw[db];dsimp only;split<;>omega
def Ru(t:Int):∀(l:bA (Int×Int)) (g k:Int) (S:Cs),ct t (l++[(g,k)]) S=((db t [g] k.toNat (ct t l S).1).1,(ct t l S).2+(db t [g] k.toNat (ct t l S).1).2)
 |[],g,k,S=>by simp[ct]
 |(x,y)::l,g,k,S=>by
  rw[o4,ct,Ru t l g k,ct];rw[o7];exact⟨rfl,(Gu _ _ _).symm⟩
def Rv(t:Int):∀(l:bA (Int×Int)) (S:Cs),(∀x∈l,0<=x.2/\x.2<=16777217)->0<=(ct t l S).2/\(ct t l S).2<=l.length*16777217
 |[],S,_=>by simp[ct]
 |(x,y)::l,S,h=>by
  have h1:=h _ (fz ..);have h2:=Rv t l (db t [x] y.toNat S).1 (λz a=>h z (fT _ a));have b:=EA t [x] y.toNat S;rw[ct];simp only[hI]at h1 ⊢;omega
def aE2{n:Int}{l:bR}(hr:iu n l=true){i:Nat}{x:Int}(hx:l[i]?=some x):∃p,(ji n l)[i]?=some p/\0<=p/\p<=x:=by
 have a:=(s8 hr).2.2;have d:=(a x (eH hx)).1;by_cases h:n<=0\/cn l=0
 ·have b:=(c4.1 hx).1;refine⟨0,?_,g3 _,d⟩;rw[D5 hr h,od,bL b]
 ·have c:0<cn l:=by have:=n2 (l:=l) (λy g=>(a y g).1);omega
  obtain⟨p,_,h2,e,f⟩:=rp hr c hx;exact⟨_,by rw[<- D4 hr c bu];exact h2,e,f⟩
def aDD{n:Int}{l:bR}(hr:iu n l=true):(ji n l).length=l.length:=by
 unfold ji;rw[bJ (by rw[hr];decide)];split;·simp
 ·split;·rfl
  ·exact pJ hr
def aFf(G:Good S.bX)(g:Int):0<=oE S.bX g/\oE S.bX g<=16777217:=by
 have h1:=Go.Mp.gB G;have h2:0<=oE S.bX g/\oE S.bX g<=(S.bX.length:Nat):=by
  unfold oE;refine⟨bu,?_⟩;have:=l0 (λe:dy=>e.group==g) S.bX;omega
 omega
end Go.Kc
namespace Go.Mp
open Go Go.Vc Go.Sp Go.Proofs Go.Kc
variable{E:Env}{L:cv}{w:bH}{A:At}{S:Cs}
def aDm{l:bA Kt.G}{t g:Int}(h:g∈Kt.ia l t):Kt.dt l g=true:=by
 unfold Kt.ia at h;split at h
 ·unfold Kt.nP at h;obtain⟨i,a,rfl⟩:=fo.1 h;rw[gq,dA]at a;exact a.2.1
 ·cases h
def Ints.one{s:Sl}{gs:bR}{q k:Nat}{g:Int}(e:L[q]?=some (bw s 1 (bD gs)))(hn:s.n=gs.length)(a:gs[k]?=some g)(n c:Nat)(h1:n=1):Ints E L ⟨gj s.p k s.c 1,n,c⟩ [g]:=by
 subst h1;refine⟨rfl,λw h i x hx=>?_⟩;have hk:=(c4.1 a).1
 match i,hx with
 |0,hx=>
  simp at hx;subst hx;obtain⟨b,spare,hp,h1,h2,f,d⟩:=bw.ik (h.fr q e) bu;have hl:(bD gs).length=gs.length:=by simp
  refine⟨⟨b,k,none⟩,?_,?_⟩
  ·unfold gj;rw[cF,hp];show some _=some _;congr 1;show(⟨b,0,none⟩:Addr).add (k*1)=_;rw[cj];congr 1;omega
  ·rw[cj,k1,bw.cell d bu,x5,a];rfl
 |i+1,hx=>simp at hx
def aGJ{t n:Int}(J:Kc.Inv S)(h:Sep E (cg A S++L) w):Calls P Ip #[Pb A.c,Iv t,Iv n] w
  (cY E (Iv (S.shrink t n).2) (cg A (S.shrink t n).1++L)):=by
 apply V3;unfold KF qD qF qI qJ qO qQ qW qZ qg qh qm;have ad:S.guards.length<=64:=by rw[J.gl];exact J.wf.e8
 have ai:(S.live t=false\/n<1\/1000<n)->S.shrink t n=(S,0):=by intro aF;unfold Cs.shrink;rw[bL aF]
 refine⟨λw'=>S.live t=true/\1<=n/\n<=1000/\Sep E (cg A S++L) w',⟨_,rfl,ld h 0 rfl rfl rfl (use (kB h (q:=1) rfl) ?_)⟩,?_⟩
 ·rintro _ _ ⟨rfl,rfl⟩;refine⟨_,rfl,cw (λaH=>?_) (λB=>?_)⟩
  ·have aH:Kt.dt S.tree t=false:=by simpa using aH
   rw[ai (.inl aH)];exact⟨rfl,h⟩
  ·have B:Kt.dt S.tree t=true:=by simpa using B
   refine cX (λaJ=>?_) (λaJ=>gn (λd=>?_) (λd=>⟨B,bu,bu,h⟩));·rw[ai (.inr (.inl aJ))];exact⟨rfl,h⟩
   ·rw[ai (.inr (.inr d))];exact⟨rfl,h⟩
 rintro _ bf ⟨B,bc,bd,h1⟩;obtain⟨In,hIn⟩:∃In,Kt.ia S.tree t=In:=⟨_,rfl⟩
 obtain⟨mn,ah⟩:∃mn,S.held t eE.min=mn:=⟨_,rfl⟩
 obtain⟨lw,ag⟩:∃lw,S.held t eE.low=lw:=⟨_,rfl⟩
 have bb:mn.length=S.guards.length:=by rw[<- ah];exact vu _ _
 have ba:lw.length=S.guards.length:=by rw[<- ag];exact vu _ _
 have a5:In.length<=64:=by rw[<- hIn];exact yF J.wf t
 have aA:∀g∈In,0<=g/\g<S.guards.length:=λg e=>by rw[J.gl];exact Ey (aDm (by rw[hIn];exact e))
 refine⟨_,rfl,ld h1 0 rfl rfl rfl (use (u7 J.wf (h1.fr 1 rfl)) ?_)⟩;rintro _ w2 ⟨a,rfl,N,h2⟩;rw[hIn]at N h2;have h2:=h2.hS (q:=1) rfl;have h2:Sep E (cg A S++bw a 1 (bD In)::L) w2:=Sep.e4 (Q:=cg A S) h2;refine⟨a,rfl,use (yy QY J.gl ad J.jT h2) ?_⟩;rintro _ bg ⟨I,rfl,aw,aK⟩;rw[ah]at aw aK;refine⟨I,rfl,use (yy QZ J.gl ad J.jT aK) ?_⟩;rintro _ bh ⟨sl,rfl,av,aL⟩;rw[ag]at av aL;refine⟨sl,rfl,s7 (n:=a.n) bu aL (λO a4 ax R=>?_)⟩;rw[N]at ax R;have R:Sep E (cg A S++bw O 1 (bD (List.replicate In.length 0))::bw sl 1 (dZ lw)::bw I 1 (dZ mn)::bw a 1 (bD In)::L) a4:=Sep.e4 (Q:=cg A S) R;obtain⟨W,aD⟩:∃W,S.weights t=W:=⟨_,rfl⟩
 have K:W.length=In.length:=by rw[<- aD,<- hIn];simp[Cs.weights]
 have H:∀(k:Nat) (g:Int),In[k]?=some g->W[k]?=some (if hy mn g=false/\hy lw g=false then oE S.bX g else 0):=by
  intro k g e;rw[<- aD];unfold Cs.weights;rw[hIn,eI,e,ah,ag];rfl
 have X:∀x∈W,0<=x/\x<=16777217:=by
  intro x hx;obtain⟨k,hk⟩:=pW.1 hx;have M:=(c4.1 hk).1;obtain⟨g,e⟩:∃g,In[k]?=some g:=⟨_,dN⟩
  rw[H k g e]at hk;cases hk;have:=aFf J.eu g;split<;>omega
 obtain⟨Z,Y⟩:∃Z:Nat->bR,Z= λk=>W.take k++List.replicate (In.length-k) 0:=⟨_,rfl⟩
 have an:∀k,k<=In.length->(Z k).length=In.length:=λk hk=>by rw[Y];simp[K];omega
 have aR:Z 0=List.replicate In.length 0:=by rw[Y];simp
 have aS:Z In.length=W:=by rw[Y];simp only;rw[jd,<- K,gg];simp
 have aT:∀(k:Nat) (x:Int),W[k]?=some x->k<In.length->(Z k).set k x=Z (k+1):=by
  intro k x hx hk;rw[Y];simp only;rw[fL hx,ju k _ (by simp;omega),dm];congr 1;rw[hJ,K,o5 bu,jd,show In.length-k=(In.length-(k+1))+1 by omega,oe];rfl
 have aE:∀k:Nat,W[k]?=some 0->k<In.length->Z k=Z (k+1):=by
  intro k hx hk;rw[Y];simp only;rw[fL hx,dm];congr 1;rw[show In.length-k=(In.length-(k+1))+1 by omega,oe];rfl
 rw[<- aR]at R;refine⟨λx w'=>∃k:Nat,x=k/\k<=In.length/\Sep E (cg A S++bw O 1 (bD (Z k))::bw sl 1 (dZ lw)::bw I 1 (dZ mn)::bw a 1 (bD In)::L) w',λx _=>(In.length-x).toNat,⟨0,rfl,e7 _,R⟩,?_⟩;rintro _ _ bi ⟨k,rfl,hk,G⟩;refine cX (λM=>?_) (λaq=>?_)
 ·have l:k<In.length:=by omega
  obtain⟨g,e⟩:∃g,In[k]?=some g:=⟨_,dL l⟩
  have ap:=aA g (eH e);have o:(((In.length:Nat):Int)-((k+1:Nat):Int)).toNat<(((In.length:Nat):Int)-(k:Int)).toNat:=by omega
  refine(Ints.at_ (q:=19) rfl N).el G k rfl e ?_;refine⟨λb w'=>(b=true↔(hy mn g=false/\hy lw g=false))/\Sep E (cg A S++bw O 1 (bD (Z k))::bw sl 1 (dZ lw)::bw I 1 (dZ mn)::bw a 1 (bD In)::L) w',
   vt 18 G rfl aw ap.1 bu (cw (λhb=>vt 17 G rfl av ap.1 bu ⟨?_,G⟩) (λhb=>⟨?_,G⟩)),?_⟩
  ·have hb:hy mn g=false:=by simpa using hb
   simp[hb]
  ·have hb:hy mn g=true:=by simpa using hb
   simp[hb]
  rintro _ b aI ⟨hb,f⟩;refine cw (λaV=>?_) (λaU=>?_)
  ·refine⟨_,rfl,ld f 0 rfl rfl rfl (use (Gp.aIp J.eu g (by have:=gB J.eu;omega) (f.fr 9 rfl)) ?_)⟩;rintro _ aZ ⟨rfl,i⟩;have i:=i.put (q:=9) rfl;have i:Sep E (cg A S++bw O 1 (bD (Z k))::bw sl 1 (dZ lw)::bw I 1 (dZ mn)::bw a 1 (bD In)::L) aZ:=i;have hx:=H k g e;rw[bL (hb.1 aV)]at hx;refine⟨_,rfl,kD (i.fr 16 rfl) (by rw[an k hk];exact ax) bu (by rw[an k hk];omega) (λa0 d=>?_)⟩;rw[dz,aT k _ hx l]at d;have d:=d.put (q:=16) rfl;rw[de];exact⟨⟨k+1,rfl,l,d⟩,o⟩
  ·have hx:=H k g e;rw[bJ (by rw[<- hb,aU];decide)]at hx;rw[aE k hx l]at f;rw[de];exact⟨⟨k+1,rfl,l,f⟩,o⟩
 have af:k=In.length:=by omega
 subst af;rw[aS]at G;have D:iu n W=true:=by
  unfold iu;rw[dE (show 0<=n by omega),dE (show n<=1048576 by omega),dE (show W.length<=64 by omega)];refine fS.2 (λx hx=>?_);have:=X x hx;have:=n1;rw[dE (show 0<=x by omega),dE (show x<=top by omega)];rfl
 refine use (aGC bu bu (G.fr 16 rfl)) ?_;rintro _ aI ⟨am,rfl,au,f⟩;have f:=f.hS (q:=16) rfl;have f:Sep E (cg A S++bw am 1 (bD (ji n W))::bw O 1 (bD W)::bw sl 1 (dZ lw)::bw I 1 (dZ mn)::bw a 1 (bD In)::L) aI:=Sep.e4 (Q:=cg A S) f;obtain⟨C,ak⟩:∃C,ji n W=C:=⟨_,rfl⟩
 have aM:C.length=In.length:=by rw[<- ak,aDD D,K]
 have V:∀(k:Nat) (p:Int),C[k]?=some p->0<=p/\p<=16777217:=by
  intro k p hp;have M:=(c4.1 hp).1;obtain⟨x,hx⟩:∃x,W[k]?=some x:=⟨_,dN⟩
  obtain⟨p',ar,i,d⟩:=aE2 D hx;rw[ak,hp]at ar;cases ar;have:=X x (eH hx);omega
 rw[ak]at f au;obtain⟨r,s⟩:∃r,r=bw am 1 (bD C)::bw O 1 (bD W)::bw sl 1 (dZ lw)::bw I 1 (dZ mn)::bw a 1 (bD In)::L:=⟨_,rfl⟩
 have aO:Ints E r am C:=by rw[s];exact Ints.row au
 have ab:∀ {T:Cs} {w:bH},Sep E (cg A T++r) w->Sep E (cg A T++L) w:=λaj=>by rw[s]at aj;exact aj.cut.cut.cut.cut.cut
 have aG:∀ {T:Cs} {w:bH},Sep E (cg A T++r) w->a.n<=a.c:=λaj=>by rw[s]at aj;exact bw.cap (aj.fr 20 rfl)
 have aP:∀(k:Nat) (g:Int) (m c:Nat),In[k]?=some g->m=1->Ints E r ⟨gj a.p k a.c 1,m,c⟩ [g]:=λk g m c e hm=>Ints.one (q:=4) (by rw[s];rfl) N e m c hm;have f:Sep E (cg A S++r) aI:=by rw[s];exact f
 clear s;obtain⟨Q,al⟩:∃Q,In.zip C=Q:=⟨_,rfl⟩
 have a6:Q.length=In.length:=by rw[<- al,List.length_zip,aM,Nat.min_self]
 have aB:∀x∈Q,0<=x.2/\x.2<=16777217:=by
  intro x hx;rw[<- al]at hx;obtain⟨k,hk⟩:=pW.1 (List.of_mem_zip hx).2;exact V k _ hk
 have az:S.shrink t n=((dC t (n-(ct t Q S).2).toNat (ct t Q S).1).1,(ct t Q S).2+(dC t (n-(ct t Q S).2).toNat (ct t Q S).1).2):=by
  unfold Cs.shrink;rw[bJ (by rw[B];simp;omega),hIn,aD,ak,al]
 rw[az];have aa:=λk=>Rv t (Q.take k) S (λx hx=>aB x (m8 hx));refine⟨am,rfl,λdK x w'=>∃k:Nat,x=k/\k<=C.length/\dK=(ct t (Q.take k) S).2/\Sep E (cg A (ct t (Q.take k) S).1++r) w',λ_ x _=>(C.length-x).toNat,⟨0,rfl,e7 _,rfl,f⟩,?_⟩;rintro _ _ _ aZ ⟨k,rfl,hk,rfl,i⟩;refine cX (λM=>?_) (λaq=>?_)
 ·have l:k<C.length:=by omega
  obtain⟨p,hp⟩:∃p,C[k]?=some p:=⟨_,dL l⟩
  obtain⟨g,e⟩:∃g,In[k]?=some g:=⟨_,dN⟩
  have a3:=V k p hp;have aX:Q[k]?=some (g,p):=by rw[<- al,List.getElem?_zip_eq_some];exact⟨e,hp⟩
  have F:=Ru t (Q.take k) g p S;rw[<- fL aX]at F;have z:Kc.Inv (ct t (Q.take k) S).1:=Inv.ct _ J;have aF:=aa k;have a8:(Q.take k).length<=64:=by rw[hJ];omega
  obtain⟨T,aC⟩:∃T,ct t (Q.take k) S=T:=⟨_,rfl⟩
  rw[aC]at F z i aF ⊢;refine aO.pre.el i k rfl hp ?_;refine⟨λdK x w'=>∃j:Nat,x=j/\(j:Int)<=p/\dK=T.2+(db t [g] j T.1).2/\Sep E (cg A (db t [g] j T.1).1++r) w',λ_ x _=>(p-x).toNat,⟨0,rfl,bu,(Int.add_zero _).symm,i⟩,?_⟩;rintro _ _ _ a0 ⟨j,rfl,be,rfl,d⟩;have a7:=EA t [g] j T.1;refine cX (λae=>?_) (λae=>?_)
  ·have a9:=aG d;have aN:Kc.Inv (db t [g] j T.1).1:=Inv.db _ z;rw[de (k:=k) bu];refine⟨⟨bu,bu⟩,⟨bu,bu⟩,use (Rh aN (t:=t) (all:=false) (sg:=⟨gj a.p ((k:Nat):Int).toNat a.c 1,(((k+1:Nat):Int)).toNat-((k:Nat):Int).toNat,a.c-((k:Nat):Int).toNat⟩) (gs:=[g]) ?_ (by simp) d) ?_⟩
   ·rw[dz];exact aP k g _ _ e bu
   rintro _ aY ⟨rfl,y⟩;have u:=Rt t [g] j T.1;have o:(p-((j+1:Nat):Int)).toNat<(p-(j:Int)).toNat:=by omega
   refine⟨_,rfl,cw (λhr=>?_) (λhr=>?_)⟩
   ·rw[hr,bL rfl]at u;rw[de,cR bu bu];exact⟨⟨j+1,rfl,bu,by rw[u,Gu],by rw[u];exact y⟩,o⟩
   ·rw[hr]at u;rw[de];exact⟨⟨j+1,rfl,bu,by rw[u];simp,by rw[u];exact y⟩,o⟩
  ·have ae:p.toNat=j:=by omega
   rw[ae]at F;rw[de];refine⟨⟨k+1,rfl,l,by rw[F],by rw[F];exact d⟩,?_⟩;show(((C.length:Nat):Int)-((k+1:Nat):Int)).toNat<(((C.length:Nat):Int)-(k:Int)).toNat;omega
 have af:k=Q.length:=by omega
 have ao:=aa k;rw[af,gg]at i ao ⊢;have z:Kc.Inv (ct t Q S).1:=Inv.ct _ J;obtain⟨T,aC⟩:∃T,ct t Q S=T:=⟨_,rfl⟩
 rw[aC]at i z ao ⊢;refine⟨λdK w'=>∃U:Cs,Kc.Inv U/\T.2<=dK/\(T.2<dK->dK<=n)/\dC t (n-T.2).toNat T.1=((dC t (n-dK).toNat U).1,(dK-T.2)+(dC t (n-dK).toNat U).2)/\Sep E (cg A U++r) w',λdK _=>(n-dK).toNat,⟨T.1,z,g3 _,λa1=>absurd a1 bu,Prod.ext rfl (by simp),i⟩,?_⟩;rintro _ dK a0 ⟨U,aQ,hle,a2,he,d⟩;refine cX (λM=>?_) (λaq=>?_)
 ·obtain⟨m,hm⟩:∃m,(n-dK).toNat=m+1:=⟨(n-dK).toNat-1,bu⟩
  rw[hm]at he;have aW:(n-(dK+1)).toNat=m:=by omega
  refine use (Ri aQ (t:=t) d) ?_;rintro _ aY ⟨rfl,y⟩;refine⟨_,rfl,cw (λhr=>?_) (λhr=>?_)⟩
  ·have ay:dC t (m+1) U=((dC t m (U.c2 t).1).1,1+(dC t m (U.c2 t).1).2):=by rw[dC];rw[bL hr]
   rw[cR bu bu];refine⟨⟨(U.c2 t).1,aQ.c2 t,bu,λ_=>bu,?_,y⟩,by show(n-(dK+1)).toNat<(n-dK).toNat;omega⟩;rw[he,aW,ay];refine Prod.ext rfl ?_;show dK-T.2+(1+_)=dK+1-T.2+_;omega
  ·have ay:dC t (m+1) U=((U.c2 t).1,0):=by rw[dC];rw[bJ (by rw[hr];decide)]
   rw[he,ay];exact⟨by show Value.int .i64 dK=Value.int .i64 (T.2+(dK-T.2+0));congr 1;omega,ab y⟩
 ·have hm:(n-dK).toNat=0:=by omega
  rw[hm]at he;rw[he];exact⟨by show Value.int .i64 dK=Value.int .i64 (T.2+(dK-T.2+0));congr 1;omega,ab d⟩
end Go.Mp
namespace Go.Mp
open Go Go.Vc Go.Sp Go.Proofs
variable{E:Env}{L:cv}{w W:bH}
noncomputable def gZ:cb Oper:=((f34.body.bind (vv 1)).getD #[])
def aKK:Oper:={dst:=none,op:=.assign (.const (.pointer none)),type:=0,pos:= "",after:= #[],guard:=none}
noncomputable def EB(i:Nat):Oper:=(gZ[i]?).getD aKK
def rv:dO:={fork:=λr=>Nat.beq r 1}
noncomputable def T0C(fr sl:Int)(sz:Sl):Tr:=(jg [Iv fr,Iv sl,Sv sz] 0 .nil).put (some 6) (.pointer none)
def Rw(K:bg1):Exit->Tr->bg0:=mO (vc P fF gL cz rv 998 .ret (oy P fF [.tmp 6] K (λ_ _=>False))) (oy P fF [.tmp 6] K (λ_ _=>False))
def aJo{P:cP}{τ:cf->K1}{ρ:cf->Kd}{cz:bg7->Bool}{A:dO}{n i j:Nat}{a ops:cb Oper}{Q:Exit->Tr->bg0}{T:Tr}{w:bH}(h1:A.join j=none)(h2:A.sig j=none)(f:A.fork j=true):
  vc P τ ρ cz A (n+3) (.seq (.region i a false) (.seq (.region j ops true) .ret)) Q T w=
   k2 P τ ρ cz A a (mO (λT w=>Dr (λw'=>gR P τ ρ cz A ops (mO (vc P τ ρ cz A (n+1) .ret Q) Q) ops.size (Array.replicate ops.size false) T w') w) Q) a.toList T w:=by
 have b:tY A (.seq (.region j ops true) .ret)=none:=by simp[tY,l8,h1]
 have c:tY A .ret=none:=rfl;have d:∀T w,vc P τ ρ cz A (n+2) (.seq (.region j ops true) .ret) Q T w=Dr (λw'=>gR P τ ρ cz A ops (mO (vc P τ ρ cz A (n+1) .ret Q) Q) ops.size (Array.replicate ops.size false) T w') w:=by
  intro T w;rw[vc];simp only[c];rw[vc];unfold tX;simp only[h2,f,hM]
 rw[vc];simp only[b];rw[vc];unfold tX;dsimp only;have e:vc P τ ρ cz A (n+2) (.seq (.region j ops true) .ret) Q= λT w=>Dr (λw'=>gR P τ ρ cz A ops (mO (vc P τ ρ cz A (n+1) .ret Q) Q) ops.size (Array.replicate ops.size false) T w') w:=by
  funext T w;exact d T w
 rw[e]
noncomputable def EC:cb Oper:=((f34.body.bind (vv 0)).getD #[])
def azm:f34.body=some (.seq (.region 0 EC false) (.seq (.region 1 gZ true) .ret)):=by kernel_rfl
def aBe:f34.results= #[.tmp 6]:=by kernel_rfl
def ayu(next:Tr->bg0)(Q:Exit->Tr->bg0)(T:Tr)(w:bH):k2 P fF gL cz rv EC (mO next Q) EC.toList T w=next (T.put (some 6) (.pointer none)) w:=by kernel_rfl
def aCd(fr sl:Int)(sz:Sl)(K:bg1)(w:bH):
  km P fF gL cz rv f34 #[Iv fr,Iv sl,Sv sz] K (λ_ _=>False) w=Dr (λw'=>gR P fF gL cz rv gZ (Rw K) gZ.size (Array.replicate gZ.size false) (T0C fr sl sz) w') w:=by
 unfold km;rw[azm,aBe];dsimp only;rw[show(1000:Nat)=997+3 from rfl,aJo rfl rfl rfl,ayu];rfl
def aB4:k5 P rv f34 3=true:=by kernel_rfl
def aA8:ec gZ=true:=by decide+kernel
def vy:gZ.size=16:=by kernel_rfl
def aAB(K:bg1)(T:Tr)(w:bH):Rw K .normal T w=K (T.get 6) w:=by kernel_rfl
variable(T:Tr)(next:Tr->bg0)(Q:Exit->Tr->bg0)
abbrev g0(i:Nat):=nf P fF gL cz rv (EB i) T w next Q
def ED:g0 (w:=w) T next Q 0=Calls P Bq #[] w λe w'=>∃p:ch,e=.returned (.pointer p)/\next (T.put (some 7) (.pointer p)) w':=by kernel_rfl
def EE:g0 (w:=w) T next Q 1=next (T.put (some 8) (T.get 0)) w:=by kernel_rfl
def EF:g0 (w:=w) T next Q 2=Calls P uG #[T.get 8] w λe w'=>∃a b c:ch,e=.returned (.agg #[.pointer a,.pointer b,.pointer c])/\next (T.put (some 9) (.agg #[.pointer a,.pointer b,.pointer c])) w':=by kernel_rfl
def EG:g0 (w:=w) T next Q 3=next (T.put (some 10) (T.get 1)) w:=by kernel_rfl
def EH:g0 (w:=w) T next Q 4=Calls P uG #[T.get 10] w λe w'=>∃a b c:ch,e=.returned (.agg #[.pointer a,.pointer b,.pointer c])/\next (T.put (some 11) (.agg #[.pointer a,.pointer b,.pointer c])) w':=by kernel_rfl
def EI:g0 (w:=w) T next Q 5=next (T.put (some 12) (T.get 2)) w:=by kernel_rfl
def EJ:g0 (w:=w) T next Q 6=Calls P Br #[T.get 12] w λe w'=>∃p:ch,e=.returned (.pointer p)/\next (T.put (some 13) (.pointer p)) w':=by kernel_rfl
def EK:g0 (w:=w) T next Q 7=Calls P Bs #[] w λe w'=>∃p:ch,e=.returned (.pointer p)/\next (T.put (some 14) (.pointer p)) w':=by kernel_rfl
def EL:g0 (w:=w) T next Q 8=Calls P Bt #[] w λe w'=>∃p:ch,e=.returned (.pointer p)/\next (T.put (some 15) (.pointer p)) w':=by kernel_rfl
def EM:g0 (w:=w) T next Q 9=Calls P Bu #[] w λe w'=>∃p:ch,e=.returned (.pointer p)/\next (T.put (some 16) (.pointer p)) w':=by kernel_rfl
def aKE:g0 (w:=w) T next Q 10=mK (λq=>next (T.put (some 17) (.map (some q)))) w:=by kernel_rfl
def aKF:g0 (w:=w) T next Q 11=∃x:Sl,∃w',Sem.run P (Instr.makeSlice sk (Iv 1) (Iv 1)) w=.ok (Sv x) w'/\next (T.put (some 18) (Sv x)) w':=by kernel_rfl
def aKG:g0 (w:=w) T next Q 12=Al (.cells #[Iv (-1)] 3) (λq=>next (T.put (some 19) (.slice (some q) 1 1))) w:=by kernel_rfl
def aKI:g0 (w:=w) T next Q 14=Al (.cells (T.get 20).cells Bi) (λq=>next (T.put (some 21) (.pointer (some q)))) w:=by kernel_rfl
def aKJ:g0 (w:=w) T next Q 15=next (T.put (some 6) (T.get 21)) w:=by kernel_rfl
end Go.Mp
namespace Go.Mp
open Go Go.Vc Go.Sp Go.Proofs
variable{E:Env}{L:cv}{w W:bH}
def vz(t a b1 c b b2 d f g lg pg:ch)(m:bW Nat)(gs up:Sl):bA bE:=
 [.pointer t,.pointer a,.pointer b1,.pointer c,.pointer b,.pointer b2,.pointer d,.pointer f,.pointer g,.pointer lg,.pointer pg,.map m,Sv gs,Sv up]
def aKH(T:Tr)(next:Tr->bg0)(Q:Exit->Tr->bg0):g0 (w:=w) T next Q 13=tQ P Bi #[(0,T.get 7),(1,T.get 9),(2,T.get 11),(3,T.get 13),(4,T.get 14),(5,T.get 15),(6,T.get 16),(7,T.get 17),(8,T.get 18),(9,T.get 19)] (λv=>next (T.put (some 20) v) w):=by kernel_rfl
def aE7(t a b1 c b b2 d f g lg pg:ch)(m:bW Nat)(gs up:Sl)(F:bE->Prop):
  tQ P Bi #[(0,.pointer t),(1,.agg #[.pointer a,.pointer b1,.pointer c]),(2,.agg #[.pointer b,.pointer b2,.pointer d]),(3,.pointer f),(4,.pointer g),(5,.pointer lg),(6,.pointer pg),(7,.map m),(8,Sv gs),(9,Sv up)] F
   =F (.agg (vz t a b1 c b b2 d f g lg pg m gs up).toArray):=by kernel_rfl
def lx:bA Nat:=[7,8,9,10,11,12,13,14,15,16,17,18,19,20,21,6]
def aAu:(List.range 16).map (e5 gZ)=lx:=by decide+kernel
def EN{i:Nat}(h:i<16):some (e5 gZ i)=lx[i]? :=by
 rw[<- aAu,eI,m9 h];rfl
def kU{i d:Nat}(h:lx[i]?=some d):e5 gZ i=d:=by
 have a:i<16:=(c4.1 h).1;have:=EN a;rw[h]at this;exact cU this
def yI(ops:cb Oper)(i j:Nat):Bool:=match ops[i]? with
 |some o=>o.after.toList.any λe=>Region.binds .any e&&Nat.beq e.on j
 |none=>false
def Rx{ops:cb Oper}{i j:Nat}(h:yI ops i j=true):waits ops i j:=by
 unfold yI at h;split at h
 ·next o ho=>
  obtain⟨e,he,h2⟩:=tC.1 h;rw[dA]at h2;exact⟨o,ho,e,he,h2.1,m7 h2.2⟩
 ·cases h
def oU:bA (bA Nat):=[[7],[8],[9],[10],[11],[12],[13],[14],[15],[16],[17],[18],[19],[20,7,9,11,13,14,15,16,17,18,19],[21,20],[6,21]]
def aBv:((List.range 16).all λi=>(List.range 16).all λj=>Nat.beq i j||yI gZ i j|| !((oU.getD i []).contains (lx.getD j 0)))=true:=by decide+kernel
def Ry{i j:Nat}{T:Tr}{v:bE}(h:i<16)(c:j<16)(g:i≠j)(hw:¬ waits gZ i j):∀s∈oU.getD i [],(T.put (some (e5 gZ j)) v).get s=T.get s:=by
 intro s k;have h1:=fS.1 (fS.1 aBv i (fV.2 h)) j (fV.2 c);simp only[jE,h9]at h1;have a:=EN c;have b:lx.getD j 0=e5 gZ j:=by rw[dT,<- a];rfl
 rw[b]at h1;have f:e5 gZ j<8000:=by
  have:∀d∈lx,d<8000:=by decide
  exact this _ (eH a.symm)
 rw[Tr.dI _ _ _ _ f];split
 ·next e=>
  subst e;rcases h1 with(h1|h1)|h1;·exact absurd (m7 h1) g
  ·exact absurd (Rx h1) hw
  ·have:=kX.2 k;rw[h1]at this;cases this
 ·rfl
def vA(v c:bE):Asn:=fe λb=>cG (v=Pb b) (bC b c.cells.toList)
def n3(v:bE):Prop:=∃p:ch,v=.pointer p
def vB(v:bE):Prop:=∃a b c:ch,v=.agg #[.pointer a,.pointer b,.pointer c]
noncomputable def FC(fr sl:Int)(sz:Sl):Nat->Tr->Prop
 |1,T=>T.get 8=Iv fr
 |2,T=>vB (T.get 9)
 |3,T=>T.get 10=Iv sl
 |4,T=>vB (T.get 11)
 |5,T=>T.get 12=Sv sz
 |0,T=>n3 (T.get 7)
 |6,T=>n3 (T.get 13)
 |7,T=>n3 (T.get 14)
 |8,T=>n3 (T.get 15)
 |9,T=>n3 (T.get 16)
 |10,T=>∃m:bW Nat,T.get 17=.map m
 |11,T=>∃s:Sl,T.get 18=Sv s
 |12,T=>∃s:Sl,T.get 19=Sv s
 |13,T=>∃t a b1 d c b2 e f g lg pg m gs up,T.get 7=.pointer t/\T.get 9=.agg #[.pointer a,.pointer b1,.pointer d]/\T.get 11=.agg #[.pointer c,.pointer b2,.pointer e]/\T.get 13=.pointer f/\T.get 14=.pointer g/\
   T.get 15=.pointer lg/\T.get 16=.pointer pg/\T.get 17=.map m/\T.get 18=Sv gs/\T.get 19=Sv up/\T.get 20=.agg (vz t a b1 d c b2 e f g lg pg m gs up).toArray
 |14,T=>∃b,T.get 21=Pb b
 |15,T=>T.get 6=T.get 21
 |_,_=>False
noncomputable def OC(O:Nat->bE->cv):Nat->Tr->cv
 |0,T=>O 0 (T.get 7)
 |2,T=>O 1 (T.get 9)
 |4,T=>O 2 (T.get 11)
 |6,T=>O 3 (T.get 13)
 |7,T=>O 4 (T.get 14)
 |8,T=>O 5 (T.get 15)
 |9,T=>O 6 (T.get 16)
 |10,T=>O 7 (T.get 17)
 |11,T=>O 8 (T.get 18)
 |12,T=>O 9 (T.get 19)
 |14,T=>[vA (T.get 21) (T.get 20)]
 |_,_=>[]
def aKr{fr sl:Int}{sz:Sl}{i:Nat}{T T':Tr}(a:i<16)(h:∀s∈oU.getD i [],T'.get s=T.get s):FC fr sl sz i T->FC fr sl sz i T':=by
 match i,a with
 |0,_=>simp only[FC];rw[h 7 bN];exact id
 |1,_=>simp only[FC];rw[h 8 bN];exact id
 |2,_=>simp only[FC];rw[h 9 bN];exact id
 |3,_=>simp only[FC];rw[h 10 bN];exact id
 |4,_=>simp only[FC];rw[h 11 bN];exact id
 |5,_=>simp only[FC];rw[h 12 bN];exact id
 |6,_=>simp only[FC];rw[h 13 bN];exact id
 |7,_=>simp only[FC];rw[h 14 bN];exact id
 |8,_=>simp only[FC];rw[h 15 bN];exact id
 |9,_=>simp only[FC];rw[h 16 bN];exact id
 |10,_=>simp only[FC];rw[h 17 bN];exact id
 |11,_=>simp only[FC];rw[h 18 bN];exact id
 |12,_=>simp only[FC];rw[h 19 bN];exact id
 |13,_=>simp only[FC];rw[h 7 bN,h 9 bN,h 11 bN,h 13 bN,h 14 bN,h 15 bN,h 16 bN,h 17 bN,h 18 bN,h 19 bN,h 20 bN];exact id
 |14,_=>simp only[FC];rw[h 21 bN];exact id
 |15,_=>simp only[FC];rw[h 6 bN,h 21 bN];exact id
 |n+16,a=>exact absurd a bu
def aKs{O:Nat->bE->cv}{i:Nat}{T T':Tr}(a:i<16)(h:∀s∈oU.getD i [],T'.get s=T.get s):OC O i T'=OC O i T:=by
 match i,a with
 |0,_=>simp only[OC];rw[h 7 bN]
 |1,_=>rfl
 |2,_=>simp only[OC];rw[h 9 bN]
 |3,_=>rfl
 |4,_=>simp only[OC];rw[h 11 bN]
 |5,_=>rfl
 |6,_=>simp only[OC];rw[h 13 bN]
 |7,_=>simp only[OC];rw[h 14 bN]
 |8,_=>simp only[OC];rw[h 15 bN]
 |9,_=>simp only[OC];rw[h 16 bN]
 |10,_=>simp only[OC];rw[h 17 bN]
 |11,_=>simp only[OC];rw[h 18 bN]
 |12,_=>simp only[OC];rw[h 19 bN]
 |13,_=>rfl
 |14,_=>simp only[OC];rw[h 21 bN,h 20 bN]
 |15,_=>rfl
 |n+16,a=>exact absurd a bu
structure pP(E:Env)(L0:cv)(fr sl:Int)(sz:Sl)(O:Nat->bE->cv):Prop where
 tree:∀ {L w},Sep E L w->Calls P Bq #[] w (cA λv w'=>n3 v/\Sep E (O 0 v++L) w')
 cx:∀ {L w},Sep E L w->Calls P uG #[Iv fr] w (cA λv w'=>vB v/\Sep E (O 1 v++L) w')
 cT:∀ {L w},Sep E L w->Calls P uG #[Iv sl] w (cA λv w'=>vB v/\Sep E (O 2 v++L) w')
 files:∀ {R w},Sep E (R++L0) w->Calls P Br #[Sv sz] w (cA λv w'=>n3 v/\Sep E (O 3 v++(R++L0)) w')
 bX:∀ {L w},Sep E L w->Calls P Bs #[] w (cA λv w'=>n3 v/\Sep E (O 4 v++L) w')
 log:∀ {L w},Sep E L w->Calls P Bt #[] w (cA λv w'=>n3 v/\Sep E (O 5 v++L) w')
 bt:∀ {L w},Sep E L w->Calls P Bu #[] w (cA λv w'=>n3 v/\Sep E (O 6 v++L) w')
 kept:∀ {L w b},Sep E (cE b (Value.int .i64) (λ_=>none)::L) w->Sep E (O 7 (.map (some b))++L) w
 guards:∀ {L w b},Sep E (bC b [Iv 0,Iv 0,.bool false]::L) w->Sep E (O 8 (.slice (some ⟨b,0,none⟩) 1 1)++L) w
 up:∀ {L w b},Sep E (bC b [Iv (-1)]::L) w->Sep E (O 9 (.slice (some ⟨b,0,none⟩) 1 1)++L) w
def hT(T:Tr)(d:Nat)(v:bE)(h:d<8000):(T.put (some d) v).get d=v:=by rw[Tr.dI _ _ _ _ h,bL rfl]
def ly(T:Tr){d s:Nat}(v:bE)(h:d<8000)(a:s≠d):(T.put (some d) v).get s=T.get s:=by rw[Tr.dI _ _ _ _ h,bJ a]
def aFC{α:Type _}(A L:bA α)(x:α):((A++[x])++L).Perm (x::(A++L)):=by
 rw[dm];exact jc
def aDw{fr sl:Int}{sz:Sl}{O:Nat->bE->cv}(H:pP E L fr sl sz O)(h:Sep E L w):Calls P Bn #[Iv fr,Iv sl,Sv sz] w (cA λv w'=>
  ∃b t G b1 J I b2 K f g lg pg m gs up,v=Pb b/\Sep E (bC b (vz t G b1 J I b2 K f g lg pg m gs up)::
   (O 0 (.pointer t)++(O 1 (.agg #[.pointer G,.pointer b1,.pointer J])++(O 2 (.agg #[.pointer I,.pointer b2,.pointer K])++(O 3 (.pointer f)++(O 4 (.pointer g)++(O 5 (.pointer lg)++(O 6 (.pointer pg)++(O 7 (.map m)++
    (O 8 (Sv gs)++(O 9 (Sv up)++L))))))))))) w'):=by
 refine AK (τ:=fF) (ρ:=gL) (cz:=cz) (A:=rv) mixed func34 aB4 ?_;rw[aCd];refine Dr.i h (λan h1=>?_);refine aHO (λT=>T.get 0=Iv fr/\T.get 1=Iv sl/\T.get 2=Sv sz) (FC fr sl sz) (OC O) aA8 ?_ ?_ ?_ ?_ ?_ ?_ h1
 ·rintro T i v r ⟨e0,ae,af⟩;rw[vy]at r;have ai:=EN r;have:∀d∈lx,d<8000/\0≠d/\1≠d/\2≠d:=by decide
  obtain⟨k,k0,aj,ak⟩:=this _ (eH ai.symm);rw[ly _ _ k k0,ly _ _ k aj,ly _ _ k ak];exact⟨e0,ae,af⟩
 ·intro i j T v r s N hw;rw[vy]at r s;exact aKr r (Ry r s N hw)
 ·intro i j T v r s N hw;rw[vy]at r s;exact aKs r (Ry r s N hw)
 ·intro T w i o R hx ho Y q next hn
  have r:i<16:=by rw[<- vy];exact(oZ.1 ho).1
  have ad:EB i=o:=by unfold EB;rw[ho];rfl
  have l:∀j,yI gZ i j=true->FC fr sl sz j T:=by
   intro j s;obtain⟨am,W,e,he,hb,rfl⟩:=Rx s;rw[ho]at W;cases W;exact Y e he hb
  subst ad
  match i,r with
  |0,_=>
   rw[kU (d:=7) rfl]at hn;refine(ED T next _).mpr ?_;refine use (H.tree q) ?_;rintro _ w2 ⟨⟨p,rfl⟩,h2⟩;refine⟨p,rfl,hn _ _ ?_ ?_⟩;·simp only[FC];rw[hT _ _ _ bN];exact⟨p,rfl⟩
   ·simp only[OC];rw[hT _ _ _ bN];exact h2
  |1,_=>
   rw[kU (d:=8) rfl]at hn;refine(EE T next _).mpr ?_;refine hn _ _ ?_ q;simp only[FC];rw[hT _ _ _ bN];exact hx.1
  |2,_=>
   rw[kU (d:=9) rfl]at hn;have e:T.get 8=Iv fr:=l 1 (by decide+kernel);refine(EF T next _).mpr ?_;rw[e];refine use (H.cx q) ?_;rintro _ w2 ⟨⟨a,b,c,rfl⟩,h2⟩;refine⟨a,b,c,rfl,hn _ _ ?_ ?_⟩;·simp only[FC];rw[hT _ _ _ bN];exact⟨a,b,c,rfl⟩
   ·simp only[OC];rw[hT _ _ _ bN];exact h2
  |3,_=>
   rw[kU (d:=10) rfl]at hn;refine(EG T next _).mpr ?_;refine hn _ _ ?_ q;simp only[FC];rw[hT _ _ _ bN];exact hx.2.1
  |4,_=>
   rw[kU (d:=11) rfl]at hn;have e:T.get 10=Iv sl:=l 3 (by decide+kernel);refine(EH T next _).mpr ?_;rw[e];refine use (H.cT q) ?_;rintro _ w2 ⟨⟨a,b,c,rfl⟩,h2⟩;refine⟨a,b,c,rfl,hn _ _ ?_ ?_⟩;·simp only[FC];rw[hT _ _ _ bN];exact⟨a,b,c,rfl⟩
   ·simp only[OC];rw[hT _ _ _ bN];exact h2
  |5,_=>
   rw[kU (d:=12) rfl]at hn;refine(EI T next _).mpr ?_;refine hn _ _ ?_ q;simp only[FC];rw[hT _ _ _ bN];exact hx.2.2
  |6,_=>
   rw[kU (d:=13) rfl]at hn;have e:T.get 12=Sv sz:=l 5 (by decide+kernel);refine(EJ T next _).mpr ?_;rw[e];refine use (H.files q) ?_;rintro _ w2 ⟨⟨p,rfl⟩,h2⟩;refine⟨p,rfl,hn _ _ ?_ ?_⟩;·simp only[FC];rw[hT _ _ _ bN];exact⟨p,rfl⟩
   ·simp only[OC];rw[hT _ _ _ bN];exact h2
  |7,_=>
   rw[kU (d:=14) rfl]at hn;refine(EK T next _).mpr ?_;refine use (H.bX q) ?_;rintro _ w2 ⟨⟨p,rfl⟩,h2⟩;refine⟨p,rfl,hn _ _ ?_ ?_⟩;·simp only[FC];rw[hT _ _ _ bN];exact⟨p,rfl⟩
   ·simp only[OC];rw[hT _ _ _ bN];exact h2
  |8,_=>
   rw[kU (d:=15) rfl]at hn;refine(EL T next _).mpr ?_;refine use (H.log q) ?_;rintro _ w2 ⟨⟨p,rfl⟩,h2⟩;refine⟨p,rfl,hn _ _ ?_ ?_⟩;·simp only[FC];rw[hT _ _ _ bN];exact⟨p,rfl⟩
   ·simp only[OC];rw[hT _ _ _ bN];exact h2
  |9,_=>
   rw[kU (d:=16) rfl]at hn;refine(EM T next _).mpr ?_;refine use (H.bt q) ?_;rintro _ w2 ⟨⟨p,rfl⟩,h2⟩;refine⟨p,rfl,hn _ _ ?_ ?_⟩;·simp only[FC];rw[hT _ _ _ bN];exact⟨p,rfl⟩
   ·simp only[OC];rw[hT _ _ _ bN];exact h2
  |10,_=>
   rw[kU (d:=17) rfl]at hn;refine(aKE T next _).mpr ?_;refine cE.new (enc:=Value.int .i64) q (λb w2 h2=>hn _ _ ?_ ?_);·simp only[FC];rw[hT _ _ _ bN];exact⟨some b,rfl⟩
   ·simp only[OC];rw[hT _ _ _ bN];exact H.kept h2
  |11,_=>
   rw[kU (d:=18) rfl]at hn;refine(aKF T next _).mpr ?_;refine makeSlice.i q (by kernel_rfl:hi P sk=some (24,3,[Iv 0,Iv 0,.bool false])) bN (g3 _) bN bN (λb w2 h2=>hn _ _ ?_ ?_);·simp only[FC];rw[hT _ _ _ bN];exact⟨⟨some ⟨b,0,none⟩,1,1⟩,rfl⟩
   ·simp only[OC];rw[hT _ _ _ bN];exact H.guards h2
  |12,_=>
   rw[kU (d:=19) rfl]at hn;refine(aKG T next _).mpr ?_;refine Al.i q (λb w2 h2=>hn _ _ ?_ ?_);·simp only[FC];rw[hT _ _ _ bN];exact⟨⟨some ⟨b,0,none⟩,1,1⟩,rfl⟩
   ·simp only[OC];rw[hT _ _ _ bN];exact H.up h2
  |13,_=>
   rw[kU (d:=20) rfl]at hn;obtain⟨t,Q⟩:=l 0 (by decide+kernel);obtain⟨G,b1,J,S⟩:=l 2 (by decide+kernel);obtain⟨I,b2,K,u⟩:=l 4 (by decide+kernel);obtain⟨f,x⟩:=l 6 (by decide+kernel);obtain⟨g,y⟩:=l 7 (by decide+kernel);obtain⟨lg,z⟩:=l 8 (by decide+kernel);obtain⟨pg,B⟩:=l 9 (by decide+kernel);obtain⟨m,C⟩:=l 10 (by decide+kernel);obtain⟨gs,D⟩:=l 11 (by decide+kernel);obtain⟨up,F⟩:=l 12 (by decide+kernel);refine(aKH T next _).mpr ?_;rw[Q,S,u,x,y,z,B,C,D,F,aE7];refine hn _ _ ?_ q;simp only[FC];rw[hT _ _ _ bN];have k:(20:Nat)<8000:=by decide
   rw[ly _ _ k bN,ly _ _ k bN,ly _ _ k bN,ly _ _ k bN,ly _ _ k bN,ly _ _ k bN,ly _ _ k bN,ly _ _ k bN,ly _ _ k bN,ly _ _ k bN];exact⟨t,G,b1,J,I,b2,K,f,g,lg,pg,m,gs,up,Q,S,u,x,y,z,B,C,D,F,rfl⟩
  |14,_=>
   rw[kU (d:=21) rfl]at hn;refine(aKI T next _).mpr ?_;refine Al.i q (λb w2 h2=>hn _ _ ?_ ?_);·simp only[FC];rw[hT _ _ _ bN];exact⟨b,rfl⟩
   ·simp only[OC];rw[hT _ _ _ bN,ly _ _ bN bN];exact Sep.ex.2 ⟨b,Sep.cG.2 ⟨rfl,h2⟩⟩
  |15,_=>
   rw[kU (d:=6) rfl]at hn;refine(aKJ T next _).mpr ?_;refine hn _ _ ?_ q;simp only[FC];rw[hT _ _ _ bN,ly _ _ bN bN]
  |n+16,r=>exact absurd r bu
 ·intro T w2 M hx U ah hp;rw[aAB];rw[vy]at U hp;obtain⟨t,G,b1,J,I,b2,K,f,g,lg,pg,m,gs,up,Q,S,u,x,y,z,B,C,D,F,Z⟩:=U 13 bN;obtain⟨b,V⟩:=U 14 bN;have ag:T.get 6=T.get 21:=U 15 bN;rw[ag,V];refine⟨b,t,G,b1,J,I,b2,K,f,g,lg,pg,m,gs,up,rfl,?_⟩;have aa:=ah.perm (rF L hp);have e:((List.range 16).flatMap λi=>OC O i T)=(O 0 (T.get 7)++(O 1 (T.get 9)++(O 2 (T.get 11)++(O 3 (T.get 13)++(O 4 (T.get 14)++(O 5 (T.get 15)++(O 6 (T.get 16)++(O 7 (T.get 17)++(O 8 (T.get 18)++O 9 (T.get 19))))))))))++[vA (T.get 21) (T.get 20)]:=by
   rw[show List.range 16= [0,1,2,3,4,5,6,7,8,9,10,11,12,13,14,15]from rfl];simp only[nN,List.flatMap_nil,hs,l3,OC,dm]
  rw[e,Q,S,u,x,y,z,B,C,D,F,Z,V]at aa;have ab:=aa.perm (aFC _ _ _);simp only[dm]at ab;obtain⟨al,X⟩:=Sep.ex.1 ab;obtain⟨hb,X⟩:=Sep.cG.1 X;cases hb;exact X
 ·refine⟨by kernel_rfl,by kernel_rfl,by kernel_rfl⟩
end Go.Mp
namespace Go.Mp
open Go Go.Vc Go.Sp Go.Proofs Go.Kc
variable{E:Env}{L:cv}{w:bH}{A:At}{S:Cs}
def aEV(h:Sep E L w):Calls P Bq #[] w (cA λv w'=>∃t,v=Pb t/\Sep E (dR t Kt.new::L) w'):=by
 apply VH;unfold Ki;refine Al.i h (λa e h1=>Al.i h1 (λb w2 h2=>⟨b,rfl,dR.mk (s:=⟨some ⟨a,0,none⟩,1,1⟩) rfl ?_⟩));have d:Sep E (bC a ([Iv (-1),.bool true]++[])::bC b [.slice (some ⟨a,0,none⟩) 1 1]::L) w2:=h2.swap;exact(bw.make (spare:=[]) (n:=1) (c:=1) (m:=2) d rfl rfl (ep _)).swap
def oV(v:bE)(s:fa):Asn:=fe λp:Nat=>fe λb:Nat=>fe λu:Nat=>cG (v=.agg #[Pb p,Pb b,Pb u]) (star (ga p s.bS) (star (gf b s.bS.length s.dd) (da u s.used)))
def Rz(n:Int)(h:Sep E L w):Calls P uG #[Iv n] w (cA λv w'=>vB v/\Sep E (oV v (gy n)::L) w'):=by
 apply VI;unfold Kj qP qR qU;refine Al.i h (λq j h1=>use (Za n h1) ?_);rintro _ w2 ⟨p,rfl,h2⟩;refine⟨_,rfl,use (aBP n h2) ?_⟩;rintro _ k ⟨b,rfl,d⟩;refine⟨_,rfl,use (aAe d) ?_⟩;rintro _ l ⟨u,rfl,f⟩;refine⟨_,rfl,ew (vs:=[Pb p,Pb b,Pb u]) _ (f.fr 3 rfl) rfl (λc a=>?_)⟩;refine ld a 0 rfl rfl rfl (ld a 0 rfl rfl rfl (ld a 0 rfl rfl rfl ⟨⟨_,_,_,rfl⟩,?_⟩));have g:Sep E (ga p (iF n)::gf b (min (max n 0).toNat 1024) (List.replicate (16*min (max n 0).toNat 1024) 0)::da u me::L) c:=a.tail.ro 3 [2,1,0] rfl;refine Sep.ex.2 ⟨p,Sep.ex.2 ⟨b,Sep.ex.2 ⟨u,Sep.cG.2 ⟨rfl,Sep.star.2 ?_⟩⟩⟩⟩;have e:(iF n).length=min (max n 0).toNat 1024:=by simp[iF]
 have i:Sep E (star (gf b (min (max n 0).toNat 1024) (List.replicate (16*min (max n 0).toNat 1024) 0)) (da u me)::ga p (iF n)::L) c:=Sep.star.2 (g.ro 3 [1,2,0] rfl);rw[show(gy n).bS.length=min (max n 0).toNat 1024 from e];exact i.swap
def gC(f:Nat->Asn)(v:bE):Asn:=fe λb:Nat=>cG (v=Pb b) (f b)
def EO(fr sl:Int)(l:bR):Nat->bE->cv
 |0,v=>[gC (λt=>dR t Kt.new) v]
 |1,v=>[oV v (gy fr)]
 |2,v=>[oV v (gy sl)]
 |3,v=>[gC (λb=>iA b (gT l)) v]
 |4,v=>[gC (λb=>Gp.fm b []) v]
 |5,v=>[gC (λb=>fG b (List.replicate 64 0)) v]
 |6,v=>[gC (λb=>Tp.c5 b TS.zero) v]
 |7,v=>[fe λm:Nat=>cG (v=.map (some m)) (nJ m (λ_=>none))]
 |8,v=>[fe λs:Sl=>cG (v=Sv s) (iL s [⟨0,0,false⟩])]
 |9,v=>[fe λs:Sl=>cG (v=Sv s) (jq s Kt.new)]
 |_,_=>[]
def parts{fr sl:Int}{sz:Sl}{l:bR}(d:Ints E L sz l)(a:sz.n<=sz.c):pP E L fr sl sz (EO fr sl l) where
 tree:=λh=>use (aEV h) (by rintro _ w' ⟨t,rfl,h'⟩;exact⟨_,rfl,⟨_,rfl⟩,Sep.ex.2 ⟨t,Sep.cG.2 ⟨rfl,h'⟩⟩⟩)
 cx:=λh=>Rz fr h
 cT:=λh=>Rz sl h
 files:=λ{R w} h=>use (aDx (d.of (λ_ f=>Sep.right (Q:=R) f)) a h) (by rintro _ w' ⟨t,rfl,h'⟩;exact⟨_,rfl,⟨_,rfl⟩,Sep.ex.2 ⟨t,Sep.cG.2 ⟨rfl,h'⟩⟩⟩)
 bX:=λh=>use (Gp.vo h) (by rintro _ w' ⟨t,rfl,h'⟩;exact⟨_,rfl,⟨_,rfl⟩,Sep.ex.2 ⟨t,Sep.cG.2 ⟨rfl,h'⟩⟩⟩)
 log:=λh=>use (aBR h) (by rintro _ w' ⟨t,rfl,h'⟩;exact⟨_,rfl,⟨_,rfl⟩,Sep.ex.2 ⟨t,Sep.cG.2 ⟨rfl,h'⟩⟩⟩)
 bt:=λh=>use (Tp.vo h) (by rintro _ w' ⟨t,rfl,h'⟩;exact⟨_,rfl,⟨_,rfl⟩,Sep.ex.2 ⟨t,Sep.cG.2 ⟨rfl,h'⟩⟩⟩)
 kept:=λ{L w b} h=>Sep.ex.2 ⟨b,Sep.cG.2 ⟨rfl,Sep.cG.2 ⟨λ_ _ e=>(by cases e),h⟩⟩⟩
 guards:=λ{L w b} h=>Sep.ex.2 ⟨⟨some ⟨b,0,none⟩,1,1⟩,Sep.cG.2 ⟨rfl,Sep.cG.2 ⟨rfl,bw.make (spare:=[]) (n:=1) (c:=1) (m:=3) h rfl rfl (ep _)⟩⟩⟩
 up:=λ{L w b} h=>Sep.ex.2 ⟨⟨some ⟨b,0,none⟩,1,1⟩,Sep.cG.2 ⟨rfl,Sep.cG.2 ⟨rfl,bw.make (spare:=[]) (n:=1) (c:=1) (m:=1) h rfl rfl (ep _)⟩⟩⟩
def gC.open{f:Nat->Asn}{v:bE}(h:Sep E (gC f v::L) w):∃b,v=Pb b/\Sep E (f b::L) w:=by
 obtain⟨b,h⟩:=Sep.ex.1 h;obtain⟨a,h⟩:=Sep.cG.1 h;exact⟨b,a,h⟩
def oV.open{s:fa}{v:bE}(h:Sep E (oV v s::L) w):∃p b u,v=.agg #[Pb p,Pb b,Pb u]/\Sep E (ga p s.bS::gf b s.bS.length s.dd::da u s.used::L) w:=by
 obtain⟨p,h⟩:=Sep.ex.1 h;obtain⟨b,h⟩:=Sep.ex.1 h;obtain⟨u,h⟩:=Sep.ex.1 h;obtain⟨a,h⟩:=Sep.cG.1 h;have h1:=Sep.star.1 h;have h2:=Sep.star.1 (h1.fr 1 rfl);exact⟨p,b,u,a,h2.ro 3 [2,0,1] rfl⟩
def RA{s s':Sl}(h:Value.slice s.p s.n s.c=.slice s'.p s'.n s'.c):s=s':=by
 obtain⟨a,b,c⟩:=s;obtain⟨d,e,f⟩:=s';injection h with h1 h2 g
 simp only at h1 h2 g;rw[h1,h2,g]
def vo{fr sl:Int}{sz:Sl}{l:bR}{o:cb Obj}(T:Ints E (eg o::L) sz l)(q:sz.n<=sz.c)(h:Sep E (eg o::L) w):Calls P Bn #[Iv fr,Iv sl,Sv sz] w
  (cA λv w'=>∃A:At,v=Pb A.c/\A.o=o/\Sep E (cg A (Kc.new fr sl l)++L) w'):=by
 refine use (aDw (parts T q) h) ?_;rintro _ K ⟨b,t,B,b1,D,C,b2,F,f,g,lg,pg,m,gs,up,rfl,h1⟩;have h1:Sep E (bC b (vz t B b1 D C b2 F f g lg pg m gs up)::gC (λt=>dR t Kt.new) (.pointer t)::oV (.agg #[.pointer B,.pointer b1,.pointer D]) (gy fr)::oV (.agg #[.pointer C,.pointer b2,.pointer F]) (gy sl)::
  gC (λb=>iA b (gT l)) (.pointer f)::gC (λb=>Gp.fm b []) (.pointer g)::gC (λb=>fG b (List.replicate 64 0)) (.pointer lg)::gC (λb=>Tp.c5 b TS.zero) (.pointer pg)::
  (fe λc:Nat=>cG ((.map m:bE)=.map (some c)) (nJ c (λ_=>none)))::(fe λs:Sl=>cG ((Sv gs:bE)=Sv s) (iL s [⟨0,0,false⟩]))::(fe λs:Sl=>cG ((Sv up:bE)=Sv s) (jq s Kt.new))::eg o::L) K:=h1
 obtain⟨x,V,h2⟩:=gC.open (h1.fr 1 rfl);obtain⟨r,u,y,G,M⟩:=oV.open (h2.fr 2 rfl);obtain⟨p2,q2,z,H,N⟩:=oV.open (M.fr 5 rfl);obtain⟨f',hf,O⟩:=gC.open (N.fr 8 rfl);obtain⟨n,U,Q⟩:=gC.open (O.fr 9 rfl);obtain⟨j,I,R⟩:=gC.open (Q.fr 10 rfl);obtain⟨k,J,S⟩:=gC.open (R.fr 11 rfl);obtain⟨c,p⟩:=Sep.ex.1 (S.fr 12 rfl);obtain⟨hm,p⟩:=Sep.cG.1 p;obtain⟨W,d⟩:=Sep.ex.1 (p.fr 13 rfl);obtain⟨e,d⟩:=Sep.cG.1 d;obtain⟨X,a⟩:=Sep.ex.1 (d.fr 14 rfl);obtain⟨i,a⟩:=Sep.cG.1 a;have e:=RA e;have i:=RA i;cases V;cases hf;cases U;cases I;cases J;cases hm;simp only[Value.agg.injEq,Array.mk.injEq,List.cons.injEq,Value.pointer.injEq,and_true]at G H;obtain⟨rfl,rfl,rfl⟩:=G;obtain⟨rfl,rfl,rfl⟩:=H;subst e i;refine⟨_,rfl,⟨b,x,r,u,y,p2,q2,z,f',n,j,k,c,gs,up,o⟩,rfl,rfl,?_⟩;have a:Sep E (jq up Kt.new::iL gs [⟨0,0,false⟩]::nJ c (λ_=>none)::Tp.c5 k TS.zero::fG j (List.replicate 64 0)::Gp.fm n []::iA f' (gT l)::ga p2 (gy sl).bS::gf q2 (gy sl).bS.length (gy sl).dd::da z (gy sl).used::
  ga r (gy fr).bS::gf u (gy fr).bS.length (gy fr).dd::da y (gy fr).used::dR x Kt.new::bC b (vz (some ⟨x,0,none⟩) (some ⟨r,0,none⟩) (some ⟨u,0,none⟩) (some ⟨y,0,none⟩) (some ⟨p2,0,none⟩) (some ⟨q2,0,none⟩) (some ⟨z,0,none⟩) (some ⟨f',0,none⟩) (some ⟨n,0,none⟩) (some ⟨j,0,none⟩) (some ⟨k,0,none⟩) (some c) gs up)::eg o::L) K:=a
 exact a.ro 16 [14,13,10,11,12,7,8,9,6,5,4,3,2,1,0,15] rfl
end Go.Mp
namespace Go.Mp
open Go Go.Vc Go.Proofs
variable{K:bg1}{w:bH}
variable(K w)
def RB(cx cT:Int)(bY l:Sl):=
 qF H6 #[] w λn r=>dX n (K aN2 r) (qF H5 #[Iv cx,Iv cT,Sv bY,Sv l] r λQ v=>cond Q (K (.bool n) v) (qR uB #[Iv cx,Iv cT,Sv bY] v λe P=>qO 0 P λo i14 c=>fB i14 l.n (qW l i14 5 λq=>zL c q λz A B C D=>zx pw #[Pv e,.agg #[Iv z,Iv A,Iv B,Iv C,Iv D]] c λR S T s=>(o (i64.wrap (i14+1)) s)) (qJ uD #[Pv e] c λm t=>qO 0 t λp i33 g=>fB i33 m.n (zx pw #[Pv e,.agg #[Iv 11,Iv i33,Iv 0,Iv 0,Iv 0]] g λE F G u=>zW u λf x=>qU [Iv E,Iv F,Sv G] f x λy=>Dr (λb=>qL b f 0 λH=>qW m i33 3 λa44=>qy b a44 2 λI=>cond (!((H==0)==I)) (K aN2 b) ((p (i64.wrap (i33+1)) b))) y) (qR xd #[Pv e] g λa h=>cond a.isNone (K aN2 h) (qj Bm #[Pv a] h λJ L i=>cond n (qJ Bk #[Pv a] i λM j=>cond (((M.n:Nat):Int)==0) (qQ uC #[Pv a,Iv 0] j λN k=>cond (N==0) (qQ xe #[Pv a,Iv 0] k λO d=>cond (O==0) (cond (J==(ea cx 0)) (K (.bool (L==(ea cT 0))) d) (K aN2 d)) (K aN2 d)) (K aN2 k)) (K aN2 j)) (K aN2 i))))))
def RC(cx cT:Int)(bY l:Sl):=
 cond (decide (cx>24)) (K aN3 w) (cond (decide (cT>24)) (K aN3 w) (cond (decide (((bY.n:Nat):Int)>40)) (K aN3 w) (K (.bool (decide (((l.n:Nat):Int)>40))) w)))
def RD:=
 zw w λm w2=>qJ H8 #[Iv 4,Iv 4,aN8,.slice (some m) 5 5] w2 λc L=>qR uB #[Iv 4,Iv 4,aN8] L λb i=>qg (λJ=>cond b.isNone (K aN2 i) (cond (((c.n:Nat):Int) !=5) (K aN2 i) (J i))) λe=>cM (some m) 5 0 5 λj=>zL e j λr s t u v=>zx pw #[Pv b,.agg #[Iv r,Iv s,Iv t,Iv u,Iv v]] e λx y z n=>zW n λd o=>qU [Iv x,Iv y,Sv z] d o λp=>qJ uD #[Pv b] p λh a=>qW c 2 3 λa29=>qL a a29 0 λA=>cond (A==0) (qW c 3 3 λk=>qL a k 1 λB=>cond (B==7) (qW c 4 3 λa33=>qL a a33 1 λC=>cond (C==0) (qW c 4 3 λa35=>qL a a35 0 λD=>cond (D==0) (qL a d 0 λE=>cond (E==0) (cond (((h.n:Nat):Int)==1) (qW h 0 3 λl=>qy a l 2 λF=>cond F (qR uE #[Pv b,Iv 0] a λG f=>cond (!G.isNone) (qR uE #[Pv b,Iv 1] f λH g=>cond H.isNone (qR xd #[Pv b] g λI q=>K (.bool (!I.isNone)) q) (K aN2 g)) (K aN2 f)) (K aN2 a)) (K aN2 a)) (K aN2 a)) (K aN2 a)) (K aN2 a)) (K aN2 a)) (K aN2 a)
variable{K w}
def ang(cx cT bY l)(h:RB K w cx cT bY l):=bM {(z8 [33,34,36,47,48,50,57,63,67,77,78,83,88,93,94,99,100] [] [(8,[(11,jZ)]),(13,[(13,jZ)])]:dO)with head:=λr=>(bif r==16 then 9 else 0)} #[Iv cx,Iv cT,Sv bY,Sv l] K w func13 h
def aoU(cx cT bY l)(h:RC K w cx cT bY l):=bM (z8 [10,13,17,18,22,23]) #[Iv cx,Iv cT,Sv bY,Sv l] K w func16 h
def aok(h:RD K w):=bM (z8 [16,19,20,33,39,46,53,58,62,63,74,79,84] [] [] [(6,[])]) #[] K w func22 h
end Go.Mp
namespace Go.Mp
open Go Go.Vc Go.Sp Go.Proofs Go.Kc
variable{E:Env}{L:cv}{w:bH}{A:At}{S:Cs}
def aGB{T:TS}:T.all.Pairwise (· < ·):=by
 unfold TS.all;rw[kc];exact(Td.filter _).imp (λ{a b} h=>by show(a:Int)<(b:Int);omega)
def lV{T:TS}(b:hA T){x:Int}:x∈T.all↔(T.pg x).isSome=true:=by
 unfold TS.all;rw[fo];constructor
 ·rintro⟨i,a,rfl⟩;rw[gq]at a;exact a.2
 ·intro h;obtain⟨p,hp⟩:=kJ.1 h;have h1:=b.ids _ _ hp;refine⟨x.toNat,gq.2 ⟨fV.2 bu,?_⟩,by show((x.toNat:Nat):Int)=x;omega⟩;rw[show((x.toNat:Nat):Int)=x by omega];exact h
def aJ1(a:Kc.Inv S):Tp.e8 S.bt 16777216:=λk hk=>by
 obtain⟨p,hp⟩:=kJ.1 hk;have:=a.cI.ids _ _ hp;have:=a.ids;omega
def aGH(b:Kc.Inv S)(h:Sep E (cg A S++L) w):Calls P Bk #[Pb A.c] w
  (cA λv w'=>∃s:Sl,v=Sv s/\s.n=S.bt.all.length/\Sep E (cg A S++bw s 1 (bD S.bt.all)::L) w'):=by
 apply Vy;unfold J6 qJ qZ;refine⟨_,rfl,ld h 0 rfl rfl rfl (use (Tp.QG (aJ1 b) bN (h.fr 11 rfl)) ?_)⟩;rintro _ c ⟨s,l,rfl,a,hl,h1⟩;have e:l=S.bt.all:=Gp.yE (r:=(· < · :Int->Int->Prop)) (λx=>Int.lt_irrefl x) (λx y z=>Int.lt_trans) hl.cZ aGB (λk=>by rw[hl.mem,lV b.cI]);subst e;have h1:=h1.hS (q:=11) rfl;exact⟨s,rfl,s,rfl,a,Sep.e4 (Q:=cg A S) h1⟩
def RE:hi P lP=some (1,1,[.bool false]):=by kernel_rfl
def aEr{s:Sl}{q:Nat}{l:bA Bool}{x:Bool}(hn:s.n=l.length)(hb:l.length<1000000)(h:Sep E (bC q [.bool x]::bw s 1 (dZ l)::L) w){G:Sl->bg0}(g:∀s' a,s'.n=l.length+1->Sep E (bw s' 1 (dZ (l++[x]))::L) a->G s' a):
  ∃d:Sl,∃a,Sem.run P (Builtin.append_ #[lP,lP] lP #[Sv s,.slice (some ⟨q,0,none⟩) 1 1]) w=.ok (Sv d) a/\G d a:=by
 have f:=Src.bC (n:=1) (c:=1) h (i:=0) rfl RE rfl (λu hu=>by simp at hu;rw[hu];rfl);have e:dZ (l++[x])=dZ l++[.bool x]:=by simp[dZ]
 refine bw.append h.swap RE rfl f bu (by rw[hn];omega) (λs' a b h1=>?_);refine g s' a (by rw[b,hn]) ?_;rw[e];exact(h1.fr 0 rfl).ro 2 [0] rfl
def aIy(p:Kc.Inv S)(h:Sep E (cg A S++L) w):Calls P Js #[Pb A.c] w
  (cA λv w'=>∃s:Sl,v=Sv s/\s.n=S.guards.length/\Sep E (cg A S++bw s 1 (dZ (S.guards.map eE.whole))::L) w'):=by
 have n:S.guards.length<=64:=by rw[p.gl];exact p.wf.e8
 apply X9;unfold Mn qK qU qW qa qf qx qy;have g:=(iL.open (h.fr 13 rfl)).1;refine⟨_,rfl,A.gs,h.cellAt 0 rfl 12,?_⟩;refine⟨λs i w'=>∃k:Nat,i=k/\k<=S.guards.length/\s.n=k/\Sep E (cg A S++bw s 1 (dZ ((S.guards.take k).map eE.whole))::L) w',λ_ i _=>(S.guards.length-i).toNat,⟨0,rfl,e7 _,rfl,Sep.e4 (bw.none_ h)⟩,?_⟩;rintro _ s _ y ⟨k,rfl,hk,l,h1⟩;refine cX (λt=>?_) (λr=>?_)
 ·have a:k<S.guards.length:=by omega
  obtain⟨x,hx⟩:∃x,S.guards[k]?=some x:=⟨_,dL a⟩
  refine lR eE.mx 0 (iL.open (h1.fr 13 rfl)).2 rfl g rfl hx (λb _ d=>⟨x.min,by rw[cj];exact d 0 _ rfl,x.low,by rw[cj];exact d 1 _ rfl,x.whole,by rw[cj];exact d 2 _ rfl,?_⟩);refine Al.i h1 (λu w2 h2=>ew (vs:=eE.vs x) _ h2 rfl (λz f=>ld f 0 rfl rfl rfl (Al.i f.tail (λq o c=>?_))));have c:Sep E (bC q [.bool x.whole]::bw s 1 (dZ ((S.guards.take k).map eE.whole))::(cg A S++L)) o:=(c.fr 17 rfl).swap;refine aEr (by simp;omega) (by simp;omega) c (λs' B j m=>?_);have e:(S.guards.take (k+1)).map eE.whole=(S.guards.take k).map eE.whole++[x.whole]:=by rw[fL hx,kK];rfl
  rw[de];refine⟨⟨k+1,rfl,a,by rw[j];simp;omega,by rw[e];exact Sep.e4 (Q:=cg A S) m⟩,?_⟩;show(((S.guards.length:Nat):Int)-((k+1:Nat):Int)).toNat<(((S.guards.length:Nat):Int)-(k:Int)).toNat;omega
 ·have:k=S.guards.length:=by omega
  subst this;rw[gg]at h1;exact⟨s,rfl,l,h1⟩
end Go.Mp
namespace Go.Kw
def Pr.vs(x:Pr):bA bE:=[Iv x.g,Iv x.size,.bool x.live]
def Pr.mx(x:Pr):x.vs.length=3:=rfl
def EP(v:Int):∀l:bR,kq v l<=l.length
 |[]=>ep _
 |x::r=>by unfold kq;have:=EP v r;split<;>simp;omega
def RF{v:Int}:∀ {l:bR} {k:Nat},l[k]?=some v->(∀j y,j<k->l[j]?=some y->v≠y)->kq v l=k
 |y::r,0,h,_=>by simp at h;subst h;unfold kq;rw[bL rfl]
 |y::r,k+1,h,a=>by
  unfold kq;rw[bJ (a 0 y bu rfl),RF (l:=r) (k:=k) (by simpa using h) λj z c b=>a (j+1) z bu (by simpa using b)]
def RG{v:Int}:∀ {l:bR},(∀(j:Nat) y,l[j]?=some y->v≠y)->kq v l=l.length
 |[],_=>rfl
 |y::r,h=>by
  unfold kq;rw[bJ (h 0 y rfl),RG (l:=r) λj z a=>h (j+1) z (by simpa using a)];rfl
end Go.Kw
namespace Go.Mp
open Go Go.Vc Go.Sp Go.Proofs Go.Kc Go.Kv Go.Kw Go.Kt
variable{E:Env}{L:cv}{w W:bH}
def RH{s:Sl}{l:bR}(c:Ints E L s l)(hb:l.length<1000000)(v:Int)(h:Sep E L w):Calls P uP #[Sv s,Iv v] w (cY E (Iv (if kq v l<l.length then(kq v l:Int)else -1)) L):=by
 have hn:=c.1;apply C9;unfold x2 qD qO qW;refine⟨λi w'=>∃k:Nat,i=k/\k<=l.length/\(∀j y,j<k->l[j]?=some y->v≠y)/\Sep E L w',λi _=>(l.length-i).toNat,⟨0,rfl,e7 _,λj y d=>absurd d bu,h⟩,?_⟩;rintro _ _ o ⟨k,rfl,hk,a,h1⟩;refine cX (λn=>?_) (λm=>?_)
 ·obtain⟨x,hx⟩:∃x,l[k]?=some x:=⟨_,dN⟩
  refine c.el h1 k rfl hx (eX (λhe=>⟨?_,h1⟩) (λg=>⟨⟨k+1,de,bu,λj y d b=>?_,h1⟩,?_⟩))
  ·subst he;rw[RF hx a,eJ]
  ·rcases hN j k with e|e;·exact a j y e b
   ·have:j=k:=by omega
    subst this;rw[hx]at b;cases b;exact g
  ·rw[de];dsimp only;omega
 ·have f:k=l.length:=by omega
  subst f;refine⟨?_,h1⟩;rw[RG λj y b=>a j y (c4.1 b).1 b,cF]
def ER{s:Sl}{l:bR}(a:Ints E L s l)(hb:l.length<1000000)(v:Int)(h:Sep E L w):Calls P py #[Sv s,Iv v] w (cY E (.bool (l.contains v)) L):=by
 apply C4;unfold x1 qQ;refine use (RH a hb v h) ?_;rintro _ d ⟨rfl,h1⟩;refine⟨_,rfl,?_,h1⟩;have hle:=EP v l;have key:∀l:bR,(kq v l<l.length)↔v∈l:=by
  intro l;induction l with
  |nil=>simp[kq]
  |cons x r c=>
   unfold kq;by_cases e:v=x;·simp[e]
   ·simp[e,c]
 by_cases hm:v∈l
 ·rw[bL ((key l).2 hm),kX.2 hm];exact eK Value.bool (dE bu)
 ·rw[bJ λe=>hm ((key l).1 e)];have:l.contains v=false:=by cases b:l.contains v with|false=>rfl|true=>exact absurd (kX.1 b) hm
  rw[this];rfl
def js(s:Sl)(l:bA Pr):Asn:=bw s 3 (bP Pr.vs l)
def vC{s:Sl}{l:bA Pr}{i:Int}{k:Nat}{x:Pr}{F:Addr->Int->Int->Bool->Prop}(q:Nat)(h:Sep E L w)(j:L[q]?=some (js s l))(hn:s.n=l.length)(g:i=k)(hx:l[k]?=some x)(m:∀a,F a x.g x.size x.live):
  cM s.p s.n i 3 λa=>∃d:Int,w.cell? (a.add 0)=some (Iv d)/\∃e:Int,w.cell? (a.add 1)=some (Iv e)/\∃f:Bool,w.cell? (a.add 2)=some (.bool f)/\F a d e f:=
 lR Pr.mx q h j hn g hx (λb _ c=>⟨_,by rw[cj];exact c 0 _ rfl,_,by rw[cj];exact c 1 _ rfl,_,by rw[cj];exact c 2 _ rfl,m _⟩)
def aJK{s i:Sl}{l:bA Pr}{ins:bR}{q:Nat}(F:L[q]?=some (js s l))(hn:s.n=l.length)(hb:l.length<1000000)(C:Ints E L i ins)(t:ins.length<1000000)(h:Sep E L w):
  Calls P JA #[Sv s,Sv i] w (cY E (Iv (pick l ins)) L):=by
 apply ayb;unfold Oh qC qF qI qL qU qW qa zz;refine Al.i h (λd N h1=>Al.i h1 (λf w2 h2=>St.i h2 (by show 0<1;decide) (λG o=>?_)));have o:Sep E (bC f [Iv 0]::bC d [Sv i]::L) G:=o;refine⟨λa x w'=>∃(k:Nat) (m:Int),x=k/\k<=l.length/\mW ins k (a,m) (l.drop k)=mW ins 0 (-1,0) l/\Sep E (bC f [Iv m]::bC d [Sv i]::L) w',λ_ x _=>(l.length-x).toNat,⟨0,0,rfl,e7 _,rfl,o⟩,?_⟩;rintro _ a _ O ⟨k,m,rfl,hk,he,p⟩;refine cX (λM=>?_) (λJ=>?_)
 ·obtain⟨x,hx⟩:∃x,l[k]?=some x:=⟨_,dN⟩
  have D:l.drop k=x::l.drop (k+1):=by
   have n:=(c4.1 hx).1;rw[lD n];rw[dL n]at hx;rw[cU hx]
  rw[D]at he;simp only[mW]at he;refine vC (q+2) p F hn rfl hx (λ_=>Al.i p (λr Q A=>ew _ A rfl (λH c=>?_)));have c:Sep E (bC r x.vs::bC f [Iv m]::bC d [Sv i]::L) H:=c;refine ld c 0 rfl rfl rfl (ld c 0 rfl rfl rfl (ld c 0 rfl rfl rfl (use (K:=λv w'=>v=.bool (decide (x.live=true/\m<x.size/\ins.contains x.g=true))/\Sep E (bC r x.vs::bC f [Iv m]::bC d [Sv i]::L) w') ?_ ?_)))
  ·apply avF;unfold Ot qD qF qL qc qy;refine Al.i c (λz y b=>?_);have b:Sep E (bC z x.vs::bC r x.vs::bC f [Iv m]::bC d [Sv i]::L) y:=b;refine ld b 0 rfl rfl rfl (cw (λhl=>ld b 0 rfl rfl rfl (ld b 2 rfl rfl rfl (gn (λu=>⟨i,b.cellAt 3 rfl 0,ld b 0 rfl rfl rfl (use (ER C.cons.cons.cons.cons t x.g b) ?_)⟩) (λu=>⟨?_,b.tail⟩)))) (λhl=>⟨?_,b.tail⟩))
   ·rintro _ I ⟨rfl,g⟩;refine⟨_,rfl,?_,g.tail⟩;congr 1;cases j:ins.contains x.g with
    |true=>rw[dE ⟨hl,u,rfl⟩]
    |false=>rw[di λe=>by cases e.2.2]
   ·rw[di λe=>bu]
   ·rw[di λe=>by rw[hl]at e;cases e.1]
  ·rintro _ y ⟨rfl,b⟩;refine⟨_,rfl,cw (λj=>Dr.i b (λI g=>ld g 0 rfl rfl rfl ?_)) (λj=>⟨⟨k+1,m,de,bu,?_,b.tail⟩,?_⟩)⟩
   ·refine St.i (g.ro 3 [1,0,2] rfl) (by show 0<1;decide) (λR B=>⟨⟨k+1,x.size,de,bu,?_,B.ro 3 [0,2] rfl⟩,?_⟩);·rw[bL (mG j)]at he;exact he
    ·rw[de];dsimp only;omega
   ·rw[bJ (kb j)]at he;exact he
   ·rw[de];dsimp only;omega
 ·have:k=l.length:=by omega
  subst this;rw[we]at he;refine⟨?_,p.tail.tail⟩;unfold pick;rw[<- he];rfl
def aGL{s wl:Sl}{a:bR}{wh:bA Bool}{q:Nat}(o:Ints E L s a)(hb:a.length<1000000)(z:L[q]?=some (bw wl 1 (dZ wh)))(hn:wl.n=wh.length)(t:Int)(h:Sep E L w):
  Calls P JB #[Sv s,Iv t,Sv wl] w (cY E (Iv (whole a t wh)) L):=by
 apply aw5;unfold Oq qD qF qO qQ qW;refine Al.i h (λp C h1=>use (RH o.cons hb t h1) ?_);rintro _ w2 ⟨rfl,h2⟩;refine⟨_,rfl,λx w'=>∃k:Nat,x=(k:Int)-1/\k<=a.length/\wU a wh k=whole a t wh/\Sep E (bC p [Sv wl]::L) w',λx _=>(x+1).toNat,?_,?_⟩
 ·have hle:=EP t a;by_cases i:kq t a<a.length;·exact⟨kq t a+1,by rw[bL i];omega,bu,by unfold whole;rw[bL i],h2⟩
  ·exact⟨0,by rw[bJ i];rfl,bu,by unfold whole;rw[bJ i];rfl,h2⟩
 rintro _ _ D ⟨k,rfl,hk,he,d⟩;refine hD (λA=>?_) (λB=>?_)
 ·obtain⟨j,rfl⟩:∃j,k=j+1:=⟨k-1,bu⟩
  have y:((j+1:Nat):Int)-1=(j:Int):=by omega
  rw[y];obtain⟨g,r⟩:∃g,a[j]?=some g:=⟨_,dN⟩
  have u:a.getD j 0=g:=by rw[dT,r];rfl
  simp only[wU,u]at he;refine o.cons.el d j rfl r (use (K:=λv w'=>v=.bool (decide (0<=g/\wh.getD g.toNat false=true))/\Sep E (bC p [Sv wl]::L) w') ?_ ?_)
  ·apply aul;unfold Ou qW qc qm;refine h4 (λm=>⟨wl,d.cell 0,cX (λh1=>⟨wl,d.cell 0,?_⟩) (λh1=>⟨?_,d⟩)⟩) (λm=>⟨?_,d⟩)
   ·obtain⟨b,l⟩:∃b,wh[g.toNat]?=some b:=⟨_,dN⟩
    refine bw.el (q+1) d z m h1 (λc _ f=>⟨b,?_,?_,d⟩)
    ·have:=f 0 bu;rw[k1]at this;rw[this,fM];simp[dZ,l]
    ·rw[dT,l];cases b with
     |true=>rw[dE ⟨m,rfl⟩]
     |false=>rw[di λe=>by cases e.2]
   ·rw[di λe=>by
     have:=e.2;rw[dT,g2 bu]at this;cases this]
   ·rw[di λe=>bu]
  ·rintro _ F ⟨rfl,n⟩;refine⟨_,rfl,cw (λf=>o.cons.el n j rfl r ⟨?_,n.tail⟩) (λf=>⟨⟨j,?_,bu,?_,n⟩,?_⟩)⟩;·rw[bL (mG f)]at he;rw[he]
   ·exact cR bu bu
   ·rw[bJ (kb f)]at he;exact he
   ·rw[cR bu bu];dsimp only;omega
 ·have:k=0:=by omega
  subst this;exact⟨by rw[<- he];rfl,d.tail⟩
end Go.Mp
namespace Go.Kw
def ES:∀ {l:bA Pr} {ins:bR} {i a m:Int},(mW ins i (a,m) l).1=a\/(i<=(mW ins i (a,m) l).1/\(mW ins i (a,m) l).1<i+l.length)
 |[],_,_,_,_=>.inl rfl
 |p::r,ins,i,a,m=>by
  unfold mW;split
  ·rcases ES (l:=r) (ins:=ins) (i:=i+1) (a:=i) (m:=p.size)with h|h;·right;simp only[hI];omega
   ·right;simp only[hI];omega
  ·rcases ES (l:=r) (ins:=ins) (i:=i+1) (a:=a) (m:=m)with h|h;·exact .inl h
   ·right;simp only[hI];omega
def aJa{l:bA Pr}{ins:bR}(h:0<=pick l ins):pick l ins<l.length:=by
 unfold pick at h ⊢;rcases ES (l:=l) (ins:=ins) (i:=0) (a:= -1) (m:=0)with e|e<;>omega
def RI(ins:bR):∀(l r:bA Pr) (i:Int),ih ins i (l++r)=ih ins i l++ih ins (i+l.length) r
 |[],r,i=>by simp[ih]
 |p::l,r,i=>by
  have:=RI ins l r (i+1);rw[o4,ih,ih,this];have e:i+1+(l.length:Int)=i+((p::l).length:Int):=by simp only[hI];omega
  rw[e];split<;>simp
def yJ(ins:bR):∀(l:bA Pr) (i:Int),(ih ins i l).length<=l.length
 |[],_=>ep _
 |p::l,i=>by
  have:=yJ ins l (i+1);unfold ih;split<;>simp<;>omega
end Go.Kw
namespace Go.Mp
open Go Go.Vc Go.Sp Go.Proofs Go.Kc Go.Kv Go.Kw Go.Kt
variable{E:Env}{L:cv}{w W:bH}
def aGD{b:Nat}{T:bA G}{s wl:Sl}{l:bA Pr}{wh:bA Bool}{q q2:Nat}{t:Int}(hw:WF T)(J:L[q]?=some (js s l))(hn:s.n=l.length)(hb:l.length<1000000)(Y:L[q2]?=some (bw wl 1 (dZ wh)))(W:wl.n=wh.length)(h:Sep E (dR b T::L) w):
  Calls P Jr #[Pb b,Sv s,Iv t,Sv wl] w (cA λv w'=>∃o:Sl,v=Sv o/\o.n=(mj T l t wh).length/\Sep E (bw o 1 (bD (mj T l t wh))::dR b T::L) w'):=by
 have D:∀g,(ia T g).length<1000000:=λg=>by
  have h1:=yF hw g;omega
 have R:∀g,(dp T g).length<1000000:=λg=>by have:=pG hw g;omega
 apply avE;unfold Of qC qF qJ qL qQ qU qW qa qf qh qy zz;refine use (u7 hw h) ?_;rintro _ an ⟨i1,rfl,V,h1⟩;refine⟨i1,rfl,use (aJK (q:=q+2) (s:=s) (i:=i1) (l:=l) J hn hb (Ints.row V) (D t) h1) ?_⟩;rintro _ w2 ⟨rfl,h2⟩;obtain⟨v,K⟩:∃v,pick l (ia T t)=v:=⟨_,rfl⟩
 have d:mj T l t wh=if v<0 then[]else let w:=whole (dp T (l.getD v.toNat ⟨0,0,false⟩).g) t wh;if w<0 then[v]else ih (ia T w) 0 l:=by unfold mj;rw[K]
 rw[K];refine⟨_,rfl,cX (λj=>⟨⟨none,0,0⟩,rfl,?_⟩) (λS=>?_)⟩
 ·rw[d,bL j];exact⟨rfl,bw.none_ h2.tail⟩
 rw[cF]at d;have ak:v<l.length:=by rw[<- K];exact aJa bu
 obtain⟨x,hx⟩:∃x,l[v.toNat]?=some x:=⟨_,dN⟩
 have ae:(l.getD v.toNat ⟨0,0,false⟩).g=x.g:=by rw[dT,hx];rfl
 rw[ae]at d;refine lR Pr.mx (q+2) h2 J hn (show v=((v.toNat:Nat):Int) by omega) hx (λc _ f=>⟨x.g,by rw[cj];exact f 0 _ rfl,use (sW hw h2.tail) ?_⟩);rintro _ ao ⟨H,rfl,Q,aa⟩;refine⟨H,rfl,use (aGL (L:=bw H 1 (bD (dp T x.g))::dR b T::L) (q:=q2+2) (s:=H) (wl:=wl) (wh:=wh) (Ints.row Q) (R _) Y W t aa) ?_⟩;rintro _ ap ⟨rfl,O⟩;obtain⟨g,U⟩:∃g,whole (dp T x.g) t wh=g:=⟨_,rfl⟩
 rw[U]at d ⊢;dsimp only at d;refine⟨_,rfl,cX (λj=>Al.i O (λp ag n=>⟨⟨some ⟨p,0,none⟩,1,1⟩,rfl,?_⟩)) (λaf=>use (u7 hw O.tail) ?_)⟩
 ·rw[d,bL j];exact⟨rfl,bw.make (vs:=bD [v]) (spare:=[]) (n.fr 0 rfl |>.ro 2 [0] rfl) rfl rfl (ep 1)⟩
 rintro _ ag ⟨i2,rfl,F,n⟩;rw[cF]at d;obtain⟨ins,I⟩:∃ins,ia T g=ins:=⟨_,rfl⟩
 have C:=D g;rw[I]at F n d C;rw[d];refine⟨i2,rfl,λo y w'=>∃k:Nat,y=k/\k<=l.length/\o.n=(ih ins 0 (l.take k)).length/\Sep E (bw o 1 (bD (ih ins 0 (l.take k)))::bw i2 1 (bD ins)::dR b T::L) w',λ_ y _=>(l.length-y).toNat,⟨0,rfl,e7 _,rfl,bw.none_ n⟩,?_⟩;rintro _ o _ aq ⟨k,rfl,hk,ho,A⟩;refine cX (λj=>?_) (λS=>?_)
 ·obtain⟨z,Z⟩:∃z,l[k]?=some z:=⟨_,dN⟩
  have aj:(ih ins 0 (l.take k)).length<=k:=by have:=yJ ins (l.take k) 0;rw[hJ]at this;omega
  have a:ih ins 0 (l.take (k+1))=ih ins 0 (l.take k)++(if z.live=true/\ins.contains z.g=true then[(k:Int)]else[]):=by
   rw[fL Z,RI,hJ,show min k l.length=k by omega,zv];congr 1
  refine vC (q+3) A J hn rfl Z (λ_=>Al.i A (λr ar ab=>ew _ ab rfl (λah m=>?_)));have m:Sep E (bC r z.vs::bw o 1 (bD (ih ins 0 (l.take k)))::bw i2 1 (bD ins)::dR b T::L) ah:=m;have ad:Ints E (bC r z.vs::bw o 1 (bD (ih ins 0 (l.take k)))::bw i2 1 (bD ins)::dR b T::L) i2 ins:=(Ints.row F).cons.cons;refine⟨λc w'=>c=decide (z.live=true/\ins.contains z.g=true)/\Sep E (bw o 1 (bD (ih ins 0 (l.take k)))::bw i2 1 (bD ins)::dR b T::L) w',ld m 0 rfl rfl rfl (cw (λhl=>ld m 0 rfl rfl rfl (use (ER ad C z.g m) ?_)) (λhl=>⟨?_,m.tail⟩)),?_⟩
  ·rintro _ ai ⟨rfl,B⟩;refine⟨_,rfl,?_,B.tail⟩;cases f:ins.contains z.g with
   |true=>rw[dE ⟨hl,rfl⟩]
   |false=>rw[di λe=>by cases e.2]
  ·rw[di λe=>by rw[hl]at e;cases e.1]
  ·rintro _ c ai ⟨rfl,B⟩;refine cw (λf=>Al.i B (λu al M=>sV ho bu M (λo' am X N=>⟨⟨k+1,de,bu,?_,?_⟩,?_⟩))) (λf=>⟨⟨k+1,de,bu,?_,?_⟩,?_⟩);·rw[a,bL (mG f)];exact X
   ·rw[a,bL (mG f)];exact N
   ·rw[de];dsimp only;omega
   ·rw[a,bJ (kb f),hs];exact ho
   ·rw[a,bJ (kb f),hs];exact B
   ·rw[de];dsimp only;omega
 ·have:k=l.length:=by omega
  subst this;rw[gg]at ho A;exact⟨o,rfl,ho,A.ro 3 [0,2] rfl⟩
end Go.Mp
namespace Go.Kc
open Go Go.Kt
variable{S T:Cs}
def grow(x:Act):Nat:=if x.k.tmod 12=3\/x.k.tmod 12=4\/x.k.tmod 12=6 then 1 else 0
def RJ(h:Inv S)(x:Act)(hx:grow x=0):(S.act x).1.bt.next=S.bt.next:=by
 have a:¬ (x.k.tmod 12=3\/x.k.tmod 12=4\/x.k.tmod 12=6):=λe=>by unfold grow at hx;rw[bL e]at hx;cases hx
 refine uy (P:=λr=>r.1.bt.next=S.bt.next) S x (λ_=>?_) (λ_=>?_) (λ_=>?_) (λe=>absurd (.inl e) a) (λe=>absurd (.inr (.inl e)) a) (λ_=>w5 h.toInv0 h.anon _ _) (λe=>absurd (.inr (.inr e)) a) (λ_=>?_) (λ_=>?_) (λ_=>?_) (λ_=>rfl) (λ_=>((w4 h _ _).kept h).next);·unfold Cs.cp;dsimp only;split<;>rfl
 ·unfold Cs.remove;dsimp only;split;·exact(q5 _ _ _).1
  ·rfl
 ·unfold Cs.cC Cs.ig;repeat' split
  all_goals rfl
 ·unfold Cs.put;dsimp only;split;·rfl
  ·split;·exact(q4 _ _ _).1
   ·rfl
 ·unfold Cs.get;dsimp only;split;·rfl
  ·dsimp only;split<;>rfl
 ·rcases oG h x.b x.c with⟨_,he⟩|⟨p,hp,⟨_,he⟩|⟨_,_,he⟩|⟨_,_,_,_,he,_⟩⟩
  ·rw[he]
  ·rw[he]
  ·rw[he];rfl
  ·exact he
inductive cr:Nat->Cs->Cs->Prop
 |nil (n:Nat) (S:Cs):cr n S S
 |act {n:Nat} {S T:Cs} (x:Act):cr n S T->cr (n+grow x) S (T.act x).1
def cr.up{n m:Nat}(h:cr n S T)(k:n<=m):cr m S T:=by
 induction h generalizing m with
 |nil=>exact .nil m _
 |act x h a=>
  obtain⟨j,rfl⟩:∃j,m=j+grow x:=⟨m-grow x,bu⟩
  exact .act x (a bu)
def cr.trans{n m:Nat}{U:Cs}(h:cr n S T)(k:cr m T U):cr (n+m) S U:=by
 induction k with
 |nil m=>exact h.up (Nat.le_add_right _ _)
 |act x k a=>rw[<- tH];exact .act x (a h)
def cr.inv{n:Nat}(h:cr n S T)(g:Inv S)(hn:S.bt.next+n<=16777216):Inv T/\S.bt.next<=T.bt.next/\T.bt.next<=S.bt.next+n:=by
 induction h with
 |nil n=>exact⟨g,g3 _,bu⟩
 | @act n S T x h f=>
  obtain⟨h1,h2,i⟩:=f g bu;by_cases hx:grow x=0
  ·rw[hx];refine⟨?_,by rw[RJ h1 x hx];omega,by rw[RJ h1 x hx];omega⟩;by_cases d:T.bt.next<16777216;·exact h1.act d x
   ·have b:¬ (x.k.tmod 12=3\/x.k.tmod 12=4\/x.k.tmod 12=6):=λe=>by unfold grow at hx;rw[bL e]at hx;cases hx
    exact uy (P:=λr=>Inv r.1) T x (λ_=>h1.cp _) (λ_=>h1.remove _) (λ_=>h1.cC _ _ _) (λe=>absurd (.inl e) b) (λe=>absurd (.inr (.inl e)) b) (λ_=>h1.cd _ _) (λe=>absurd (.inr (.inr e)) b) (λ_=>h1.put _ _ _) (λ_=>h1.get _ _) (λ_=>h1.bO _ _) (λ_=>h1.du _) (λ_=>h1.shrink _ _)
  ·have c:grow x=1:=by unfold grow at hx ⊢;split at hx<;>first|omega|simp_all
   rw[c]at hn ⊢;have a:T.bt.next<16777216:=by omega
   have:=hC h1 a x;exact⟨h1.act a x,bu,bu⟩
def cr.one(x:Act):cr (grow x) S (S.act x).1:=by
 have:=cr.act x (cr.nil 0 S);rwa[fy]at this
def cr.fresh(g:Int):cr 1 S (S.fresh g).1:=cr.one ⟨3,g,0,0,0,0⟩
def cr.cN(k:Int×Int)(g:Int):cr 1 S (S.cN k g).1:=cr.one ⟨4,g,0,0,k.1,k.2⟩
def cr.cd(id g:Int):cr 0 S (S.cd id g).1:=cr.one ⟨5,g,id,0,0,0⟩
def cr.copy(id g:Int):cr 1 S (S.copy id g).1:=cr.one ⟨6,g,id,0,0,0⟩
def cr.get(id a:Int):cr 0 S (S.get id a).1:=cr.one ⟨8,a,id,0,0,0⟩
def cr.bO(id n:Int):cr 0 S (S.bO id n).1:=cr.one ⟨9,0,id,n,0,0⟩
def cr.du(t:Int):cr 0 S (S.du t).1:=cr.one ⟨10,t,0,0,0,0⟩
def cr.shrink(t n:Int):cr 0 S (S.shrink t n).1:=cr.one ⟨11,t,0,n,0,0⟩
def cr.cp(p:Int):cr 0 S (S.cp p).1:=cr.one ⟨0,p,0,0,0,0⟩
def cr.remove(g:Int):cr 0 S (S.remove g).1:=cr.one ⟨1,g,0,0,0,0⟩
def cr.cC(g a n:Int):cr 0 S (S.cC g a n).1:=cr.one ⟨2,g,a,n,0,0⟩
def cr.put(id a:Int)(b:UInt8):cr 0 S (S.put id a b).1:=by
 have h:=cr.one (S:=S) ⟨7,a,id,(b.toNat:Int),0,0⟩;have e:(S.act ⟨7,a,id,(b.toNat:Int),0,0⟩).1=(S.put id a (mg (b.toNat:Int))).1:=rfl;have c:mg (b.toNat:Int)=b:=by
  unfold mg;have:=b.toNat_lt;rw[show((b.toNat:Int)%256).toNat=b.toNat by omega];exact UInt8.ofNat_toNat
 rw[e,c]at h;exact h
end Go.Kc
namespace Go.Kw
open Go Go.Kc Go.Kt
abbrev PP:=Int×bW Sp
def iX(l:bA PP):Nat:=l.countP λp=>p.2.isSome
structure Vok(V:Vs):Prop where
 inv:Inv V.core
 sp:∀(i:Nat) g s,V.procs[i]?=some (g,some s)->fC s
 e8:V.procs.length<=64
structure gp(V V':Vs):Prop where
 len:V'.procs.length=V.procs.length
 at_:∀i:Nat,V'.procs[i]?=V.procs[i]? \/∃g s,V.procs[i]?=some (g,some s)/\V'.procs[i]?=some (g,none)
def gp.refl(V:Vs):gp V V:=⟨rfl,λ_=>.inl rfl⟩
def gp.trans{U V W:Vs}(h:gp U V)(k:gp V W):gp U W:=by
 refine⟨k.len.trans h.len,λi=>?_⟩;rcases k.at_ i with e|⟨g,s,a,b⟩
 ·rw[e];exact h.at_ i
 ·rcases h.at_ i with f|⟨c,s',f1,f2⟩
  ·exact .inr ⟨g,s,f▸a,b⟩
  ·rw[f2]at a;cases a
def gp.core{V:Vs}(S:Cs):gp V {V with core:=S} :=⟨rfl,λ_=>.inl rfl⟩
def jt{V:Vs}{pid:Int}{s:Sp}(h:V.space pid=some s):0<=pid/\V.procs[pid.toNat]?=some (V.group pid,some s):=by
 unfold Vs.space at h;split at h
 ·next a=>
  refine⟨a,?_⟩;cases hp:V.procs[pid.toNat]? with
  |none=>rw[hp]at h;cases h
  |some p=>
   rw[hp]at h;have h:p.2=some s:=h;unfold Vs.group;rw[dT,hp,<- h];rfl
 ·cases h
def jU{V:Vs}{i:Nat}{g:Int}{s:bW Sp}(h:V.procs[i]?=some (g,s)):V.space (i:Int)=s/\V.group (i:Int)=g:=by
 unfold Vs.space Vs.group;rw[eJ,dz,h,dT,h];exact⟨rfl,rfl⟩
def vD:∀(ids:bR) (S:Cs),cr 0 S (eb ids S)
 |[],S=>.nil 0 S
 |x::r,S=>by
  have h:=(cr.bO (S:=S) x (-1)).trans (vD r (S.bO x (-1)).1);exact h
def RK:∀(ids:bR) (S:Cs),cr 0 S (dP ids S)
 |[],S=>.nil 0 S
 |x::r,S=>by
  have h:=(cr.bO (S:=S) x 1).trans (RK r (S.bO x 1).1);exact h
def vF{V:Vs}{pid:Int}{s:Sp}(h:V.space pid=some s):V.exit pid=⟨eb (s.ids 0 65536) V.core,V.procs.set pid.toNat (V.group pid,none)⟩:=by
 unfold Vs.exit;rw[h];rfl
def yK{V:Vs}{pid:Int}(h:V.space pid=none):V.exit pid=V:=by unfold Vs.exit;rw[h]
def RL(V:Vs)(pid:Int):cr 0 V.core (V.exit pid).core/\gp V (V.exit pid)/\iX (V.exit pid).procs<=iX V.procs/\((V.space pid).isSome->iX (V.exit pid).procs<iX V.procs)/\∀i:Nat,(i:Int)≠pid->(V.exit pid).procs[i]?=V.procs[i]? :=by
 cases h:V.space pid with
 |none=>rw[yK h];exact⟨.nil 0 _,gp.refl V,ep _,(λe=>by cases e),λ_ _=>rfl⟩
 |some s=>
  rw[vF h];obtain⟨d,hp⟩:=jt h;have a:=(c4.1 hp).1;have b:V.procs[pid.toNat]=(V.group pid,some s):=by rw[dL a]at hp;exact cU hp
  have c:iX (V.procs.set pid.toNat (V.group pid,none))<iX V.procs:=by
   unfold iX;rw[List.countP_set a,b];have:0<V.procs.countP (λp=>p.2.isSome):=List.countP_pos_iff.2 ⟨_,eH hp,rfl⟩;exact Nat.sub_lt this Nat.one_pos
  refine⟨vD _ _,⟨by simp,λi=>?_⟩,by dsimp only;omega,λ_=>c,λi f=>?_⟩
  ·show(V.procs.set pid.toNat (V.group pid,none))[i]?=_\/_;by_cases e:pid.toNat=i
   ·subst e;refine .inr ⟨_,_,hp,?_⟩;show(V.procs.set pid.toNat (V.group pid,none))[pid.toNat]?=_;rw[iZ a]
   ·exact .inl (ja e)
  ·exact ja bu
def ti:∀(l:bR) (V:Vs),cr 0 V.core (V.df l).core/\gp V (V.df l)/\iX (V.df l).procs<=iX V.procs/\∀i:Nat,(i:Int)∉l->(V.df l).procs[i]?=V.procs[i]?
 |[],V=>⟨.nil 0 _,gp.refl V,ep _,λ_ _=>rfl⟩
 |x::r,V=>by
  obtain⟨b,c,a3,_,a5⟩:=RL V x;obtain⟨b1,b2,b3,b4⟩:=ti r (V.exit x);refine⟨b.trans b1,c.trans b2,mJ b3 a3,λi a=>?_⟩;rw[ey,om]at a;exact(b4 i a.2).trans (a5 i a.1)
def RM{x:Int}{r:bR}{V:Vs}(h:(V.space x).isSome=true):iX (V.df (x::r)).procs<iX V.procs:=
 y3 (ti r (V.exit x)).2.2.1 ((RL V x).2.2.2.1 h)
def ET:∀ {l:bA Pr} {ins:bR} {i a m:Int},(mW ins i (a,m) l).1=a\/∃(j:Nat) (p:Pr),(mW ins i (a,m) l).1=i+j/\l[j]?=some p/\p.live=true
 |[],_,_,_,_=>.inl rfl
 |p::r,ins,i,a,m=>by
  unfold mW;split
  ·next c=>
   rcases ET (l:=r) (ins:=ins) (i:=i+1) (a:=i) (m:=p.size)with h|⟨j,q,h1,h2,b⟩
   ·exact .inr ⟨0,p,bu,rfl,c.1⟩
   ·exact .inr ⟨j+1,q,bu,by simpa using h2,b⟩
  ·rcases ET (l:=r) (ins:=ins) (i:=i+1) (a:=a) (m:=m)with h|⟨j,q,h1,h2,b⟩
   ·exact .inl h
   ·exact .inr ⟨j+1,q,bu,by simpa using h2,b⟩
def EU{ins:bR}:∀ {l:bA Pr} {i x:Int},x∈ih ins i l->∃(j:Nat) (p:Pr),x=i+j/\l[j]?=some p/\p.live=true
 |p::r,i,x,h=>by
  unfold ih at h;split at h
  ·next b=>
   rcases ey.1 h with rfl|h;·exact⟨0,p,bu,rfl,b.1⟩
   ·obtain⟨j,q,h1,h2,a⟩:=EU h;exact⟨j+1,q,bu,by simpa using h2,a⟩
  ·obtain⟨j,q,h1,h2,a⟩:=EU h;exact⟨j+1,q,bu,by simpa using h2,a⟩
def RN{V:Vs}{j:Nat}{p:Pr}(h:V.pr[j]?=some p)(hl:p.live=true):∃s,V.space (j:Int)=some s:=by
 unfold Vs.pr at h;rw[eI]at h;cases hp:V.procs[j]? with
 |none=>rw[hp]at h;cases h
 |some q=>
  obtain⟨g,o⟩:=q;rw[hp]at h;cases o with
  |none=>cases h;cases hl
  |some s=>exact⟨s,(jU hp).1⟩
def EV{V:Vs}{T:bA G}{t x:Int}{wh:bA Bool}(h:x∈mj T V.pr t wh):∃s,V.space x=some s:=by
 unfold mj at h;dsimp only at h;split at h;·cases h
 ·next c=>
  split at h
  ·rw[h8]at h;subst h;unfold pick at c ⊢;rcases ET (l:=V.pr) (ins:=ia T t) (i:=0) (a:= -1) (m:=0)with e|⟨j,p,e,h2,b⟩
   ·omega
   ·rw[e,zv];exact RN h2 b
  ·obtain⟨j,p,e,h2,b⟩:=EU h;rw[e,zv];exact RN h2 b
def dead(V:Vs)(t:Int):bR:=mj V.core.tree V.pr t (mX V.core)
def vG(f:Cs->Int->Cs×Int×Int×Int)(pid:Int)(n:Nat)(V:Vs)(o:cH):fE f pid (n+1) V o=
    (let r:=f V.core (V.group pid)
     let V1:Vs:={V with core:=r.1}
     if r.2.2.2=0 then(V1,o,some r.2.1)else if r.2.2.2≠12 then(V1, {o with err:=r.2.2.2},none)else
     let d:=dead V1 r.2.2.1;let a:=V1.df d;let b:cH:={o with bI:=o.bI++d}
     if d= []then(a, {b with err:=12},none)else if pid∈d then(a, {b with err:=13},none)else fE f pid n a b):=rfl
def vH{f:Cs->Int->Cs×Int×Int×Int}{pid:Int}(hf:∀S g,cr 1 S (f S g).1):∀(n:Nat) (V:Vs) (o:cH),cr n V.core (fE f pid n V o).1.core/\gp V (fE f pid n V o).1/\((fE f pid n V o).2.2.isSome=true->(fE f pid n V o).1.procs[pid.toNat]?=V.procs[pid.toNat]? \/pid<0)
 |0,V,o=>⟨.nil 0 _,gp.refl V,λh=>by cases h⟩
 |n+1,V,o=>by
  rw[vG];dsimp only;have h1:=hf V.core (V.group pid);have a:cr (n+1) V.core (f V.core (V.group pid)).1:=h1.up bu;generalize f V.core (V.group pid)=r at h1 a;split;·exact⟨a,gp.core _,λ_=>.inl rfl⟩
  split;·exact⟨a,gp.core _,λh=>by cases h⟩
  generalize dead {V with core:=r.1} r.2.2.1=d;obtain⟨b1,b2,b3,b4⟩:=ti d {V with core:=r.1};have h2:cr (n+1) V.core (Vs.df {V with core:=r.1} d).core:=(h1.trans b1).up bu;have b:gp V (Vs.df {V with core:=r.1} d):=(gp.core _).trans b2;split;·exact⟨h2,b,λh=>by cases h⟩
  split;·exact⟨h2,b,λh=>by cases h⟩
  next eh=>
  obtain⟨c,i,j⟩:=vH hf n (Vs.df {V with core:=r.1} d) {o with bI:=o.bI++d};refine⟨((h1.trans b1).trans c).up bu,b.trans i,λh=>?_⟩;rcases j h with e|e
  ·by_cases k:pid<0;·exact .inr k
   ·refine .inl (e.trans (b4 pid.toNat ?_));rw[show((pid.toNat:Nat):Int)=pid by omega];exact eh
  ·exact .inr e
end Go.Kw
namespace Go.Mp
open Go Go.Vc Go.Sp Go.Proofs Go.Kc
variable{E:Env}{L:cv}{w:bH}{A:At}{S:Cs}
def vI{W:bH}{q:Nat}{a:Addr}{v:bE}(h:Sep E L w)(b:L[q]?=some (eg W.heap))(c:W.cell? a=some v):w.cell? a=some v:=
 (eg.open (h.fr q b)).2.oK (i:=0) rfl c
end Go.Mp
namespace Go.Mp
open Go Go.Vc Go.Sp Go.Proofs Go.Kc Go.Kw Go.Kt
variable{E:Env}{L:cv}{w W:bH}{A:At}{S:Cs}{v:Nat}{r:Sl}
abbrev PS:=bA (Int×bW (Nat×Kw.Sp))
def hF(p:Int×bW (Nat×Kw.Sp)):bA bE:=[Iv p.1,.pointer (p.2.map λq=>⟨q.1,0,none⟩)]
def ry(p:Int×bW (Nat×Kw.Sp)):(hF p).length=2:=rfl
def h6(p:Int×bW (Nat×Kw.Sp)):Asn:=match p.2 with|some q=>dW q.1 q.2|none=>emp
def plain(ps:PS):bA PP:=ps.map λp=>(p.1,p.2.map Prod.snd)
def Vm(A:At)(v:Nat)(r:Sl)(S:Cs)(ps:PS)(L:cv):cv:=
 cg A S++(bC v [Pb A.c,Sv r]::bw r 2 (bP hF ps)::(ps.map h6++L))
variable{ps:PS}
def RO(A:At)(v:Nat)(r:Sl)(S:Cs)(B:Asn):cv:=cg A S++[bC v [Pb A.c,Sv r],B]
def tj(B:Asn):(RO A v r S B).length=18:=rfl
def yL(B:Asn)(M:cv):cg A S++(bC v [Pb A.c,Sv r]::B::M)=RO A v r S B++M:=rfl
def iY{i:Nat}{p:Int×bW (Nat×Kw.Sp)}(h:ps[i]?=some p):(plain ps)[i]?=some (p.1,p.2.map Prod.snd):=by unfold plain;rw[eI,h];rfl
def j9(ps:PS):(plain ps).length=ps.length:=en _
def RP{i:Nat}{g:Int}{s:Kw.Sp}(h:(plain ps)[i]?=some (g,some s)):∃a,ps[i]?=some (g,some (a,s)):=by
 unfold plain at h;rw[eI]at h;cases hp:ps[i]? with
 |none=>rw[hp]at h;cases h
 |some p=>
  obtain⟨b,o⟩:=p;rw[hp]at h;cases o with
  |none=>cases h
  |some q=>cases h;exact⟨q.1,rfl⟩
def vJ(k:Nat):(Vm A v r S ps L)[18+ps.length+k]?=L[k]? :=by
 unfold Vm;rw[yL,fR (by rw[tj];omega),tj,fR (by simp;omega)];congr 1;simp;omega
def RQ{i a:Nat}{g:Int}{s:Kw.Sp}(h:ps[i]?=some (g,some (a,s)))(B:Asn):(cg A S++(bC v [Pb A.c,Sv r]::B::(ps.map h6++L)))[18+i]?=some (dW a s):=by
 have b:=(c4.1 h).1;rw[yL,fR (by rw[tj];omega),tj,tt,eN (by simpa using b),eI,h];rfl
def EW{i a:Nat}{g:Int}{s:Kw.Sp}(h:ps[i]?=some (g,some (a,s))):(Vm A v r S ps L)[18+i]?=some (dW a s):=RQ h _
def aJb{i a:Nat}{g:Int}{s s':Kw.Sp}(h:ps[i]?=some (g,some (a,s))):bP hF (ps.set i (g,some (a,s')))=bP hF ps:=by
 unfold bP;congr 1;apply hg;intro j;rw[eI,eI,hd];split
 ·next e=>
  subst e;have b:=(c4.1 h).1;rw[bL b,h];rfl
 ·rfl
def RR{i:Nat}(a:i<ps.length)(B X:Asn)(p:Int×bW (Nat×Kw.Sp))(hp:h6 p=X):(cg A S++(bC v [Pb A.c,Sv r]::B::(ps.map h6++L))).set (18+i) X=cg A S++(bC v [Pb A.c,Sv r]::B::((ps.set i p).map h6++L)):=by
 rw[yL,yL,ju _ _ (by rw[tj];omega),tj,tt,rG _ _ (by simpa using a),hL,hp]
def RS{i a:Nat}{g:Int}{s s':Kw.Sp}(h:ps[i]?=some (g,some (a,s))):(Vm A v r S ps L).set (18+i) (dW a s')=Vm A v r S (ps.set i (g,some (a,s'))) L:=by
 unfold Vm;rw[aJb h];exact RR (c4.1 h).1 _ _ _ rfl
def Vm.op{i a:Nat}{g:Int}{s:Kw.Sp}(b:ps[i]?=some (g,some (a,s)))(h:Sep E (Vm A v r S ps L) w):Sep E (dW a s::(Vm A v r S ps L).eraseIdx (18+i)) w:=h.fr _ (EW b)
def Vm.sh{i a:Nat}{g:Int}{s s':Kw.Sp}(b:ps[i]?=some (g,some (a,s)))(h:Sep E (dW a s'::(Vm A v r S ps L).eraseIdx (18+i)) w):Sep E (Vm A v r S (ps.set i (g,some (a,s'))) L) w:=RS b▸Sep.put (EW b) h
def tk{α:Type}{l:bA α}{i:Nat}{x:α}(h:l[i]?=some x):l.set i x=l:=by
 apply hg;intro j;rw[hd];split;·next e=>subst e;rw[bL (c4.1 h).1,h]
 ·rfl
def Vm.bk{i a:Nat}{g:Int}{s:Kw.Sp}(b:ps[i]?=some (g,some (a,s)))(h:Sep E (dW a s::(Vm A v r S ps L).eraseIdx (18+i)) w):Sep E (Vm A v r S ps L) w:=by
 have:=Vm.sh b h;rwa[tk b]at this
def Vm.e4{B:Asn}(h:Sep E (B::Vm A v r S ps L) w):Sep E (Vm A v r S ps (B::L)) w:=by
 refine h.perm ?_;unfold Vm;refine jc.symm.trans (o0 _ ?_);have h1:(B::(ps.map h6++L)).Perm (ps.map h6++B::L):=jc.symm;exact((List.Perm.swap _ _ _).trans (List.Perm.cons _ (List.Perm.swap _ _ _))).trans (List.Perm.cons _ (List.Perm.cons _ h1))
def Vm.out{B:Asn}(h:Sep E (Vm A v r S ps (B::L)) w):Sep E (B::Vm A v r S ps L) w:=by
 refine h.perm (List.Perm.symm ?_);unfold Vm;refine jc.symm.trans (o0 _ ?_);have h1:(B::(ps.map h6++L)).Perm (ps.map h6++B::L):=jc.symm;exact((List.Perm.swap _ _ _).trans (List.Perm.cons _ (List.Perm.swap _ _ _))).trans (List.Perm.cons _ (List.Perm.cons _ h1))
def yM(M:cv):Vm A v r S ps M=(cg A S++(bC v [Pb A.c,Sv r]::bw r 2 (bP hF ps)::ps.map h6))++M:=by unfold Vm;simp
def Vm.hG(F:cv)(h:Sep E (F++Vm A v r S ps L) w):Sep E (Vm A v r S ps (F++L)) w:=by
 rw[yM]at h ⊢;exact h.perm (pV _ _ _)
def Vm.fl(F:cv)(h:Sep E (Vm A v r S ps (F++L)) w):Sep E (F++Vm A v r S ps L) w:=by
 rw[yM]at h ⊢;exact h.perm (pV _ _ _)
def Vm.EX{i a:Nat}{g:Int}{s s':Kw.Sp}{B:Asn}(b:ps[i]?=some (g,some (a,s)))(h:Sep E (B::dW a s'::(Vm A v r S ps L).eraseIdx (18+i)) w):Sep E (Vm A v r S (ps.set i (g,some (a,s'))) (B::L)) w:=
 Vm.e4 (RS b▸Sep.hS (EW b) h)
def Vm.bk1{i a:Nat}{g:Int}{s:Kw.Sp}{B:Asn}(b:ps[i]?=some (g,some (a,s)))(h:Sep E (B::dW a s::(Vm A v r S ps L).eraseIdx (18+i)) w):Sep E (Vm A v r S ps (B::L)) w:=by
 have:=Vm.EX b h;rwa[tk b]at this
def Vm.pL{L':cv}(hp:L.Perm L')(h:Sep E (Vm A v r S ps L) w):Sep E (Vm A v r S ps L') w:=by
 refine h.perm ?_;unfold Vm;exact o0 _ (List.Perm.cons _ (List.Perm.cons _ (o0 _ hp)))
def Vm.el{i:Nat}{p:Int×bW (Nat×Kw.Sp)}{F:Addr->Prop}{x:Int}(hn:r.n=ps.length)(h:Sep E (Vm A v r S ps L) w)(hx:x=i)(a:ps[i]?=some p)(k:∀b,r.p=some ⟨b,0,none⟩->(∀j u,(hF p)[j]?=some u->w.cell? ⟨b,i*2+j,none⟩=some u)->F ⟨b,i*2,none⟩):cM r.p r.n x 2 F:=
 lR ry 17 h rfl hn hx a k
def RU{pid:Int}(hn:r.n=ps.length)(h:Sep E (Vm A v r S ps L) w):Calls P uE #[Pb v,Iv pid] w
  (cA λx w'=>((∃(i a:Nat) (g:Int) (s:Kw.Sp),pid=i/\ps[i]?=some (g,some (a,s))/\x=Pb a)\/(Vs.space ⟨S,plain ps⟩ pid=none/\x=.pointer none))/\w'=w):=by
 apply Zj;unfold Nb qK qW qZ qg;refine⟨λw'=>(0<=pid/\pid<ps.length)/\w'=w,cX (λe=>⟨.inr ⟨?_,rfl⟩,rfl⟩) (λc=>⟨_,rfl,r,h.cellAt 16 rfl 1,hD (λe=>⟨.inr ⟨?_,rfl⟩,rfl⟩) (λh1=>⟨⟨c,bu⟩,rfl⟩)⟩),?_⟩;·unfold Vs.space;rw[cF]
 ·unfold Vs.space;rw[bL c];show((plain ps)[pid.toNat]?).bind Prod.snd=none;rw[g2 (by rw[j9];omega)];rfl
 rintro _ _ ⟨⟨c,h1⟩,rfl⟩;obtain⟨p,hp⟩:∃p,ps[pid.toNat]?=some p:=⟨_,dN⟩
 refine⟨_,rfl,r,h.cellAt 16 rfl 1,Vm.el hn h (show pid=((pid.toNat:Nat):Int) by omega) hp (λb _ d=>⟨_,by rw[cj];exact d 1 _ rfl,?_,rfl⟩)⟩;obtain⟨g,o⟩:=p;cases o with
 |some q=>exact .inl ⟨pid.toNat,q.1,g,q.2,bu,hp,rfl⟩
 |none=>
  refine .inr ⟨?_,rfl⟩;unfold Vs.space;rw[bL c];show((plain ps)[pid.toNat]?).bind Prod.snd=none;rw[iY hp];rfl
def RV{s:Sl}{ids:bR}(c:∀S',Ints E (Vm A v r S' ps L) s ids)(hb:ids.length<1000000)(g:Kc.Inv S)(h:Sep E (Vm A v r S ps L) w):
  Calls P BD #[Pb v,Sv s] w (cY E (.tuple #[]) (Vm A v r (eb ids S) ps L)):=by
 have hlen:=(c S).1;apply ZR;unfold ND qD qO qQ qW qZ;refine⟨λx w'=>∃(k:Nat) (S':Cs),x=k/\k<=ids.length/\Kc.Inv S'/\eb (ids.drop k) S'=eb ids S/\Sep E (Vm A v r S' ps L) w',λx _=>(ids.length-x).toNat,⟨0,S,rfl,e7 _,g,rfl,h⟩,?_⟩;rintro _ _ i ⟨k,S',rfl,hk,b,he,h1⟩;refine cX (λf=>?_) (λe=>?_)
 ·obtain⟨x,hx⟩:∃x,ids[k]?=some x:=⟨_,dN⟩
  have d:ids.drop k=x::ids.drop (k+1):=by
   have a:=(c4.1 hx).1;rw[lD a];rw[dL a]at hx;rw[cU hx]
  rw[d]at he;refine(c S').el h1 k rfl hx ⟨_,rfl,_,h1.cellAt 16 rfl 0,use (yG (id:=x) (n:= -1) b h1) ?_⟩;rintro _ w2 ⟨rfl,h2⟩;exact⟨_,rfl,⟨k+1,_,de,bu,b.bO x (-1),he,h2⟩,by rw[de];dsimp only;omega⟩
 ·have:k=ids.length:=by omega
  subst this;rw[we]at he;exact⟨rfl,he▸h1⟩
structure iM(ps cJ:PS):Prop where
 len:cJ.length=ps.length
 at_:∀i:Nat,cJ[i]?=ps[i]? \/∃g q,ps[i]?=some (g,some q)/\cJ[i]?=some (g,none)
def iM.refl(ps:PS):iM ps ps:=⟨rfl,λ_=>.inl rfl⟩
def iM.trans{a b c:PS}(h:iM a b)(k:iM b c):iM a c:=by
 refine⟨k.len.trans h.len,λi=>?_⟩;rcases k.at_ i with e|⟨g,q,d,j⟩
 ·rw[e];exact h.at_ i
 ·rcases h.at_ i with f|⟨l,m,f1,f2⟩
  ·exact .inr ⟨g,q,f▸d,j⟩
  ·rw[f2]at d;cases d
def iM.die{i:Nat}{g:Int}{q:Nat×Kw.Sp}(h:ps[i]?=some (g,some q)):iM ps (ps.set i (g,none)):=by
 refine⟨by simp,λj=>?_⟩;by_cases e:i=j;·subst e;exact .inr ⟨g,q,h,iZ (c4.1 h).1⟩
 ·exact .inl (ja e)
def RW{i a:Nat}{g:Int}{s:Kw.Sp}(f:ps[i]?=some (g,some (a,s)))(p:fC s)(hn:r.n=ps.length)(D:Kc.Inv S)(h:Sep E (Vm A v r S ps L) w):
  Calls P BB #[Pb v,Iv (i:Nat)] w (cY E (.tuple #[]) (Vm A v r (eb (s.ids 0 65536) S) (ps.set i (g,none)) L)):=by
 have m:=(c4.1 f).1;apply ZN;unfold Nz qE qJ qK qW qZ;refine⟨_,rfl,r,h.cellAt 16 rfl 1,Vm.el hn h rfl f (λb _ z=>⟨_,by rw[cj];exact z 1 _ rfl,use (Py (a:=0) (b:=65536) bu bu p (Vm.op f h)) ?_⟩)⟩;rintro _ F ⟨q,rfl,o,h1⟩;have h2:=Vm.EX f h1;have k:(s.cut 0 65536).2=s.ids 0 65536:=rfl;rw[k]at o h2;have c:(ps.set i (g,some (a,(s.cut 0 65536).1)))[i]?=some (g,some (a,(s.cut 0 65536).1)):=iZ m;have y:∀S',Ints E (Vm A v r S' (ps.set i (g,some (a,(s.cut 0 65536).1))) (bw q 1 (bD (s.ids 0 65536))::L)) q (s.ids 0 65536):=λS'=>(Ints.row o).of λ_ B=>Vm.out B;refine⟨q,rfl,use (RV y (by have:=yh p 0 65536;omega) D h2) ?_⟩;rintro _ w2 ⟨rfl,d⟩;have d:=(Vm.out d).tail;have n:r.n=(ps.set i (g,some (a,(s.cut 0 65536).1))).length:=by rw[dM];exact hn
 refine⟨rfl,_,rfl,r,d.cellAt 16 rfl 1,Vm.el n d rfl c (λb hb _=>?_)⟩;rw[cj];refine sM ry (a':=(g,none)) (d.fr 17 rfl) hb c bN rfl (λC u=>⟨rfl,?_⟩);have e:=Sep.put (L:=Vm A v r (eb (s.ids 0 65536) S) (ps.set i (g,some (a,(s.cut 0 65536).1))) L) (q:=17) (A':=bw r 2 (bP hF ((ps.set i (g,some (a,(s.cut 0 65536).1))).set i (g,none)))) rfl u;have t:(ps.set i (g,some (a,(s.cut 0 65536).1))).set i (g,none)=ps.set i (g,none):=List.set_set ..;have hx:=RR (A:=A) (S:=eb (s.ids 0 65536) S) (v:=v) (r:=r) (L:=L) (c4.1 c).1 (bw r 2 (bP hF (ps.set i (g,none)))) emp (g,none) rfl;rw[t]at e hx;have e:Sep E (cg A (eb (s.ids 0 65536) S)++(bC v [Pb A.c,Sv r]::bw r 2 (bP hF (ps.set i (g,none)))::((ps.set i (g,some (a,(s.cut 0 65536).1))).map h6++L))) C:=e;have j:(cg A (eb (s.ids 0 65536) S)++(bC v [Pb A.c,Sv r]::bw r 2 (bP hF (ps.set i (g,none)))::((ps.set i (g,some (a,(s.cut 0 65536).1))).map h6++L)))[18+i]?=some (dW a (s.cut 0 65536).1):=RQ c _;have l:=Sep.put (A':=emp) j (Sep.emp.2 (e.fr _ j).tail);rw[hx]at l;exact l
end Go.Mp
namespace Go.Kw
def gD(p:PP):Pr:=match p.2 with|some s=>⟨p.1,s.cI.length,true⟩|none=>⟨p.1,0,false⟩
def EY(V:Vs):V.pr=V.procs.map gD:=rfl
end Go.Kw
namespace Go.Mp
open Go Go.Vc Go.Sp Go.Proofs Go.Kc Go.Kw Go.Kt
variable{E:Env}{L:cv}{w W:bH}{A:At}{S:Cs}{v:Nat}{r:Sl}{ps:PS}
def dD(ps:PS):Prop:=∀(i:Nat) g a s,ps[i]?=some (g,some (a,s))->fC s
def dD.less{cJ:PS}(h:dD ps)(k:iM ps cJ):dD cJ:=by
 intro i g a s c;rcases k.at_ i with e|⟨d,q,_,b⟩
 ·exact h i g a s (e▸c)
 ·rw[c]at b;cases b
def vK:hi P Vk=some (24,3,[Iv 0,Iv 0,.bool false]):=by kernel_rfl
def aKf(x:Pr):∀u∈x.vs,u.oneCell'=true:=by
 intro u hu;simp only[Pr.vs,ey,tE,tJ]at hu;rcases hu with rfl|rfl|rfl<;>rfl
def RX(N:dD ps)(hn:r.n=ps.length)(hb:ps.length<=1000)(h:Sep E (Vm A v r S ps L) w):Calls P uD #[Pb v] w
  (cA λx w'=>∃l:Sl,x=Sv l/\l.n=((plain ps).map gD).length/\Sep E (Vm A v r S ps (js l ((plain ps).map gD)::L)) w'):=by
 obtain⟨Q,C⟩:∃Q,(plain ps).map gD=Q:=⟨_,rfl⟩
 have R:Q.length=ps.length:=by rw[<- C,en,j9]
 rw[C];apply Zi;unfold Na qK qQ qU qW qZ qa qf qg qy zq zz;refine⟨_,rfl,r,h.cellAt 16 rfl 1,λl x w'=>∃k:Nat,x=k/\k<=ps.length/\l.n=(Q.take k).length/\Sep E (Vm A v r S ps (js l (Q.take k)::L)) w',λ_ x _=>(ps.length-x).toNat,⟨0,rfl,e7 _,rfl,Vm.e4 (bw.none_ h)⟩,?_⟩;rintro _ l _ W ⟨k,rfl,hk,hl,h1⟩;refine cX (λV=>?_) (λT=>?_)
 ·obtain⟨p,hp⟩:∃p,ps[k]?=some p:=⟨_,dN⟩
  obtain⟨g,o⟩:=p;have M:Q[k]?=some (gD (g,o.map Prod.snd)):=by rw[<- C,eI,iY hp];rfl
  have t:Q.take (k+1)=Q.take k++[gD (g,o.map Prod.snd)]:=fL M;obtain⟨x,hx⟩:∃x,gD (g,o.map Prod.snd)=x:=⟨_,rfl⟩
  rw[hx]at t;have U:l.n=k:=by rw[hl,hJ];omega
  refine Vm.el hn h1 rfl hp (λb _ D=>⟨g,by rw[cj];exact D 0 _ rfl,o.map (λq=>(⟨q.1,0,none⟩:Addr)),by rw[cj];exact D 1 _ rfl,Al.i h1 (λu w2 h2=>ew _ h2 rfl (λX B=>?_))⟩);refine ld B 0 rfl rfl rfl (ld B 0 rfl rfl rfl (Al.i B (λp2 Y K=>ew _ K rfl (λJ d=>?_))));have d:Sep E (bC p2 [Iv g,Iv 0,.bool (!(o.map λq=>(⟨q.1,0,none⟩:Addr)).isNone)]::bC u (hF (g,o))::Vm A v r S ps (js l (Q.take k)::L)) J:=d;refine⟨λw'=>Sep E (bC p2 x.vs::bC u (hF (g,o))::Vm A v r S ps (js l (Q.take k)::L)) w',ld d 0 rfl rfl rfl ?_,?_⟩
  ·cases o with
   |none=>
    refine bF rfl ?_;rw[<- hx];exact d
   |some q=>
    obtain⟨a,s⟩:=q;have H:=N k g a s hp;refine bT rfl (ld d 1 rfl rfl (x:=some ⟨a,0,none⟩) rfl ?_);have e:Sep E (Vm A v r S ps (bC p2 [Iv g,Iv 0,.bool true]::bC u (hF (g,some (a,s)))::js l (Q.take k)::L)) J:=Vm.hG [_,_] d;refine use (aGU H (Vm.op hp e)) ?_;rintro _ O ⟨rfl,j⟩;have m:=Vm.fl [_,_] (Vm.bk hp j);refine⟨_,rfl,St.i m (by show 1<3;decide) (λz f=>?_)⟩;rw[<- hx];exact f
  ·rintro _ O y;refine ld y 0 rfl rfl rfl (ld y 0 rfl rfl rfl (ld y 0 rfl rfl rfl (Al.i y (λI z e=>?_))));have e:Sep E (bC I x.vs::bC p2 x.vs::bC u (hF (g,o))::Vm A v r S ps (js l (Q.take k)::L)) z:=e;have G:=Src.bC (n:=1) (c:=1) e (i:=0) rfl vK rfl (aKf x);have j:=Vm.hG [_,_,_] e;have j:Sep E (Vm A v r S ps ([bC I x.vs,bC p2 x.vs,bC u (hF (g,o)),js l (Q.take k)]++L)) z:=j;have m:=(Vm.fl [_,_,_,_] j).ro 4 [3] rfl;have m:Sep E (js l (Q.take k)::Vm A v r S ps L) z:=m;refine bw.append m vK rfl G bu bu (λl' Z F f=>⟨⟨k+1,de,bu,?_,Vm.e4 ?_⟩,?_⟩);·rw[F,t,dg,hl];rfl
   ·unfold js;rw[t,m4,oL];exact f
   ·rw[de];dsimp only;omega
 ·have:k=ps.length:=by omega
  subst this;rw[iq bu]at hl h1;exact⟨l,rfl,hl,h1⟩
end Go.Mp
namespace Go.Kw
open Go Go.Kc Go.Kt
def RY(ins:bR):∀(l:bA Pr) (i:Int),(ih ins i l).Pairwise (· < ·)/\∀x∈ih ins i l,i<=x
 |[],_=>⟨List.Pairwise.nil,λ_ h=>by cases h⟩
 |p::r,i=>by
  obtain⟨h1,h2⟩:=RY ins r (i+1);unfold ih;split
  ·refine⟨g7.2 ⟨λx hx=>by have:=h2 x hx;omega,h1⟩,λx hx=>?_⟩;rcases ey.1 hx with rfl|hx;·exact g3 _
   ·have:=h2 x hx;omega
  ·exact⟨h1,λx hx=>by have:=h2 x hx;omega⟩
def RZ(T:bA G)(l:bA Pr)(t:Int)(wh:bA Bool):(mj T l t wh).Nodup:=by
 unfold mj;dsimp only;split;·exact List.nodup_nil
 ·split;·simp
  ·exact(RY _ l 0).1.imp λh=>bu
def aAx(a b:bR)(V:Vs):V.df (a++b)=(V.df a).df b:=y5
def cH.dV(o:cH)(pid:Int)(d:bR):cH:={o with bI:=o.bI++d,err:=if d= []then 12 else if pid∈d then 13 else o.err}
end Go.Kw
namespace Go.Mp
open Go Go.Vc Go.Sp Go.Proofs Go.Kc Go.Kw Go.Kt
variable{E:Env}{L:cv}{w W:bH}{A:At}{S:Cs}{v:Nat}{r:Sl}{ps:PS}
def c9(o:dw)(v sp:Nat)(out:cH)(a:Sl):bA bE:=[Iv o.kind,Iv o.a,Iv o.b,Iv o.c,Iv o.d,Pb v,Pb sp,Iv out.err,Iv out.n,Sv a]
def Vm.cell{b:Nat}{C:bA bE}(h:Sep E (Vm A v r S ps L) w)(k:Nat)(hk:L[k]?=some (bC b C))(o:Nat):w.cell? ⟨b,o,none⟩=C[o]? :=h.cellAt (18+ps.length+k) ((vJ k).trans hk) o
def Vm.ints{q:Sl}{l:bR}(hn:q.n=l.length):Ints E (Vm A v r S ps (bw q 1 (bD l)::L)) q l:=(Ints.row hn).of λ_ a=>Vm.out a
def R0{i:Nat}{g:Int}:plain (ps.set i (g,none))=(plain ps).set i (g,none):=by unfold plain;rw[hL];rfl
def aJR{c sp:Nat}{o:dw}{out:cH}{f:Sl}{t:Int}(aF:dD ps)(hn:r.n=ps.length)(hb:ps.length<=64)(aL:Kc.Inv S)(hk:f.n=out.bI.length)(aT:out.bI.length<=100000)(h:Sep E (Vm A v r S ps (bC c (c9 o v sp out f)::bw f 1 (bD out.bI)::L)) w):Calls P xM #[Pb c,Iv t] w
  (cA λx w'=>x=.bool (decide (dead ⟨S,plain ps⟩ t≠ []/\o.a∉dead ⟨S,plain ps⟩ t))/\∃(cJ:PS) (g:Sl),iM ps cJ/\plain cJ=(Vs.df ⟨S,plain ps⟩ (dead ⟨S,plain ps⟩ t)).procs/\g.n=(out.dV o.a (dead ⟨S,plain ps⟩ t)).bI.length/\
   Sep E (Vm A v r (Vs.df ⟨S,plain ps⟩ (dead ⟨S,plain ps⟩ t)).core cJ (bC c (c9 o v sp (out.dV o.a (dead ⟨S,plain ps⟩ t)) g)::bw g 1 (bD (out.dV o.a (dead ⟨S,plain ps⟩ t)).bI)::L)) w'):=by
 obtain⟨V,al⟩:∃V:Vs,V=⟨S,plain ps⟩:=⟨_,rfl⟩
 obtain⟨d,aw⟩:∃d,dead ⟨S,plain ps⟩ t=d:=⟨_,rfl⟩
 have K:mj S.tree ((plain ps).map gD) t (mX S)=d:=aw;have ax:(mX S).length=S.guards.length:=by unfold mX;rw[en]
 rw[aw,<- al];apply axa;unfold Ob qD qE qF qG qJ qK qL qO qR qW qZ;refine Dr.i h (λaX h1=>⟨_,rfl,some ⟨v,0,none⟩,Vm.cell h1 0 rfl 5,_,rfl,some ⟨A.c,0,none⟩,h1.cellAt 16 rfl 0,_,rfl,some ⟨v,0,none⟩,Vm.cell h1 0 rfl 5,_,rfl,some ⟨v,0,none⟩,Vm.cell h1 0 rfl 5,_,rfl,some ⟨A.c,0,none⟩,h1.cellAt 16 rfl 0,use (yH h1) ?_⟩);rintro _ w2 ⟨rfl,h2⟩;have h2:Sep E (Vm A v r S ps (bC c (c9 o v sp out f)::bw f 1 (bD out.bI)::L)) w2:=h2;refine⟨_,rfl,_,h2.cellAt 16 rfl 0,rfl,_,Vm.cell h2 0 rfl 5,rfl,_,Vm.cell h2 0 rfl 5,rfl,use (RX aF hn bu h2) ?_⟩;rintro _ aY ⟨l,rfl,hl,O⟩;refine⟨l,rfl,_,O.cellAt 16 rfl 0,rfl,_,Vm.cell O 1 rfl 5,rfl,use (aIy aL O) ?_⟩;rintro _ aN ⟨wl,rfl,aI,U⟩;have Z:=Vm.e4 (Sep.mB (Q:=cg A S) U);have Z:Sep E (Vm A v r S ps (bw wl 1 (dZ (mX S))::js l ((plain ps).map gD)::bC c (c9 o v sp out f)::bw f 1 (bD out.bI)::L)) aN:=Z;have af:∀k,((Vm A v r S ps (bw wl 1 (dZ (mX S))::js l ((plain ps).map gD)::bC c (c9 o v sp out f)::bw f 1 (bD out.bI)::L)).eraseIdx 1)[17+ps.length+k]?=(bw wl 1 (dZ (mX S))::js l ((plain ps).map gD)::bC c (c9 o v sp out f)::bw f 1 (bD out.bI)::L)[k]? :=by
  intro k;rw[List.getElem?_eraseIdx_of_ge bu,show 17+ps.length+k+1=18+ps.length+k by omega];exact vJ k
 have aE:((plain ps).map gD).length<=64:=by rw[en,j9];exact hb
 refine⟨wl,rfl,use (aGD (q:=17+ps.length+1) (q2:=17+ps.length+0) (b:=A.t) (T:=S.tree) (s:=l) (wl:=wl) (l:=(plain ps).map gD) (wh:=mX S) (t:=t) aL.wf (af 1) hl bu (af 0) (by rw[ax];exact aI) (Z.fr 1 rfl)) ?_⟩;rintro _ aJ ⟨i,rfl,p,ak⟩;rw[K]at p ak;have ar:=Vm.e4 (Sep.hS (L:=Vm A v r S ps (bw wl 1 (dZ (mX S))::js l ((plain ps).map gD)::bC c (c9 o v sp out f)::bw f 1 (bD out.bI)::L)) (q:=1) (A':=dR A.t S.tree) rfl ak);have au:Sep E (Vm A v r S ps (bw i 1 (bD d)::bw wl 1 (dZ (mX S))::js l ((plain ps).map gD)::bC c (c9 o v sp out f)::bw f 1 (bD out.bI)::L)) aJ:=ar;have av:=Vm.pL (L':=bw i 1 (bD d)::bC c (c9 o v sp out f)::bw f 1 (bD out.bI)::bw wl 1 (dZ (mX S))::js l ((plain ps).map gD)::L) (List.Perm.cons _ ((pV [_,_] [_,_] L))) au;have ao:Sep E (Vm A v r S ps (bw i 1 (bD d)::bC c (c9 o v sp out f)::bw f 1 (bD out.bI)::L)) aJ:=by
  have:=Vm.fl [_,_,_,_,_] av;exact Vm.hG [_,_,_] (this.ro 5 [0,1,2] rfl)
 clear h1 h2 O U Z ak ar au av;have aQ:d.length<=64:=by
  rw[<- K];unfold mj;dsimp only;split;·simp
  ·split;·simp
   ·exact mJ (yJ _ _ _) aE
 have aC:d.Nodup:=K▸RZ _ _ _ _;have ab:∀x∈d,∃s,V.space x=some s:=λx hx=>by rw[al];exact EV (V:=⟨S,plain ps⟩) (by rw[<- K]at hx;exact hx)
 refine⟨i,rfl,λx w'=>∃(k:Nat) (S':Cs) (cJ:PS),x=k/\k<=d.length/\iM ps cJ/\Kc.Inv S'/\(⟨S',plain cJ⟩:Vs)=V.df (d.take k)/\Sep E (Vm A v r S' cJ (bw i 1 (bD d)::bC c (c9 o v sp out f)::bw f 1 (bD out.bI)::L)) w',λx _=>(d.length-x).toNat,⟨0,S,ps,rfl,e7 _,iM.refl _,aL,al.symm,ao⟩,?_⟩;rintro _ _ aZ ⟨k,S',cJ,rfl,aU,M,ai,N,I⟩;have aB:r.n=cJ.length:=by rw[M.len];exact hn
 refine cX (λaV=>?_) (λaR=>?_)
 ·obtain⟨x,hx⟩:∃x,d[k]?=some x:=⟨_,dN⟩
  obtain⟨s,aH⟩:=ab x (eH hx);obtain⟨aj,aD⟩:=jt aH;have an:x∉d.take k:=by
   intro hm;obtain⟨j,R⟩:=FZ hm;rw[o2]at R;split at R
   ·next aS=>
    have ag:=(c4.1 hx).1;have ah:=(c4.1 R).1;have:=(List.getElem_inj (h₀:=ah) (h₁:=ag) aC).1 (by rw[dL ah]at R;rw[dL ag]at hx;rw[cU R,cU hx]);omega
   ·cases R
  have X:(plain cJ)[x.toNat]?=some (V.group x,some s):=by
   have U:=(ti (d.take k) V).2.2.2 x.toNat (by rw[show((x.toNat:Nat):Int)=x by omega];exact an);rw[<- N]at U;exact U.trans aD
  obtain⟨a,am⟩:=RP X;refine(Vm.ints (L:=bC c (c9 o v sp out f)::bw f 1 (bD out.bI)::L) p).el I k rfl hx ⟨_,rfl,some ⟨v,0,none⟩,Vm.cell I 1 rfl 5,?_⟩;have Y:x=((x.toNat:Nat):Int):=by omega
  rw[Y];refine use (RW am ((aF.less M) _ _ _ _ am) aB ai I) ?_;rintro _ aK ⟨rfl,n⟩;refine⟨rfl,⟨k+1,_,_,de,bu,M.trans (iM.die am),((vD (s.ids 0 65536) S').inv ai (by have:=ai.ids;omega)).1,?_,n⟩,by rw[de];dsimp only;omega⟩;rw[fL hx,aAx,<- N];show _=Vs.exit ⟨S',plain cJ⟩ x;have aG:Vs.space ⟨S',plain cJ⟩ x=some s:=by
   have:=(jU (V:=⟨S',plain cJ⟩) X).1;rwa[<- Y]at this
  have ay:Vs.group ⟨S',plain cJ⟩ x=V.group x:=by
   have:=(jU (V:=⟨S',plain cJ⟩) X).2;rwa[<- Y]at this
  rw[vF aG,R0,ay]
 ·have:k=d.length:=by omega
  subst this;rw[gg]at N;rw[<- N];have aa:(out.dV o.a d).bI=out.bI++d:=rfl;rw[aa];have n:=Vm.fl [_,_,_] I;have F:=Src.sub (l:=0) (n':=i.n) (c':=i.c) n (q:=0) rfl yb bu (λu hu=>by obtain⟨z,_,rfl⟩:=fo.1 hu;rfl);rw[vd (n.fr 0 rfl) i.c]at F;have ad:((bD d).drop (0*1)).take (i.n*1)=bD d:=by
   rw[oh,rK,fM,iq (by simp[bD,p])]
  rw[ad]at F;refine⟨_,rfl,f,n.cellAt 1 rfl 9,bw.app (n.ro 3 [2,0,1] rfl) yb rfl F (by rw[hk];omega) (λg aK az ae=>⟨_,rfl,?_⟩)⟩;have aM:bD out.bI++bD d=bD (out.bI++d):=by simp[bD]
  rw[aM]at ae;have aA:g.n=(out.bI++d).length:=by rw[az,hk,dg,p]
  have ap:Sep E (bC c (c9 o v sp out f)::bw g 1 (bD (out.bI++d))::bw i 1 (bD d)::Vm A v r S' cJ L) aK:=ae.ro 3 [2,0,1] rfl;refine St.i ap (by show 9<10;decide) (λaO y=>?_);obtain⟨C,B⟩:∃C:cH,C= {out with bI:=out.bI++d} :=⟨_,rfl⟩
  have y:Sep E (bC c (c9 o v sp C g)::bw g 1 (bD (out.bI++d))::bw i 1 (bD d)::Vm A v r S' cJ L) aO:=by rw[B];exact y
  have fin:∀ {w:bH} {e:Int} {b:Bool},(out.dV o.a d)= {C with err:=e}->b=decide (d≠ []/\o.a∉d)->Sep E (bC c (c9 o v sp {C with err:=e} g)::bw g 1 (bD (out.bI++d))::bw i 1 (bD d)::Vm A v r S' cJ L) w->
    Value.bool b=.bool (decide (d≠ []/\o.a∉d))/\∃(H:PS) (G:Sl),iM ps H/\plain H=plain cJ/\G.n=(out.bI++d).length/\Sep E (Vm A v r S' H (bC c (c9 o v sp (out.dV o.a d) G)::bw G 1 (bD (out.bI++d))::L)) w:=by
   intro w e b h1 h2 O;refine⟨by rw[h2],cJ,g,M,rfl,aA,?_⟩;rw[h1];exact Vm.hG [_,_] (O.ro 3 [0,1] rfl)
  refine eX (λaj=>⟨_,rfl,St.i y (by show 7<10;decide) (λaP J=>fin (e:=12) ?_ ?_ J)⟩) (λaj=>⟨_,rfl,o.a,y.cell 1,use (ER (l:=d) (L:=bC c (c9 o v sp C g)::bw g 1 (bD (out.bI++d))::bw i 1 (bD d)::Vm A v r S' cJ L) (Ints.at_ (q:=2) rfl p) bu o.a y) ?_⟩)
  ·have m:d= []:=tr bu;rw[B];unfold cH.dV;rw[bL m]
  ·have m:d= []:=tr bu;exact(di λe=>e.1 m).symm
  ·have m:d≠ []:=λe=>aj (by rw[p,e];rfl);rintro _ aP ⟨rfl,J⟩;refine⟨_,rfl,cw (λD=>⟨_,rfl,St.i J (by show 7<10;decide) (λaW aq=>fin (e:=13) ?_ ?_ aq)⟩) (λD=>fin (e:=out.err) ?_ ?_ ?_)⟩;·rw[B];unfold cH.dV;rw[bJ m,bL (kX.1 D)]
   ·exact(di λe=>e.2 (kX.1 D)).symm
   ·have W:o.a∉d:=λe=>by rw[kX.2 e]at D;cases D
    rw[B];unfold cH.dV;rw[bJ m,bJ W]
   ·have W:o.a∉d:=λe=>by rw[kX.2 e]at D;cases D
    exact(dE ⟨m,W⟩).symm
   ·have:({C with err:=out.err} :cH)=C:=by rw[B]
    rw[this];exact J
def tl(w:bH)(b:Nat):Nat->Nat
 |0=>0
 |k+1=>tl w b k+(match w.cell? ⟨b,k*2+1,none⟩with|some (.pointer (some _))=>1|_=>0)
def EZ{b:Nat}(hb:r.p=some ⟨b,0,none⟩)(hn:r.n=ps.length)(h:Sep E (Vm A v r S ps L) w):∀k,k<=ps.length->tl w b k=iX ((plain ps).take k)
 |0,_=>rfl
 |k+1,hk=>by
  obtain⟨p,hp⟩:∃p,ps[k]?=some p:=⟨_,dN⟩
  have e:=EZ hb hn h k bu;have c:w.cell? ⟨b,k*2+1,none⟩=some (.pointer (p.2.map λq=>⟨q.1,0,none⟩)):=by
   have:=Vm.el (F:=λa=>w.cell? (a.add 1)=some (.pointer (p.2.map λq=>⟨q.1,0,none⟩))) hn h rfl hp (λf _ c=>by rw[cj];exact c 1 _ rfl);obtain⟨a,d,_,hf⟩:=this;rw[hb]at d;cases d;rw[cj,cj]at hf;rw[<- hf];congr 2;omega
  unfold tl iX;rw[fL (iY hp),List.countP_append,c,e];obtain⟨g,o⟩:=p;cases o with
  |none=>rfl
  |some q=>rfl
def oW(c:ch)(jO:bE)(K:bg1)(R:bg0)(w:bH):Prop:=
 Dr (λa=>NN c λa25=>∃g:ch,a.cell? (a25.add 5)=some (.pointer g)/\NN g λa27=>∃e:Sl,a.cell? (a27.add 1)=some (Sv e)/\NN c λa29=>∃h:Int,a.cell? ((a29.add 0).add 1)=some (Iv h)/\cM e.p e.n h 2 λm=>∃i:Int,a.cell? (m.add 0)=some (Iv i)/\eY P jO #[(Iv i)] a λo d=>∃j:Int,∃k:Int,∃b:Int,o=.returned (.tuple #[(Iv j),(Iv k),(Iv b)])/\bif(b==0)then(K (.tuple #[(Iv j),(.bool true)]) d)else(bif(b !=12)then(NN c λn=>St ((n.add 7).add 0) (Iv b) (λq=>K (.tuple #[(Iv (-1)),(.bool false)]) q) d)else(Calls P xM #[(.pointer c),(Iv k)] d λp f=>∃l:Bool,p=.returned (.bool l)/\bif l then(R f)else(K (.tuple #[(Iv (-1)),(.bool false)]) f)))) w
def aJi(c:ch)(jO:bE)(K:bg1)(w:bH):Oj c jO K w=∃(a:bg0) (M2:bH->Nat),oW c jO K a w/\∀d:Nat->bE,∀b:bH,a b->oW c jO K (λw'=>a w'/\M2 w'<M2 b) b:=rfl
def R1(E:Env)(A:At)(v:Nat)(r:Sl)(c sp:Nat)(o:dw)(L:cv)(fv:bE)(f:Cs->Int->Cs×Int×Int×Int):Prop:=
 ∀(S:Cs) (ps:PS) (out:cH) (a:Sl) (g:Int) (w:bH),Kc.Inv S->S.bt.next<16777216->Sep E (Vm A v r S ps (bC c (c9 o v sp out a)::bw a 1 (bD out.bI)::L)) w->
  eY P fv #[Iv g] w (cY E (.tuple #[Iv (f S g).2.1,Iv (f S g).2.2.1,Iv (f S g).2.2.2]) (Vm A v r (f S g).1 ps (bC c (c9 o v sp out a)::bw a 1 (bD out.bI)::L)))
def vL(x:bW Int):bE:=match x with
 |some id=>.tuple #[Iv id,.bool true]
 |none=>.tuple #[Iv (-1),.bool false]
def h7(E:Env)(A:At)(v:Nat)(r:Sl)(c sp:Nat)(o:dw)(L:cv)(ps:PS)(q:Vs×cH×bW Int)(x:bE)(w:bH):Prop:=
 x=vL q.2.2/\∃(cJ:PS) (a:Sl),iM ps cJ/\plain cJ=q.1.procs/\a.n=q.2.1.bI.length/\Sep E (Vm A v r q.1.core cJ (bC c (c9 o v sp q.2.1 a)::bw a 1 (bD q.2.1.bI)::L)) w
def R2{c sp:Nat}{o:dw}{out:cH}{B:Sl}{fv:bE}{f:Cs->Int->Cs×Int×Int×Int}{n:Nat}{R:bg0}{ae:Nat×Kw.Sp}{F:PS}(y:iM F ps)(hf:R1 E A v r c sp o L fv f)(hr:∀S g,cr 1 S (f S g).1)(ad:dD ps)(hn:r.n=ps.length)(hb:ps.length<=64)(ag:Kc.Inv S)(T:S.bt.next<16777216)(hk:B.n=out.bI.length)(O:out.bI.length<=100000)(ai:0<=o.a){g:Int}(hp:ps[o.a.toNat]?=some (g,some ae))(h:Sep E (Vm A v r S ps (bC c (c9 o v sp out B)::bw B 1 (bD out.bI)::L)) w)(N:∀(S':Cs) (cJ:PS) (out':cH) (j:Sl) (w':bH),fE f o.a n ⟨S',plain cJ⟩ out'=fE f o.a (n+1) ⟨S,plain ps⟩ out->iX (plain cJ)<iX (plain ps)->iM F cJ->cr 1 S S'->j.n=out'.bI.length->out'.bI.length<=out.bI.length+64->cJ[o.a.toNat]?=ps[o.a.toNat]?->
   Sep E (Vm A v r S' cJ (bC c (c9 o v sp out' j)::bw j 1 (bD out'.bI)::L)) w'->R w'):
  oW (some ⟨c,0,none⟩) fv (h7 E A v r c sp o L F (fE f o.a (n+1) ⟨S,plain ps⟩ out)) R w:=by
 obtain⟨Q,a⟩:∃Q,fE f o.a (n+1) ⟨S,plain ps⟩ out=Q:=⟨_,rfl⟩
 rw[a]at N ⊢;rw[vG]at a;have ab:Vs.group ⟨S,plain ps⟩ o.a=g:=by
  have:=(jU (V:=⟨S,plain ps⟩) (iY hp)).2;rwa[show((o.a.toNat:Nat):Int)=o.a by omega]at this
 dsimp only at a;rw[ab]at a;unfold oW;refine Dr.i h (λaf h1=>⟨_,rfl,some ⟨v,0,none⟩,Vm.cell h1 0 rfl 5,_,rfl,r,h1.cellAt 16 rfl 1,_,rfl,o.a,Vm.cell h1 0 rfl 1,Vm.el hn h1 (show o.a=((o.a.toNat:Nat):Int) by omega) hp (λb _ p=>⟨g,by rw[cj];exact p 0 _ rfl,oO (hf S ps out B g af ag T h1) ?_⟩)⟩);rintro _ w2 ⟨rfl,h2⟩;have t:=hr S g;have J:=t.inv ag bu;generalize aj:f S g=q at a h2 t J;refine⟨_,_,_,rfl,eX (λhe=>?_) (λhe=>iz (λP=>⟨_,rfl,?_⟩) (λheq=>?_))⟩
 ·rw[bL he]at a;rw[<- a];exact⟨rfl,ps,B,y,rfl,hk,h2⟩
 ·rw[bJ he,bL P]at a;rw[<- a];have z:=Vm.fl [_] h2;refine St.i z (by show 7<10;decide) (λW l=>⟨rfl,ps,B,y,rfl,hk,?_⟩);exact Vm.hG [_] l
 ·rw[bJ he,cF]at a;refine use (aJR (S:=q.1) ad hn hb J.1 hk O h2) ?_;rintro _ W ⟨rfl,cJ,j,C,m,u,z⟩;have k:=ti (dead ⟨q.1,plain ps⟩ q.2.2.1) ⟨q.1,plain ps⟩;have I:∀x∈dead ⟨q.1,plain ps⟩ q.2.2.1,∃s,Vs.space ⟨q.1,plain ps⟩ x=some s:=λx hx=>EV hx;have G:(dead ⟨q.1,plain ps⟩ q.2.2.1).length<=64:=by
   have K:(Vs.pr ⟨q.1,plain ps⟩).length<=64:=by rw[EY,en];show(plain ps).length<=64;rw[j9];exact hb
   unfold dead mj;dsimp only;split;·simp
   ·split;·simp
    ·exact mJ (yJ _ _ _) K
  generalize dead ⟨q.1,plain ps⟩ q.2.2.1=d at a z u m k I G;refine⟨_,rfl,cw (λp=>?_) (λp=>?_)⟩
  ·obtain⟨i,D⟩:=mG p;rw[bJ i,bJ D]at a;have ho:out.dV o.a d= {out with bI:=out.bI++d} :=by unfold cH.dV;rw[bJ i,bJ D]
   rw[ho]at z u;refine N _ cJ {out with bI:=out.bI++d} j W ?_ ?_ (y.trans C) (t.trans k.1) u (by show(out.bI++d).length<=_;rw[dg];omega) ?_ z;·rw[<- a,m]
   ·rw[m];cases d with
    |nil=>exact absurd rfl i
    |cons x d=>
     obtain⟨s,U⟩:=I x fz;exact RM (V:=⟨q.1,plain ps⟩) (by rw[U];rfl)
   ·rcases C.at_ o.a.toNat with e|⟨Y,ak,ah,X⟩
    ·exact e
    ·exfalso;have l:=k.2.2.2 o.a.toNat (by rw[show((o.a.toNat:Nat):Int)=o.a by omega];exact D);rw[<- m]at l;have Z:=iY X;rw[Z]at l;have aa:=iY hp;have l:some (Y,none)=(plain ps)[o.a.toNat]? :=l;rw[aa]at l;cases l
  ·have p:=kb p;have M:(Vs.df ⟨q.1,plain ps⟩ d,out.dV o.a d,none)=Q:=by
    by_cases i:d= []
    ·rw[bL i]at a;rw[<- a];unfold cH.dV;rw[bL i]
    ·have H:o.a∈d:=rE λe=>p ⟨i,e⟩;rw[bJ i,bL H]at a;rw[<- a];unfold cH.dV;rw[bJ i,bL H]
   rw[<- M];exact⟨rfl,cJ,j,y.trans C,m,u,z⟩
def E0{c sp:Nat}{o:dw}{out:cH}{J:Sl}{fv:bE}{f:Cs->Int->Cs×Int×Int×Int}{K:Nat×Kw.Sp}(hf:R1 E A v r c sp o L fv f)(hr:∀S g,cr 1 S (f S g).1)(V:dD ps)(hn:r.n=ps.length)(hb:ps.length<=64)(ag:Kc.Inv S)(ak:S.bt.next+66<=16777216)(hk:J.n=out.bI.length)(u:out.bI= [])(N:0<=o.a){g:Int}(hp:ps[o.a.toNat]?=some (g,some K))(h:Sep E (Vm A v r S ps (bC c (c9 o v sp out J)::bw J 1 (bD out.bI)::L)) w):
  Calls P xF #[Pb c,fv] w (cA (h7 E A v r c sp o L ps (Vs.eZ ⟨S,plain ps⟩ f o.a out))):=by
 apply ayj;rw[aJi];have aj:=(c4.1 hp).1;obtain⟨b,B⟩:∃b,r.p=some ⟨b,0,none⟩:=by
  have:=Vm.el (F:=λ_=>∃b,r.p=some ⟨b,0,none⟩) hn h rfl hp (λb hb _=>⟨b,hb⟩);obtain⟨_,_,_,Z⟩:=this;exact Z
 have ai:iX (plain ps)<=ps.length:=by unfold iX;have:=FU (p:=λp:PP=>p.2.isSome) (l:=plain ps);rw[j9]at this;exact this
 have W:Vs.eZ ⟨S,plain ps⟩ f o.a out=fE f o.a (ps.length+1) ⟨S,plain ps⟩ out:=by unfold Vs.eZ;rw[j9]
 rw[W];obtain⟨Q,H⟩:∃Q,fE f o.a (ps.length+1) ⟨S,plain ps⟩ out=Q:=⟨_,rfl⟩
 rw[H];have x:∀ {cJ:PS},cJ[o.a.toNat]?=some (g,some K)->0<iX (plain cJ):=λh1=>List.countP_pos_iff.2 ⟨_,eH (iY h1),rfl⟩;refine⟨λw'=>∃(n:Nat) (S':Cs) (cJ:PS) (out':cH) (a:Sl),fE f o.a (n+1) ⟨S',plain cJ⟩ out'=Q/\iX (plain cJ)<=n/\n<=64/\iM ps cJ/\Kc.Inv S'/\S'.bt.next+n+1<=16777216/\a.n=out'.bI.length/\out'.bI.length+64*n<=100000/\cJ[o.a.toNat]?=some (g,some K)/\
  Sep E (Vm A v r S' cJ (bC c (c9 o v sp out' a)::bw a 1 (bD out'.bI)::L)) w',λw'=>tl w' b ps.length,?_,?_⟩
 ·rw[<- H];refine R2 (iM.refl _) hf hr V hn hb ag bu hk (by rw[u];simp) N hp h (λS' cJ out' a w' h1 h2 C i D s G t=>?_);have I:=i.inv ag bu;have T:=x (cJ:=cJ) (G.trans hp);obtain⟨m,hm⟩:∃m,ps.length=m+1:=⟨ps.length-1,bu⟩
  refine⟨m,S',cJ,out',a,by rw[<- hm,h1,H],bu,bu,C,I.1,bu,D,?_,G.trans hp,t⟩;rw[u]at s;simp only[p0]at s;omega
 ·rintro _ af ⟨n,am,e,ae,al,z,ah,ab,d,M,ad,R,aa,j,h1⟩;have y:r.n=e.length:=by rw[d.len];exact hn
  have k:=EZ B y h1 e.length (ep _);rw[<- z];refine R2 d hf hr (V.less d) y (by rw[d.len];exact hb) M bu R bu N j h1 (λS' cJ out' a w' h2 C i D s G t O=>?_);have I:=D.inv M bu;have T:=x (cJ:=cJ) (t.trans j);obtain⟨m,hm⟩:∃m,n=m+1:=⟨n-1,bu⟩
  have U:r.n=cJ.length:=by rw[i.len];exact hn
  have q:=EZ B U O cJ.length (ep _);refine⟨⟨m,S',cJ,out',a,by rw[<- hm,h2,z],bu,bu,i,I.1,bu,s,bu,t.trans j,O⟩,?_⟩;have X:(plain cJ).take cJ.length=plain cJ:=iq (by rw[j9];exact ep _);have Y:(plain e).take e.length=plain e:=iq (by rw[j9];exact ep _);rw[X]at q;rw[Y]at k;rw[i.len]at q;rw[d.len]at k;show tl w' b ps.length<tl af b ps.length;rw[k,q];exact C
end Go.Mp
namespace Go.Kc
open Go Go.Kt
variable{S:Cs}
def R3(h:Inv S)(hn:S.bt.next<16777216){g:Int}(hl:S.live g=true)(text:bA UInt8)(he:(S.c3 g text).2.2.2=0):0<=(S.c3 g text).2.1/\(S.c3 g text).2.1<16777216:=by
 rcases uu h hn hl text with⟨S0,a,k,e,_⟩|⟨S0,t,k,e⟩
 ·rw[e];exact⟨h.cI.next,hn⟩
 ·rw[e]at he;cases he
def R4(h:Inv S)(hn:S.bt.next<16777216){g:Int}(he:(S.fresh g).2.2.2=0):0<=(S.fresh g).2.1/\(S.fresh g).2.1<16777216:=by
 unfold Cs.fresh at he ⊢;split at he;·cases he
 ·next hl=>rw[bJ hl];exact R3 h hn (by simpa using hl) _ he
def R5(h:Inv S)(hn:S.bt.next<16777216){id g:Int}(he:(S.copy id g).2.2.2=0):0<=(S.copy id g).2.1/\(S.copy id g).2.1<16777216:=by
 unfold Cs.copy at he ⊢;dsimp only at he ⊢;split at he;·cases he
 ·next hl=>
  rw[bJ hl];have hl:S.live g=true:=by
   cases a:S.live g with
   |true=>rfl
   |false=>exact absurd (.inr (.inl a)) hl
  exact R3 h hn hl _ he
def R6(h:Inv S)(hn:S.bt.next<16777216){k:Int×Int}{g:Int}(he:(S.cN k g).2.2.2=0):0<=(S.cN k g).2.1/\(S.cN k g).2.1<16777216:=by
 unfold Cs.cN at he ⊢;dsimp only at he ⊢;split at he;·cases he
 next a=>
 rw[bJ a];by_cases hm:S.bt.of k<0
 ·rw[dE hm]at he ⊢;simp only[gQ]at he ⊢;have hl:S.live g=true:=by
   cases b:S.live g with
   |true=>rfl
   |false=>exact absurd (.inr b) a
  have c:=pv S.bt (kf:=k.1) (ki:=k.2) (o:=g) ⟨h.cI.next,hn⟩ (.inr hm);split at he;·next hb=>rw[bL hb];dsimp only;rw[c.1];exact⟨h.cI.next,hn⟩
  ·next hb=>exact absurd he hb
 ·rw[di hm]at he ⊢;simp only[l2,gP]at he ⊢;obtain⟨p,hp,_⟩:=HJ h.toInv0 (k:=k) bu;have:=h.cI.ids _ _ hp;split at he;·next hb=>rw[bL hb];dsimp only;omega
  ·next hb=>exact absurd he hb
end Go.Kc
namespace Go.Kw
open Go Go.Kc Go.Kt
def E1{f:Cs->Int->Cs×Int×Int×Int}{pid:Int}(hf:∀S g,cr 1 S (f S g).1)(eQ:∀S g,Kc.Inv S->S.bt.next<16777216->(f S g).2.2.2=0->0<=(f S g).2.1/\(f S g).2.1<16777216):∀(n:Nat) (V:Vs) (o:cH) (id:Int),Kc.Inv V.core->V.core.bt.next+n<=16777216->(fE f pid n V o).2.2=some id->0<=id/\id<16777216
 |0,V,o,id,_,_,h=>by cases h
 |n+1,V,o,id,b,hn,h=>by
  rw[vG]at h;dsimp only at h;have h1:=hf V.core (V.group pid);have h2:=eQ V.core (V.group pid) b bu;have a:=h1.inv b bu;generalize f V.core (V.group pid)=r at h h1 h2 a;split at h;·next he=>cases h;exact h2 he
  split at h;·cases h
  generalize dead {V with core:=r.1} r.2.2.1=d at h;have hm:r.1.bt.next<=V.core.bt.next+1:=a.2.2;have b1:=((ti d {V with core:=r.1}).1).inv a.1 (by show r.1.bt.next+0<=_;omega);have hk:(Vs.df {V with core:=r.1} d).core.bt.next<=r.1.bt.next+0:=b1.2.2;split at h;·cases h
  split at h;·cases h
  exact E1 hf eQ n _ _ id b1.1 bu h
end Go.Kw
namespace Go.Mp
open Go Go.Vc Go.Sp Go.Proofs Go.Kc Go.Kw Go.Kt
variable{E:Env}{L:cv}{w W:bH}{A:At}{S:Cs}{v:Nat}{r:Sl}{ps:PS}
def lW{c sp:Nat}{o:dw}{out:cH}{a:Sl}(F:cv)(h:Sep E (Vm A v r S ps (bC c (c9 o v sp out a)::bw a 1 (bD out.bI)::(F++L))) w):Sep E (F++Vm A v r S ps (bC c (c9 o v sp out a)::bw a 1 (bD out.bI)::L)) w:=
 Vm.fl F (Vm.pL (L':=F++(bC c (c9 o v sp out a)::bw a 1 (bD out.bI)::L)) (pV [_,_] F L) h)
def lz{c sp:Nat}{o:dw}{out:cH}{a:Sl}(F:cv)(h:Sep E (F++Vm A v r S ps (bC c (c9 o v sp out a)::bw a 1 (bD out.bI)::L)) w):Sep E (Vm A v r S ps (bC c (c9 o v sp out a)::bw a 1 (bD out.bI)::(F++L))) w:=
 Vm.pL (L:=F++(bC c (c9 o v sp out a)::bw a 1 (bD out.bI)::L)) (pV F [_,_] L) (Vm.hG F h)
def pQ{i a:Nat}{g:Int}{s:Kw.Sp}:plain (ps.set i (g,some (a,s)))=(plain ps).set i (g,some s):=by unfold plain;rw[hL];rfl
def kV(E:Env)(A:At)(v:Nat)(r:Sl)(c sp:Nat)(o:dw)(L:cv)(n:Nat)(S:Cs)(q:Vs×cH×bW Int)(x:bE)(w:bH):Prop:=
 x=vL q.2.2/\cr 66 S q.1.core/\∃(cJ:PS) (a:Sl),dD cJ/\cJ.length=n/\plain cJ=q.1.procs/\a.n=q.2.1.bI.length/\(q.2.2.isSome=true->∃g s,cJ[o.a.toNat]?=some (g,some (sp,s)))/\
  Sep E (Vm A v r q.1.core cJ (bC c (c9 o v sp q.2.1 a)::bw a 1 (bD q.2.1.bI)::L)) w
def h7.cut{c sp:Nat}{o:dw}{F:cv}{q:Vs×cH×bW Int}{x:bE}(h:h7 E A v r c sp o (F++L) ps q x w):h7 E A v r c sp o L ps q x w:=by
 obtain⟨h1,cJ,a,h2,b,d,e⟩:=h;exact⟨h1,cJ,a,h2,b,d,(lW F e).right⟩
def kV.cut{c sp n:Nat}{o:dw}{F:cv}{q:Vs×cH×bW Int}{x:bE}(h:kV E A v r c sp o (F++L) n S q x w):kV E A v r c sp o L n S q x w:=by
 obtain⟨h1,b,cJ,a,i,h2,d,e,f,g⟩:=h;exact⟨h1,b,cJ,a,i,h2,d,e,f,(lW F g).right⟩
def iM.own{cJ:PS}(h:iM ps cJ){i:Nat}{g:Int}{q:Nat×Kw.Sp}(hp:ps[i]?=some (g,some q))(he:(plain cJ)[i]?=(plain ps)[i]?):cJ[i]?=some (g,some q):=by
 rcases h.at_ i with e|⟨c,d,b,a⟩
 ·exact e.trans hp
 ·rw[iY a,iY hp]at he;cases he
def E2{f:Cs->Int->Cs×Int×Int×Int}(hr:∀S g,cr 1 S (f S g).1){pid:Int}(j:0<=pid){out:cH}{cJ:PS}{q:Vs×cH×bW Int}(a:Vs.eZ ⟨S,plain ps⟩ f pid out=q)(b:iM ps cJ)(c:plain cJ=q.1.procs){g:Int}{d:Nat×Kw.Sp}(hp:ps[pid.toNat]?=some (g,some d))(i:q.2.2.isSome=true):cJ[pid.toNat]?=some (g,some d):=by
 have h:=(vH (pid:=pid) hr ((plain ps).length+1) ⟨S,plain ps⟩ out).2.2;have a:fE f pid ((plain ps).length+1) ⟨S,plain ps⟩ out=q:=a;rw[a]at h;rcases h i with e|e;·exact b.own hp (by rw[c];exact e)
 ·omega
def E3{f:Cs->Int->Cs×Int×Int×Int}(hr:∀S g,cr 1 S (f S g).1)(hb:ps.length<=64)(pid:Int)(out:cH):cr 66 S (Vs.eZ ⟨S,plain ps⟩ f pid out).1.core:=by
 have h:=(vH (pid:=pid) hr ((plain ps).length+1) ⟨S,plain ps⟩ out).1;exact h.up (by rw[j9];omega)
def h7.kV{c sp:Nat}{o:dw}{f:Cs->Int->Cs×Int×Int×Int}{out:cH}{x:bE}(hr:∀S g,cr 1 S (f S g).1)(a:dD ps)(hb:ps.length<=64)(e:0<=o.a){g:Int}{s:Kw.Sp}(hp:ps[o.a.toNat]?=some (g,some (sp,s)))(h:h7 E A v r c sp o L ps (Vs.eZ ⟨S,plain ps⟩ f o.a out) x w):kV E A v r c sp o L ps.length S (Vs.eZ ⟨S,plain ps⟩ f o.a out) x w:=by
 obtain⟨h1,cJ,d,h2,b,i,j⟩:=h;exact⟨h1,E3 hr hb _ _,cJ,d,a.less h2,h2.len,b,i,λa=>⟨g,s,E2 hr e rfl h2 b hp a⟩,j⟩
def dD.set(h:dD ps){i a:Nat}{g:Int}{s:Kw.Sp}(d:fC s):dD (ps.set i (g,some (a,s))):=by
 intro j c a' s' b;rw[hd]at b;split at b
 ·split at b;·cases b;exact d
  ·cases b
 ·exact h j c a' s' b
def R7{c sp k:Nat}{o:dw}{out:cH}{a:Sl}{bK id:Int}{wr:Bool}{g:Int}{s:Kw.Sp}(hk:k=1\/k=2)(eQ:0<=id/\id<16777216)(b:fC s)(e:Kc.Inv S)(hp:ps[o.a.toNat]?=some (g,some (sp,s)))(h:Sep E (Vm A v r S ps (bC c (c9 o v sp out a)::L)) w):Calls P BQ #[Pb c,Iv bK,Iv id,Iv (k:Int),.bool wr] w
  (cY E (.tuple #[]) (Vm A v r (S.bO id 1).1 (ps.set o.a.toNat (g,some (sp,s.enter bK id k wr))) (bC c (c9 o v sp out a)::L))):=by
 apply avH;unfold NX qQ qZ;refine⟨_,rfl,some ⟨v,0,none⟩,Vm.cell h 0 rfl 5,_,rfl,some ⟨A.c,0,none⟩,h.cellAt 16 rfl 0,use (yG (id:=id) (n:=1) e h) ?_⟩;rintro _ d ⟨rfl,h1⟩;have h1:Sep E (Vm A v r (S.bO id 1).1 ps (bC c (c9 o v sp out a)::L)) d:=h1;refine⟨_,rfl,_,rfl,some ⟨sp,0,none⟩,Vm.cell h1 0 rfl 6,use (aIN (bK:=bK) (id:=id) (k:=k) (wr:=wr) hk bu b (Vm.op hp h1)) ?_⟩;rintro _ w2 ⟨⟨x,rfl⟩,h2⟩;exact⟨_,rfl,rfl,Vm.sh hp h2⟩
def R8{V:Vs}{pid p id:Int}{k:Nat}{wr:Bool}{s:Kw.Sp}(h:V.space pid=some s):V.enter pid p id k wr=⟨(V.core.bO id 1).1,V.procs.set pid.toNat (V.group pid,some (s.enter p id k wr))⟩:=by
 unfold Vs.enter;have h1:Vs.space {V with core:=(V.core.bO id 1).1} pid=some s:=h;dsimp only;rw[h1];rfl
def R9{c sp:Nat}{o:dw}{out:cH}{m:Sl}{id:Int}(z:dD ps)(hn:r.n=ps.length)(hb:ps.length<=64)(H:Kc.Inv S)(t:S.bt.next+66<=16777216)(hk:m.n=out.bI.length)(q:out.bI= [])(n:0<=o.a){g:Int}{s:Kw.Sp}(hp:ps[o.a.toNat]?=some (g,some (sp,s)))(h:Sep E (Vm A v r S ps (bC c (c9 o v sp out m)::bw m 1 (bD out.bI)::L)) w):
  Calls P BO #[Pb c,Iv id] w (cA (kV E A v r c sp o L ps.length S (Vs.cd ⟨S,plain ps⟩ o.a id out))):=by
 have hr:∀(S:Cs) (g:Int),cr 1 S ((λ(S:Cs) g=>let r:=S.cd id g;(r.1,id,r.2)) S g).1:=λS g=>(cr.cd id g).up bu;apply avG;unfold NU qC qb qp;refine Al.i h (λe I h1=>Al.i h1 (λi w2 h2=>?_));have C:=lz [bC i [Iv id],bC e [Pb c]] h2;refine⟨some ⟨c,0,none⟩,h2.cellAt 1 rfl 0,use (E0 (fv:=.func (.func Ci) #[] #[Pb e,Pb i]) (f:=λS g=>let r:=S.cd id g;(r.1,id,r.2)) (λS' cJ out' j k w' B G h'=>⟨_,_,rfl,by kernel_rfl,?_⟩) hr z hn hb H t hk q n hp C) ?_⟩
 ·show Calls P Ci #[Iv k,Pb e,Pb i] w' _;apply asr;unfold Oa qD qZ qb qj;refine Dr.i h' (λD a=>⟨some ⟨c,0,none⟩,Vm.cell a 3 rfl 0,_,rfl,some ⟨v,0,none⟩,Vm.cell a 0 rfl 5,_,rfl,some ⟨A.c,0,none⟩,a.cellAt 16 rfl 0,id,Vm.cell a 2 rfl 0,use (Ro (id:=id) (g:=k) B a) ?_⟩);rintro _ F ⟨rfl,d⟩;have d:Sep E (Vm A v r (S'.cd id k).1 cJ (bC c (c9 o v sp out' j)::bw j 1 (bD out'.bI)::([bC i [Iv id],bC e [Pb c]]++L))) F:=d;exact⟨_,_,rfl,id,Vm.cell d 2 rfl 0,rfl,d⟩
 rintro x D l;have l:=(h7.cut l).kV hr z hb n hp;obtain⟨rfl,b⟩:=l;have p:Vs.cd ⟨S,plain ps⟩ o.a id out=Vs.eZ ⟨S,plain ps⟩ (λS g=>let r:=S.cd id g;(r.1,id,r.2)) o.a out:=rfl;rw[<- p]at b ⊢;cases u:(Vs.cd ⟨S,plain ps⟩ o.a id out).2.2 with
 |none=>exact⟨_,_,rfl,by rw[u];rfl,b⟩
 |some y=>exact⟨_,_,rfl,by rw[u];rfl,b⟩
def lA(o:bW En):bA bE:=match o with
 |some e=>e.vs
 |none=>va
def E4(o:bW En):∃(k id:Int) (wr tc:Bool),lA o= [Iv k,Iv id,.bool wr,.bool tc]/\Pt o=.tuple #[.agg #[Iv k,Iv id,.bool wr,.bool tc],.bool o.isSome]:=by
 cases o with
 |some e=>exact⟨_,_,_,_,rfl,rfl⟩
 |none=>exact⟨_,_,_,_,rfl,rfl⟩
def kV.eZ{c sp n:Nat}{o:dw}{q:Vs×cH×bW Int}{x:bE}(h:kV E A v r c sp o L n S q x w):∃(id:Int) (b:Bool),x=.tuple #[Iv id,.bool b]:=by
 obtain⟨rfl,_⟩:=h;cases q.2.2 with
 |none=>exact⟨_,_,rfl⟩
 |some y=>exact⟨_,_,rfl⟩
def Sa{c sp:Nat}{o:dw}{out:cH}{i:Sl}{bK:Int}{x:Rg}(hx:x.fits)(av:0<=bK/\bK<65536)(W:dD ps)(hn:r.n=ps.length)(hb:ps.length<=64)(aj:Kc.Inv S)(aa:S.bt.next+66<=16777216)(hk:i.n=out.bI.length)(Z:out.bI= [])(ad:0<=o.a){g:Int}{s:Kw.Sp}(hp:ps[o.a.toNat]?=some (g,some (sp,s)))(h:Sep E (Vm A v r S ps (bC c (c9 o v sp out i)::bw i 1 (bD out.bI)::L)) w):
  Calls P BF #[Pb c,Iv bK,.agg x.vs.toArray] w (cA (kV E A v r c sp o L ps.length S (Vs.there ⟨S,plain ps⟩ o.a bK s x out))):=by
 have N:=W _ _ _ _ hp;obtain⟨B,K⟩:∃B,s.entry bK=B:=⟨_,rfl⟩
 obtain⟨aJ,aG,aI,aH,Y,ab⟩:=E4 B;apply ZT;unfold NG qC qD qE qG qL qU qZ qb qp qy zG zY zo zu zy;refine Al.i h (λm aK h1=>Al.i h1 (λn w2 h2=>Al.i h2 (λl aF ae=>?_)));have ae:Sep E (bC l x.vs::bC n [Iv bK]::bC m [Pb c]::Vm A v r S ps (bC c (c9 o v sp out i)::bw i 1 (bD out.bI)::L)) aF:=ae;have aC:=lz [bC l x.vs,bC n [Iv bK],bC m [Pb c]] ae;refine⟨λal ok w'=>∃q:Nat,al=⟨q,0,none⟩/\ok=B.isSome/\Sep E (bC q (lA B)::bC l x.vs::bC n [Iv bK]::bC m [Pb c]::Vm A v r S ps (bC c (c9 o v sp out i)::bw i 1 (bD out.bI)::L)) w',Dr.i aC (λay p=>⟨some ⟨c,0,none⟩,Vm.cell p 4 rfl 0,_,rfl,some ⟨sp,0,none⟩,Vm.cell p 0 rfl 6,bK,Vm.cell p 3 rfl 0,?_,?_⟩),?_⟩
 ·refine use (vb bK N (Vm.op hp p)) ?_;rintro _ O ⟨rfl,a⟩;have d:=lW [bC l x.vs,bC n [Iv bK],bC m [Pb c]] (Vm.bk hp a);have d:Sep E (bC l x.vs::bC n [Iv bK]::bC m [Pb c]::Vm A v r S ps (bC c (c9 o v sp out i)::bw i 1 (bD out.bI)::L)) O:=d;rw[K,ab];refine⟨_,_,_,_,_,rfl,Al.i d (λq ai t=>⟨bK,t.cellAt 2 rfl 0,rfl,some ⟨sp,0,none⟩,?_,rfl,some ⟨c,0,none⟩,t.cellAt 3 rfl 0,rfl,ew _ t rfl (λaz C=>⟨q,rfl,rfl,?_⟩)⟩)⟩
  ·have aD:=Vm.hG [_,_,_,_] t;exact Vm.cell aD 4 rfl 6
  ·rw[Y];exact C
 ·have aq:=lW [bC l x.vs,bC n [Iv bK],bC m [Pb c]] p;refine Al.i aq (λq O a=>?_);have a:Sep E (bC q va::bC l x.vs::bC n [Iv bK]::bC m [Pb c]::Vm A v r S ps (bC c (c9 o v sp out i)::bw i 1 (bD out.bI)::L)) O:=a;have ap:=Vm.hG [_,_,_,_] a;refine⟨bK,a.cellAt 2 rfl 0,rfl,some ⟨sp,0,none⟩,Vm.cell ap 4 rfl 6,rfl,some ⟨c,0,none⟩,a.cellAt 3 rfl 0,rfl,use (vb bK N (Vm.op hp ap)) ?_⟩;rintro _ ai ⟨rfl,d⟩;have t:=Vm.fl [_,_,_,_] (Vm.bk hp d);rw[K,ab];refine⟨_,_,_,_,_,rfl,ew _ t rfl (λaz C=>⟨q,rfl,rfl,?_⟩)⟩;rw[Y];exact C
 rintro _ _ _ ay ⟨q,rfl,rfl,p⟩;have an:=lz [bC q (lA B),bC l x.vs,bC n [Iv bK],bC m [Pb c]] p;have ag:∀e,B=some e->Vs.there ⟨S,plain ps⟩ o.a bK s x out=Vs.cd ⟨S,plain ps⟩ o.a e.id out:=λe he=>by unfold Vs.there;rw[K,he]
 have ah:B=none->Vs.there ⟨S,plain ps⟩ o.a bK s x out=(let r:=Vs.eZ ⟨S,plain ps⟩ (λS g=>S.cN (fg x bK) g) o.a out;match r.2.2 with|some id=>(r.1.enter o.a bK id 2 x.wr,r.2)|none=>r):=λhe=>by unfold Vs.there;rw[K,he];rfl
 cases B with
 |some e=>
  rw[ag e rfl];have ao:Sep E (bC q e.vs::bC l x.vs::bC n [Iv bK]::bC m [Pb c]::Vm A v r S ps (bC c (c9 o v sp out i)::bw i 1 (bD out.bI)::L)) ay:=p;refine bT rfl ⟨some ⟨c,0,none⟩,p.cellAt 3 rfl 0,ld ao 0 rfl rfl (x:=(e.id:Int)) rfl (use (R9 (id:=(e.id:Int)) W hn hb aj aa hk Z ad hp an) ?_)⟩;rintro _ O D;have D:=kV.cut D;obtain⟨y,b,rfl⟩:=D.eZ;exact⟨_,_,rfl,D⟩
 |none=>
  rw[ah rfl];have hr:∀(S:Cs) (g:Int),cr 1 S ((λ(S:Cs) g=>S.cN (fg x bK) g) S g).1:=λS g=>cr.cN _ g;refine bF rfl ⟨some ⟨c,0,none⟩,p.cellAt 3 rfl 0,use (E0 (fv:=.func (.func BP) #[] #[Pb m,Pb l,Pb n]) (f:=λS g=>S.cN (fg x bK) g) (λS' cJ out' H am w' aA au h'=>⟨_,_,rfl,by kernel_rfl,?_⟩) hr W hn hb aj aa hk Z ad hp an) ?_⟩
  ·show Calls P BP #[Iv am,Pb m,Pb l,Pb n] w' _;apply asw;unfold NV qD qG qZ qb zR zX zo;have z:∀ {ak:Cs} {w:bH},Sep E (Vm A v r ak cJ (bC c (c9 o v sp out' H)::bw H 1 (bD out'.bI)::([bC q (lA none),bC l x.vs,bC n [Iv bK],bC m [Pb c]]++L))) w->∀j,w.cell? ⟨l,j,none⟩=x.vs[j]? :=λaE j=>Vm.cell aE 3 rfl j;refine Dr.i h' (λO a=>⟨some ⟨c,0,none⟩,Vm.cell a 5 rfl 0,_,rfl,some ⟨v,0,none⟩,Vm.cell a 0 rfl 5,_,rfl,some ⟨A.c,0,none⟩,a.cellAt 16 rfl 0,_,z a 0,_,z a 1,_,z a 2,_,z a 3,_,z a 4,_,z a 5,bK,Vm.cell a 4 rfl 0,use (aJQ hx av a) ?_⟩);rintro _ ai ⟨rfl,d⟩;refine⟨_,_,rfl,_,d.cellAt 16 rfl 0,rfl,_,Vm.cell d 0 rfl 5,rfl,_,Vm.cell d 5 rfl 0,rfl,use (aJJ (k:=fg x bK) (g:=am) aA au d) ?_⟩;rintro _ az ⟨rfl,t⟩;exact⟨_,_,_,rfl,rfl,t⟩
  rintro y O D;have D:=D.cut (F:=[]);obtain⟨X,cJ,H,G,u,R,d⟩:=D;have T:=E2 hr ad (out:=out) rfl G u hp;have U:=E3 (S:=S) hr hb o.a out;have aw:=(vH (pid:=o.a) hr ((plain ps).length+1) ⟨S,plain ps⟩ out).1;have J:=aw.inv aj (by rw[j9];show S.bt.next+((ps.length+1:Nat):Int)<=_;omega);have eQ:=E1 (pid:=o.a) hr (λS g aj hn he=>R6 aj hn he) ((plain ps).length+1) ⟨S,plain ps⟩ out;have aB:fE (λS g=>S.cN (fg x bK) g) o.a ((plain ps).length+1) ⟨S,plain ps⟩ out=Vs.eZ ⟨S,plain ps⟩ (λS g=>S.cN (fg x bK) g) o.a out:=rfl;rw[aB]at J eQ;dsimp only;generalize Vs.eZ ⟨S,plain ps⟩ (λS g=>S.cN (fg x bK) g) o.a out=Q at X u R d T J eQ U ⊢;cases I:Q.2.2 with
  |none=>
   rw[I]at X;subst X;exact⟨_,_,rfl,bF rfl ⟨by dsimp only;rw[I];rfl,U,cJ,H,W.less G,G.len,u,R,(λe=>by dsimp only at e;rw[I]at e;cases e),(lW [_,_,_,_] d).right⟩⟩
  |some id=>
   rw[I]at X;subst X;have af:=eQ id aj (by rw[j9];show S.bt.next+((ps.length+1:Nat):Int)<=_;omega) I;have M:=T (by rw[I];rfl);refine⟨_,_,rfl,bT rfl ⟨some ⟨c,0,none⟩,Vm.cell d 5 rfl 0,bK,Vm.cell d 4 rfl 0,x.wr,Vm.cell d 3 rfl 5,use (R7 (k:=2) (bK:=bK) (id:=id) (wr:=x.wr) (.inr rfl) af N J.1 M d) ?_⟩⟩;rintro _ ai ⟨rfl,t⟩;have ax:Vs.space Q.1 o.a=some s:=by
    have C:=iY M;rw[u]at C;have:=(jU (V:=Q.1) C).1;rwa[show((o.a.toNat:Nat):Int)=o.a by omega]at this
   have ar:Vs.group Q.1 o.a=g:=by
    have C:=iY M;rw[u]at C;have:=(jU (V:=Q.1) C).2;rwa[show((o.a.toNat:Nat):Int)=o.a by omega]at this
   refine⟨rfl,?_⟩;dsimp only;rw[R8 ax,ar];refine⟨by dsimp only;rw[I];rfl,U.trans (cr.bO id 1),_,H,(W.less G).set (N.enter (.inr rfl)),?_,?_,R,λ_=>⟨g,_,iZ (c4.1 M).1⟩,(lW [_,_,_,_] t).right⟩;·rw[dM];exact G.len
   ·rw[pQ,u]
def Sb{c sp:Nat}{o:dw}{Q:Vs×cH×bW Int}{V':Vs}{cJ:PS}{a:Sl}{n:Nat}{id:Int}{s':Kw.Sp}{g:Int}{S:Cs}(f:Q.2.2=some id)(hr:cr 66 S V'.core)(h:dD cJ)(h1:cJ.length=n)(h2:plain cJ=V'.procs)(b:a.n=Q.2.1.bI.length)(d:cJ[o.a.toNat]?=some (g,some (sp,s')))(e:Sep E (Vm A v r V'.core cJ (bC c (c9 o v sp Q.2.1 a)::bw a 1 (bD Q.2.1.bI)::L)) w):kV E A v r c sp o L n S (V',Q.2) (.tuple #[Iv id,.bool true]) w:=
 ⟨by dsimp only;rw[f];rfl,hr,cJ,a,h,h1,h2,b,λ_=>⟨g,s',d⟩,e⟩
def aJY{c sp:Nat}{o:dw}{out:cH}{q:Sl}{bK:Int}(ab:dD ps)(hn:r.n=ps.length)(hb:ps.length<=64)(ao:Kc.Inv S)(an:S.bt.next+66<=16777216)(hk:q.n=out.bI.length)(am:out.bI= [])(aq:0<=o.a){g:Int}{s:Kw.Sp}(hp:ps[o.a.toNat]?=some (g,some (sp,s)))(h:Sep E (Vm A v r S ps (bC c (c9 o v sp out q)::bw q 1 (bD out.bI)::L)) w):
  Calls P Iw #[Pb c,Iv bK] w (cA (kV E A v r c sp o L ps.length S (Vs.own ⟨S,plain ps⟩ o.a bK s out))):=by
 have aa:=ab _ _ _ _ hp;obtain⟨a,af⟩:∃a,s.entry bK=a:=⟨_,rfl⟩
 obtain⟨aN,d,aL,aK,u,aB⟩:=E4 a;obtain⟨pg,Y⟩:∃pg,(S.bt.get d).1=pg:=⟨_,rfl⟩
 obtain⟨K,hK⟩:∃K:bg1,K=kV E A v r c sp o L ps.length S (Vs.own ⟨S,plain ps⟩ o.a bK s out):=⟨_,rfl⟩
 rw[<- hK];apply ZW;unfold NJ qE qG qL qQ qU qV qX qZ qb qg qh qm qp zH zo zu zy;refine Al.i h (λt aI h1=>?_);have h1:Sep E (bC t [Pb c]::Vm A v r S ps (bC c (c9 o v sp out q)::bw q 1 (bD out.bI)::L)) aI:=h1;have ay:=lz [bC t [Pb c]] h1;refine⟨λaG I w'=>∃m q2:Nat,aG=⟨m,0,none⟩/\I=⟨q2,0,none⟩/\Sep E (Vm A v r S ps (bC c (c9 o v sp out q)::bw q 1 (bD out.bI)::([bC q2 [.bool a.isSome],bC m (lA a),bC t [Pb c]]++L))) w',
  ⟨some ⟨c,0,none⟩,h1.cell 0,_,rfl,some ⟨sp,0,none⟩,Vm.cell ay 0 rfl 6,use (vb bK aa (Vm.op hp ay)) ?_⟩,?_⟩
 ·rintro _ w2 ⟨rfl,h2⟩;have l:=lW [bC t [Pb c]] (Vm.bk hp h2);rw[af,aB];refine⟨_,_,_,_,_,rfl,Al.i l (λm aw O=>Al.i O (λq2 ak x=>ew _ x.swap rfl (λG i=>St.i i.swap (by show 0<1;decide) (λaO I=>⟨m,q2,rfl,rfl,?_⟩))))⟩;refine lz [_,_,_] ?_;rw[u];exact I
 rintro _ _ _ w2 ⟨m,q2,rfl,rfl,h2⟩;have J:∀ {S':Cs} {cJ:PS} {o':cH} {j:Sl} {F:cv} {w:bH},Sep E (Vm A v r S' cJ (bC c (c9 o v sp o' j)::bw j 1 (bD o'.bI)::(bC q2 [.bool a.isSome]::bC m (lA a)::F))) w->w.cell? ⟨m,1,none⟩=some (Iv d):=λah=>by rw[Vm.cell ah 3 rfl 1,u];rfl
 refine⟨λaE w'=>∃z:Nat,aE=⟨z,0,none⟩/\Sep E (Vm A v r S ps (bC c (c9 o v sp out q)::bw q 1 (bD out.bI)::([bC q2 [.bool a.isSome],bC m (lA a),bC t [Pb c],bC z pg.vs]++L))) w',
  Dr.i h2 (λaF l=>⟨some ⟨c,0,none⟩,Vm.cell l 4 rfl 0,_,rfl,some ⟨v,0,none⟩,Vm.cell l 0 rfl 5,_,rfl,some ⟨A.c,0,none⟩,l.cellAt 16 rfl 0,d,J l,?_,?_⟩),?_⟩
 ·refine use (Rq d l) ?_;rintro _ aw ⟨rfl,O⟩;rw[Y];have O:Sep E (Vm A v r S ps (bC c (c9 o v sp out q)::bw q 1 (bD out.bI)::([bC q2 [.bool a.isSome],bC m (lA a),bC t [Pb c]]++L))) aw:=O;refine⟨_,_,_,_,_,_,_,_,_,_,rfl,Al.i O (λz ak x=>?_)⟩;have al:=Vm.e4 x;refine⟨d,(Vm.cell al 4 rfl 1).trans (by rw[u];rfl),rfl,_,al.cellAt 16 rfl 0,rfl,_,Vm.cell al 1 rfl 5,rfl,_,Vm.cell al 5 rfl 0,rfl,ew _ x rfl (λG i=>⟨z,rfl,?_⟩)⟩;have i:Sep E (bC z pg.vs::Vm A v r S ps ([bC c (c9 o v sp out q),bw q 1 (bD out.bI),bC q2 [.bool a.isSome],bC m (lA a),bC t [Pb c]]++L)) G:=i;exact Vm.pL (jc (l₁:=[_,_,_,_,_])).symm (Vm.e4 i)
 ·refine Al.i l (λz aw O=>?_);have ad:=Vm.e4 O;refine⟨d,(Vm.cell ad 4 rfl 1).trans (by rw[u];rfl),rfl,_,ad.cellAt 16 rfl 0,rfl,_,Vm.cell ad 1 rfl 5,rfl,_,Vm.cell ad 5 rfl 0,rfl,use (Rq d ad) ?_⟩;rintro _ ak ⟨rfl,x⟩;rw[Y];refine⟨_,_,_,_,_,_,_,_,_,_,rfl,ew _ (Vm.out x) rfl (λG i=>⟨z,rfl,?_⟩)⟩;have i:Sep E (bC z pg.vs::Vm A v r S ps ([bC c (c9 o v sp out q),bw q 1 (bD out.bI),bC q2 [.bool a.isSome],bC m (lA a),bC t [Pb c]]++L)) G:=i;exact Vm.pL (jc (l₁:=[_,_,_,_,_])).symm (Vm.e4 i)
 rintro _ _ aF ⟨z,rfl,l⟩;refine⟨λb w'=>b=(a.isSome&&decide (pg.refs<=1))/\w'=aF,⟨a.isSome,Vm.cell l 2 rfl 0,cw (λhe=>⟨pg.refs,Vm.cell l 5 rfl 5,by rw[he];rfl,rfl⟩) (λhe=>⟨by rw[he];rfl,rfl⟩)⟩,?_⟩;rintro _ _ _ ⟨rfl,rfl⟩;refine cw (λM=>?_) (λM=>?_)
 ·cases a with
  |none=>cases M
  |some e=>
  have M:decide (pg.refs<=1)=true:=by simpa using M
  have T:d=e.id:=by simp only[lA,En.vs,List.cons.injEq,Value.int.injEq]at u;exact u.2.1.2.symm
  have R:Vs.own ⟨S,plain ps⟩ o.a bK s out=Vs.cd ⟨S,plain ps⟩ o.a e.id out:=by
   unfold Vs.own;rw[af];dsimp only;rw[<- T,Y,bL (mG M)]
  rw[R]at hK;refine⟨some ⟨c,0,none⟩,Vm.cell l 4 rfl 0,d,J l,use (R9 (id:=d) ab hn hb ao an hk am aq hp l) ?_⟩;rintro _ ak ae;have ae:=kV.cut ae;obtain⟨y,b,rfl⟩:=ae.eZ;rw[T]at ae;exact⟨_,_,rfl,by rw[hK];exact ae⟩
 ·obtain⟨f,hf⟩:∃f:Cs->Int->Cs×Int×Int×Int,f= λS g=>if a.isSome then S.copy d g else S.fresh g:=⟨_,rfl⟩
  have hr:∀(S:Cs) (g:Int),cr 1 S (f S g).1:=λS g=>by rw[hf];dsimp only;split;exact cr.copy _ _;exact cr.fresh _
  have au:∀(S:Cs) (g:Int),Kc.Inv S->S.bt.next<16777216->(f S g).2.2.2=0->0<=(f S g).2.1/\(f S g).2.1<16777216:=by
   intro S g ao hn he;rw[hf]at he ⊢;dsimp only at he ⊢;split at he;·next ah=>rw[bL ah];exact R5 ao hn he
   ·next ah=>rw[bJ ah];exact R4 ao hn he
  have R:Vs.own ⟨S,plain ps⟩ o.a bK s out=(let r:=Vs.eZ ⟨S,plain ps⟩ f o.a out;match r.2.2 with
    |some id=>(let V1:=r.1.enter o.a bK id 1 true;((if a.isSome then {V1 with core:=(V1.core.bO d (-1)).1} else V1),r.2))
    |none=>r):=by
   unfold Vs.own;rw[af];cases a with
   |some e=>
    have T:d=e.id:=by simp only[lA,En.vs,List.cons.injEq,Value.int.injEq]at u;exact u.2.1.2.symm
    have M:decide (pg.refs<=1)=false:=by simpa using M
    dsimp only;rw[<- T,Y,bJ (kb M),hf];rfl
   |none=>rw[hf];rfl
  rw[R]at hK;refine⟨some ⟨c,0,none⟩,Vm.cell l 4 rfl 0,use (E0 (fv:=.func (.func BS) #[] #[Pb q2,Pb t,Pb m]) (f:=f) (λS' cJ out' j ap w' ax aM h'=>⟨_,_,rfl,by kernel_rfl,?_⟩) hr ab hn hb ao an hk am aq hp l) ?_⟩
  ·show Calls P BS #[Iv ap,Pb q2,Pb t,Pb m] w' _;apply avI;unfold N0 qL qZ qb qm zX;rw[hf];dsimp only;refine⟨a.isSome,Vm.cell h' 2 rfl 0,cw (λhe=>Dr.i h' (λak x=>⟨some ⟨c,0,none⟩,Vm.cell x 4 rfl 0,_,rfl,some ⟨v,0,none⟩,Vm.cell x 0 rfl 5,_,rfl,some ⟨A.c,0,none⟩,x.cellAt 16 rfl 0,d,J x,use (aJF (id:=d) (g:=ap) ax x) ?_⟩)) (λhe=>⟨some ⟨c,0,none⟩,Vm.cell h' 4 rfl 0,_,rfl,some ⟨v,0,none⟩,Vm.cell h' 0 rfl 5,_,rfl,some ⟨A.c,0,none⟩,h'.cellAt 16 rfl 0,use (aIr (g:=ap) ax h') ?_⟩)⟩
   ·rintro _ G ⟨rfl,i⟩;rw[bL he];exact⟨_,_,_,rfl,rfl,i⟩
   ·rintro _ G ⟨rfl,i⟩;rw[bJ (by rw[he];decide)];exact⟨_,_,_,rfl,rfl,i⟩
  rintro y ak ⟨aj,cJ,j,H,C,U,i⟩;have W:=E2 hr aq (out:=out) rfl H C hp;have Z:=E3 (S:=S) hr hb o.a out;have aC:=(vH (pid:=o.a) hr ((plain ps).length+1) ⟨S,plain ps⟩ out).1;have D:=aC.inv ao (by rw[j9];show S.bt.next+((ps.length+1:Nat):Int)<=_;omega);have eQ:=E1 (pid:=o.a) hr au ((plain ps).length+1) ⟨S,plain ps⟩ out;have aH:fE f o.a ((plain ps).length+1) ⟨S,plain ps⟩ out=Vs.eZ ⟨S,plain ps⟩ f o.a out:=rfl;rw[aH]at D eQ;dsimp only at hK;generalize Vs.eZ ⟨S,plain ps⟩ f o.a out=Q at aj C U i W D eQ Z hK;cases N:Q.2.2 with
  |none=>
   rw[N]at aj hK;subst aj;refine⟨_,_,rfl,λw'=>Sep E (Vm A v r Q.1.core cJ (bC c (c9 o v sp Q.2.1 j)::bw j 1 (bD Q.2.1.bI)::([bC q2 [.bool a.isSome],bC m (lA a),bC t [Pb c],bC z pg.vs]++L))) w',bF rfl i,?_⟩;rintro _ G i;refine⟨λb w'=>b=false/\w'=G,bF rfl ⟨rfl,rfl⟩,?_⟩;rintro _ _ _ ⟨rfl,rfl⟩;refine bF rfl ?_;rw[hK];exact⟨by dsimp only;rw[N];rfl,Z,cJ,j,ab.less H,H.len,C,U,(λe=>by dsimp only at e;rw[N]at e;cases e),(lW [_,_,_,_] i).right⟩
  |some id=>
   rw[N]at aj hK;subst aj;have av:=eQ id ao (by rw[j9];show S.bt.next+((ps.length+1:Nat):Int)<=_;omega) N;have X:=W (by rw[N];rfl);have aD:Vs.space Q.1 o.a=some s:=by
    have B:=iY X;rw[C]at B;have:=(jU (V:=Q.1) B).1;rwa[show((o.a.toNat:Nat):Int)=o.a by omega]at this
   have aA:Vs.group Q.1 o.a=g:=by
    have B:=iY X;rw[C]at B;have:=(jU (V:=Q.1) B).2;rwa[show((o.a.toNat:Nat):Int)=o.a by omega]at this
   have az:=((cr.bO (S:=Q.1.core) id 1).inv D.1 (by have:=D.1.ids;omega)).1;have ag:=R8 (V:=Q.1) (pid:=o.a) (p:=bK) (id:=id) (k:=1) (wr:=true) aD;rw[aA]at ag;dsimp only at hK;rw[ag]at hK;refine⟨_,_,rfl,λw'=>Sep E (Vm A v r (Q.1.core.bO id 1).1 (cJ.set o.a.toNat (g,some (sp,s.enter bK id 1 true))) (bC c (c9 o v sp Q.2.1 j)::bw j 1 (bD Q.2.1.bI)::([bC q2 [.bool a.isSome],bC m (lA a),bC t [Pb c],bC z pg.vs]++L))) w',bT rfl ⟨some ⟨c,0,none⟩,Vm.cell i 4 rfl 0,use (R7 (k:=1) (bK:=bK) (id:=id) (wr:=true) (.inl rfl) av aa D.1 X i) ?_⟩,?_⟩
   ·rintro _ G ⟨rfl,I⟩;exact⟨rfl,I⟩
   rintro _ G I;refine⟨λb w'=>b=a.isSome/\w'=G,bT rfl ⟨a.isSome,Vm.cell I 2 rfl 0,rfl,rfl⟩,?_⟩;rintro _ _ _ ⟨rfl,rfl⟩;have hlen:(cJ.set o.a.toNat (g,some (sp,s.enter bK id 1 true))).length=ps.length:=by rw[dM];exact H.len
   have ai:(cJ.set o.a.toNat (g,some (sp,s.enter bK id 1 true)))[o.a.toNat]?=some (g,some (sp,s.enter bK id 1 true)):=iZ (c4.1 X).1;refine cw (λhe=>Dr.i I (λaP B=>⟨some ⟨c,0,none⟩,Vm.cell B 4 rfl 0,_,rfl,some ⟨v,0,none⟩,Vm.cell B 0 rfl 5,_,rfl,some ⟨A.c,0,none⟩,B.cellAt 16 rfl 0,d,J B,use (yG (id:=d) (n:= -1) az B) ?_⟩)) (λhe=>?_)
   ·rintro _ aJ ⟨rfl,ar⟩;have ar:Sep E (Vm A v r ((Q.1.core.bO id 1).1.bO d (-1)).1 (cJ.set o.a.toNat (g,some (sp,s.enter bK id 1 true))) (bC c (c9 o v sp Q.2.1 j)::bw j 1 (bD Q.2.1.bI)::([bC q2 [.bool a.isSome],bC m (lA a),bC t [Pb c],bC z pg.vs]++L))) aJ:=ar;rw[bL he]at hK;rw[hK];exact⟨_,rfl,Sb N ((Z.trans (cr.bO id 1)).trans (cr.bO d (-1))) ((ab.less H).set (aa.enter (.inl rfl))) hlen (by rw[pQ,C]) U ai (lW [_,_,_,_] ar).right⟩
   ·rw[bJ (by rw[he];decide)]at hK;rw[hK];exact Sb N (Z.trans (cr.bO id 1)) ((ab.less H).set (aa.enter (.inl rfl))) hlen (by rw[pQ,C]) U ai (lW [_,_,_,_] I).right
def jV(o:bW Rg):Rg:=o.getD ⟨0,0,0,0,0,false⟩
def aHp(o:bW Rg):s5 o=.tuple #[.agg (jV o).vs.toArray,.bool o.isSome]:=by cases o<;>rfl
def aJ0(x:Int):x.fdiv (2^(min (4:Int).toNat 64))=x/16:=Ta _ bN
def Sc{c sp:Nat}{o:dw}{out:cH}{d:Sl}{g:Int}{s:Kw.Sp}(t:fC s)(hp:ps[o.a.toNat]?=some (g,some (sp,s)))(h:Sep E (Vm A v r S ps (bC c (c9 o v sp out d)::L)) w):
  Calls P BE #[Pb c] w (cY E (.tuple #[Iv (o.b/16),.agg (jV (s.cD (o.b/16))).vs.toArray,.bool ((s.cD (o.b/16)).isSome&&decide (o.b≥0))]) (Vm A v r S ps (bC c (c9 o v sp out d)::L))):=by
 obtain⟨y,k⟩:∃y,s.cD (o.b/16)=y:=⟨_,rfl⟩
 rw[k];apply ZS;unfold NF qL qU qZ zH zR zg zm;refine Al.i h (λf B h1=>?_);have e:=Vm.e4 h1;refine⟨_,rfl,o.b,Vm.cell e 1 rfl 2,bN,_,rfl,some ⟨sp,0,none⟩,Vm.cell e 1 rfl 6,?_⟩;dsimp only;rw[aJ0];refine use (Pq (o.b/16) t (Vm.op hp e)) ?_;rintro _ w2 ⟨rfl,h2⟩;rw[k,aHp];have n:=Vm.out (Vm.bk hp h2);refine⟨_,_,_,_,_,_,_,rfl,Al.i n (λp2 C p=>ew _ p rfl (λD q=>Dr.i q (λu b=>?_)))⟩;have b:Sep E (bC p2 (jV y).vs::bC f (Rg.vs ⟨0,0,0,0,0,false⟩)::Vm A v r S ps (bC c (c9 o v sp out d)::L)) u:=b;refine gz b (i:=0) rfl ?_;cases z:y.isSome with
 |true=>
  have l:=Vm.hG [_,_] b;refine bT rfl ⟨_,rfl,o.b,Vm.cell l 2 rfl 2,ew _ b.swap rfl (λj a=>?_)⟩;have a:Sep E (bC f (jV y).vs::bC p2 (jV y).vs::Vm A v r S ps (bC c (c9 o v sp out d)::L)) j:=a;have m:=Vm.hG [_,_] a;exact⟨o.b,Vm.cell m 2 rfl 2,rfl,gz a (i:=0) rfl ⟨rfl,a.tail.tail⟩⟩
 |false=>
  refine bF rfl (ew _ b.swap rfl (λj a=>?_));have a:Sep E (bC f (jV y).vs::bC p2 (jV y).vs::Vm A v r S ps (bC c (c9 o v sp out d)::L)) j:=a;exact gz a (i:=0) rfl ⟨rfl,a.tail.tail⟩
def done(E:Env)(A:At)(v:Nat)(r:Sl)(c sp:Nat)(o:dw)(L:cv)(n:Nat)(S:Cs)(q:Vs×cH)(x:bE)(w:bH):Prop:=
 x=.tuple #[]/\cr 66 S q.1.core/\∃(cJ:PS) (a:Sl),dD cJ/\cJ.length=n/\plain cJ=q.1.procs/\a.n=q.2.bI.length/\
  Sep E (Vm A v r q.1.core cJ (bC c (c9 o v sp q.2 a)::bw a 1 (bD q.2.bI)::L)) w
def Sd{V:Vs}{pid p:Int}{s:Kw.Sp}(h:V.space pid=some s):V.cy pid p=⟨V.core,V.procs.set pid.toNat (V.group pid,some (s.cy p))⟩:=by unfold Vs.cy;rw[h];rfl
def aJS{c sp:Nat}{o:dw}{a:Sl}(Z:dD ps)(hn:r.n=ps.length)(hb:ps.length<=64)(aA:Kc.Inv S)(ao:S.bt.next+66<=16777216)(hk:a.n=0)(au:0<=o.a){g:Int}{s:Kw.Sp}(hp:ps[o.a.toNat]?=some (g,some (sp,s)))(h:Sep E (Vm A v r S ps (bC c (c9 o v sp cH.zero a)::bw a 1 (bD [])::L)) w):
  Calls P xt #[Pb c] w (cA (done E A v r c sp o L ps.length S (Vs.load ⟨S,plain ps⟩ o.a s o.b))):=by
 have H:=Z _ _ _ _ hp;obtain⟨K,hK⟩:∃K,K=done E A v r c sp o L ps.length S (Vs.load ⟨S,plain ps⟩ o.a s o.b):=⟨_,rfl⟩
 rw[<- hK];have same:∀ {V':Vs} {out':cH} {w':bH},Vs.load ⟨S,plain ps⟩ o.a s o.b=(⟨S,plain ps⟩,out')->out'.bI= []->Sep E (Vm A v r S ps (bC c (c9 o v sp out' a)::bw a 1 (bD [])::L)) w'->K aN4 w':=by
  intro V' out' w' ar ae h';rw[hK,ar];exact⟨rfl,.nil _ _,ps,a,Z,rfl,rfl,by dsimp only;rw[ae];exact hk,by dsimp only;rw[ae];exact h'⟩
 apply ZB;unfold Ns qF qL qU qZ qg qo qp zR zg zk zu zy;dsimp only;refine use (Sc H hp h) ?_;rintro _ aI ⟨rfl,h1⟩;obtain⟨y,R⟩:∃y,s.cD (o.b/16)=y:=⟨_,rfl⟩
 rw[R];refine⟨_,_,_,_,_,_,_,_,rfl,Al.i h1 (λp w2 h2=>ew _ h2 rfl (λaa C=>?_))⟩;have C:Sep E (bC p (jV y).vs::Vm A v r S ps (bC c (c9 o v sp cH.zero a)::bw a 1 (bD [])::L)) aa:=C;refine cw (λan=>⟨_,rfl,?_⟩) (λW=>?_)
 ·have D:=(Vm.fl [_] (C.tail:Sep E (Vm A v r S ps ([bC c (c9 o v sp cH.zero a)]++(bw a 1 (bD [])::L))) aa))
  refine St.i D (by show 7<10;decide) (λab l=>?_);have j:=Vm.hG [bC c (c9 o v sp (cH.bad 14) a)] l;refine same (V':=⟨S,[]⟩) ?_ rfl j;unfold Vs.load;dsimp only;rw[R];cases y with
  |none=>rfl
  |some x=>
   have:¬ o.b≥0:=by simpa using an
   dsimp only;rw[eJ]
 obtain⟨x,rfl⟩:∃x,y=some x:=by
  cases y with
  |none=>cases W
  |some x=>exact⟨x,rfl⟩
 have aE:0<=o.b:=by simpa using W
 have J:=s6 H R;have aq:=Rg.fh J.2.2.1;have C:Sep E (bC p x.vs::Vm A v r S ps (bC c (c9 o v sp cH.zero a)::bw a 1 (bD [])::L)) aa:=C;obtain⟨f,U⟩:∃f,s.entry (o.b/16)=f:=⟨_,rfl⟩
 have hl:Vs.load ⟨S,plain ps⟩ o.a s o.b=(if f.isNone/\x.kind=1 then(⟨S,plain ps⟩,.zero)else
   let r:=Vs.there ⟨S,plain ps⟩ o.a (o.b/16) s x .zero
   match r.2.2 with
   |none=>(r.1,r.2.1)
   |some id=>
    let g:=r.1.core.get id (o.b%16)
    ({r.1 with core:=g.1}.cy o.a (o.b/16), {r.2.1 with n:=g.2.1})):=by
  unfold Vs.load;dsimp only;rw[R];dsimp only;rw[cF,U];rfl
 have ag:=Vm.e4 C;refine⟨λw'=>¬ (f.isNone/\x.kind=1)/\Sep E (bC p x.vs::Vm A v r S ps (bC c (c9 o v sp cH.zero a)::bw a 1 (bD [])::L)) w',⟨_,rfl,some ⟨sp,0,none⟩,Vm.cell ag 1 rfl 6,use (vb (o.b/16) H (Vm.op hp ag)) ?_⟩,?_⟩
 ·rintro _ ab ⟨rfl,D⟩;have l:=Vm.out (Vm.bk hp D);obtain⟨aH,aB,aD,aC,aF,ap⟩:=E4 f;rw[U,ap];refine⟨_,_,_,_,_,rfl,Al.i l (λq aw j=>ew _ j rfl (λax d=>cw (λal=>ld d 1 rfl rfl (x:=x.kind) rfl (eX (λG=>?_) (λG=>⟨λe=>G e.2,d.tail⟩))) (λhe=>⟨λe=>?_,d.tail⟩)))⟩
  ·have am:f.isNone=true:=by cases f with
    |none=>rfl
    |some e=>cases al
   exact same (V':=⟨S,[]⟩) (by rw[hl,bL ⟨am,G⟩]) rfl d.tail.tail
  ·cases f with
   |none=>cases he
   |some z=>cases e.1
 rintro _ ab ⟨X,D⟩;rw[bJ X]at hl;have ai:Sep E (Vm A v r S ps (bC c (c9 o v sp cH.zero a)::bw a 1 (bD cH.zero.bI)::L)) ab:=D.tail;refine gz D (i:=0) rfl (use (Sa (bK:=o.b/16) aq ⟨J.1,J.2.1⟩ Z hn hb aA ao hk rfl au hp ai) ?_);rintro z aw ⟨M,t,cJ,b,u,hlen,m,F,B,l⟩;dsimp only at hl;generalize Vs.there ⟨S,plain ps⟩ o.a (o.b/16) s x .zero=Q at M t m F B l hl;cases Y:Q.2.2 with
 |none=>
  rw[Y]at M hl;subst M;refine⟨_,_,rfl,bT rfl ?_⟩;rw[hK,hl];exact⟨rfl,t,cJ,b,u,hlen,m,F,l⟩
 |some id=>
  rw[Y]at M hl;subst M;obtain⟨af,s',k⟩:=B (by rw[Y];rfl);have aj:=t.inv aA bu;obtain⟨ad,ak⟩:∃ad:Nat,o.b=ad:=⟨o.b.toNat,bu⟩
  have hand:bU .i64 o.b 15=o.b%16:=by rw[ak,Dt];omega
  have I:Vs.space ⟨(Q.1.core.get id (o.b%16)).1,Q.1.procs⟩ o.a=some s'/\Vs.group ⟨(Q.1.core.get id (o.b%16)).1,Q.1.procs⟩ o.a=af:=by
   have N:=iY k;rw[m]at N;have:=jU (V:=⟨(Q.1.core.get id (o.b%16)).1,Q.1.procs⟩) N;rwa[show((o.a.toNat:Nat):Int)=o.a by omega]at this
  dsimp only at hl;rw[Sd I.1,I.2]at hl;refine⟨_,_,rfl,bF rfl (Dr.i l (λax j=>⟨_,rfl,some ⟨v,0,none⟩,Vm.cell j 0 rfl 5,_,rfl,some ⟨A.c,0,none⟩,j.cellAt 16 rfl 0,_,rfl,o.b,Vm.cell j 0 rfl 2,?_⟩))⟩;rw[hand];refine use (oS (id:=id) (at_:=o.b%16) aj.1 j) ?_;rintro _ ay ⟨rfl,d⟩;have d:Sep E (Vm A v r (Q.1.core.get id (o.b%16)).1 cJ (bC c (c9 o v sp Q.2.1 b)::bw b 1 (bD Q.2.1.bI)::L)) ay:=d;refine⟨_,_,rfl,_,rfl,some ⟨sp,0,none⟩,Vm.cell d 0 rfl 6,use (Px (o.b/16) (u _ _ _ _ k) (Vm.op k d)) ?_⟩;rintro _ az ⟨⟨aG,rfl⟩,N⟩;have av:=Vm.sh k N;have ah:=Vm.fl [_] (av:Sep E (Vm A v r (Q.1.core.get id (o.b%16)).1 _ ([bC c (c9 o v sp Q.2.1 b)]++(bw b 1 (bD Q.2.1.bI)::L))) az);have O:i64.wrap (Q.1.core.get id (o.b%16)).2.1=(Q.1.core.get id (o.b%16)).2.1:=by
   have:0<=(Q.1.core.get id (o.b%16)).2.1/\(Q.1.core.get id (o.b%16)).2.1<256:=by
    unfold Cs.get;dsimp only;split;·exact⟨by show(0:Int)<=0;decide,by show(0:Int)<256;decide⟩
    ·have:=(By.gt Q.1.core.fr.bS.length Q.1.core.fr.dd (Q.1.core.here id).1 (o.b%16)).1.toNat_lt;dsimp only;omega
   exact cR bu bu
  refine⟨_,rfl,_,rfl,St.i ah (by show 8<10;decide) (λaJ T=>?_)⟩;rw[hK,hl];refine⟨rfl,t.trans (cr.get id (o.b%16)),cJ.set o.a.toNat (af,some (sp,s'.cy (o.b/16))),b,u.set ((u _ _ _ _ k).cy _),by rw[dM];exact hlen,by rw[pQ,m],F,?_⟩;refine Vm.hG [bC c (c9 o v sp {Q.2.1 with n:=(Q.1.core.get id (o.b%16)).2.1} b)] ?_;rw[O]at T;exact T
def ka(o:dw)(y:bW Rg):Int:=if o.c<0\/255<o.c then 1 else match y with
 |none=>14
 |some x=>if o.b<0 then 14 else if x.wr=false then 15 else 0
def Se{V:Vs}{pid:Int}{s:Kw.Sp}(o:dw):V.store pid s o.b o.c=if ka o (s.cD (o.b/16))≠0 then(V,.bad (ka o (s.cD (o.b/16))))else
  let x:=jV (s.cD (o.b/16));let r:=if x.kind=2 then V.there pid (o.b/16) s x .zero else V.own pid (o.b/16) s .zero
  match r.2.2 with
  |none=>(r.1,r.2.1)
  |some id=>
   let g:=r.1.core.put id (o.b%16) (UInt8.ofNat o.c.toNat)
   ({r.1 with core:=g.1}.cy pid (o.b/16),r.2.1):=by
 unfold Vs.store;dsimp only;generalize s.cD (o.b/16)=y;by_cases h1:o.c<0\/255<o.c
 ·have e:ka o y=1:=bL h1;simp only[e];rw[bL h1,bL bN]
 rw[bJ h1];have a:ka o y=match y with
  |none=>14
  |some x=>if o.b<0 then 14 else if x.wr=false then 15 else 0:=bJ h1
 cases y with
 |none=>
  have e:ka o none=14:=a;simp only[e];rw[bL bN]
 |some x=>
  have a:ka o (some x)=if o.b<0 then 14 else if x.wr=false then 15 else 0:=a
  by_cases h2:o.b<0
  ·rw[bL h2]at a;simp only[a];rw[bL h2,bL bN]
  rw[bJ h2]at a;by_cases b:x.wr=false
  ·rw[bL b]at a;simp only[a];rw[bJ h2,bL b,bL bN]
  rw[bJ b]at a;simp only[a];rw[bJ h2,bJ b,bJ (show ¬ ((0:Int)≠0) by decide)];rfl
def aIO{c sp:Nat}{o:dw}{a:Sl}(Z:dD ps)(hn:r.n=ps.length)(hb:ps.length<=64)(aG:Kc.Inv S)(ah:S.bt.next+66<=16777216)(hk:a.n=0)(ap:0<=o.a){g:Int}{s:Kw.Sp}(hp:ps[o.a.toNat]?=some (g,some (sp,s)))(h:Sep E (Vm A v r S ps (bC c (c9 o v sp cH.zero a)::bw a 1 (bD [])::L)) w):
  Calls P xu #[Pb c] w (cA (done E A v r c sp o L ps.length S (Vs.store ⟨S,plain ps⟩ o.a s o.b o.c))):=by
 have ai:=Z _ _ _ _ hp;obtain⟨K,hK⟩:∃K,K=done E A v r c sp o L ps.length S (Vs.store ⟨S,plain ps⟩ o.a s o.b o.c):=⟨_,rfl⟩
 have aj:=Se (V:=⟨S,plain ps⟩) (pid:=o.a) (s:=s) o;rw[aj]at hK;clear aj;obtain⟨y,ab⟩:∃y,s.cD (o.b/16)=y:=⟨_,rfl⟩
 rw[ab]at hK;rw[Se,ab,<- hK];apply ZC;unfold Nt qC qD qF qL qQ qU qZ qb qg qh qy zg zk;dsimp only;refine Al.i h (λi aT h1=>?_);have aH:=lz [bC i [Pb c]] h1;refine⟨some ⟨c,0,none⟩,h1.cell 0,use (Sc ai hp aH) ?_⟩;rintro _ w2 ⟨rfl,h2⟩;rw[ab];have h2:=lW [bC i [Pb c]] h2;refine⟨_,_,_,_,_,_,_,_,rfl,Al.i h2 (λp2 aU aI=>Al.i aI (λn aV aJ=>St.i aJ.swap (by show 0<1;decide) (λaW aK=>ew _ aK.swap rfl (λaE al=>?_))))⟩;have al:Sep E (bC n (jV y).vs::bC p2 [Iv (o.b/16)]::bC i [Pb c]::Vm A v r S ps (bC c (c9 o v sp cH.zero a)::bw a 1 (bD [])::L)) aE:=al;have m:=lz [bC n (jV y).vs,bC p2 [Iv (o.b/16)],bC i [Pb c]] al;obtain⟨F,aS⟩:∃F,F= [bC n (jV y).vs,bC p2 [Iv (o.b/16)],bC i [Pb c]]:=⟨_,rfl⟩
 have C:∀ {w:bH} (e:Int),Sep E (Vm A v r S ps (bC c (c9 o v sp cH.zero a)::bw a 1 (bD [])::([bC n (jV y).vs,bC p2 [Iv (o.b/16)],bC i [Pb c]]++L))) w->∀f:bg0,(∀w',Sep E (Vm A v r S ps (bC c (c9 o v sp (cH.bad e) a)::bw a 1 (bD [])::([bC n (jV y).vs,bC p2 [Iv (o.b/16)],bC i [Pb c]]++L))) w'->f w')->St ⟨c,7,none⟩ (Iv e) f w:=by
  intro w e aL f k;refine St.i (Vm.fl [_] aL) (by show 7<10;decide) (λw' h'=>k w' (Vm.hG [bC c (c9 o v sp (cH.bad e) a)] h'))
 refine⟨λw'=>Sep E (Vm A v r S ps (bC c (c9 o v sp (cH.bad (ka o y)) a)::bw a 1 (bD [])::([bC n (jV y).vs,bC p2 [Iv (o.b/16)],bC i [Pb c]]++L))) w',
  ⟨λb w'=>b=decide (o.c<0\/255<o.c)/\w'=aE,⟨some ⟨c,0,none⟩,Vm.cell m 4 rfl 0,_,rfl,o.c,Vm.cell m 0 rfl 3,cX (λq=>⟨(dE (.inl q)).symm,rfl⟩) (λq=>⟨some ⟨c,0,none⟩,Vm.cell m 4 rfl 0,_,rfl,o.c,Vm.cell m 0 rfl 3,?_,rfl⟩)⟩,?_⟩,?_⟩
 ·exact tD.2 ⟨λe=>.inr e,λe=>e.elim (λe=>bu) id⟩
 ·rintro _ _ _ ⟨rfl,rfl⟩;refine cw (λq=>⟨some ⟨c,0,none⟩,Vm.cell m 4 rfl 0,_,rfl,C 1 m _ (λw' h'=>?_)⟩) (λq=>cw (λaz=>⟨some ⟨c,0,none⟩,Vm.cell m 4 rfl 0,_,rfl,C 14 m _ (λw' h'=>?_)⟩) (λH=>⟨(jV y).wr,Vm.cell m 2 rfl 5,cw (λX=>⟨some ⟨c,0,none⟩,Vm.cell m 4 rfl 0,_,rfl,C 15 m _ (λw' h'=>?_)⟩) (λX=>?_)⟩))
  ·have e:ka o y=1:=by unfold ka;rw[bL (mG q)]
   rw[e];exact h'
  ·have e:ka o y=14:=by
    unfold ka;rw[bJ (kb q)];cases y with
    |none=>rfl
    |some x=>
     have:¬ o.b≥0:=by simpa using az
     dsimp only;rw[eJ]
   rw[e];exact h'
  ·obtain⟨x,rfl⟩:∃x,y=some x:=by cases y with
    |none=>cases H
    |some x=>exact⟨x,rfl⟩
   have af:0<=o.b:=by simpa using H
   have hw:x.wr=false:=by simpa[jV]using X
   have e:ka o (some x)=15:=by unfold ka;rw[bJ (kb q)];dsimp only;rw[cF,bL hw]
   rw[e];exact h'
  ·obtain⟨x,rfl⟩:∃x,y=some x:=by cases y with
    |none=>cases H
    |some x=>exact⟨x,rfl⟩
   have af:0<=o.b:=by simpa using H
   have hw:¬ x.wr=false:=by
    have:x.wr=true:=by simpa[jV]using X
    rw[this];decide
   have e:ka o (some x)=0:=by unfold ka;rw[bJ (kb q)];dsimp only;rw[cF,bJ hw]
   rw[e];exact m
 rintro _ ae d;refine⟨some ⟨c,0,none⟩,Vm.cell d 4 rfl 0,_,rfl,ka o y,Vm.cell d 0 rfl 7,iz (λay=>?_) (λheq=>?_)⟩
 ·rw[bL ay]at hK;rw[hK];exact⟨rfl,.nil _ _,ps,a,Z,rfl,rfl,hk,(lW (out:=cH.bad (ka o y)) [_,_,_] d).right⟩
 rw[cF]at hK;have Y:∃x,y=some x/\0<=o.b/\(0<=o.c/\o.c<=255):=by
  unfold ka at heq;split at heq;·omega
  ·next q=>
   cases y with
   |none=>cases heq
   |some x=>
    dsimp only at heq;split at heq;·omega
    ·exact⟨x,rfl,bu,bu⟩
 rw[heq]at d;obtain⟨x,rfl,af,aN⟩:=Y;have d:Sep E (Vm A v r S ps (bC c (c9 o v sp cH.zero a)::bw a 1 (bD cH.zero.bI)::([bC n x.vs,bC p2 [Iv (o.b/16)],bC i [Pb c]]++L))) ae:=d;have W:=s6 ai ab;have aC:=Rg.fh W.2.2.1;have aA:jV (some x)=x:=rfl;rw[aA]at hK;dsimp only at hK;obtain⟨Q,M⟩:∃Q,(if x.kind=2 then Vs.there ⟨S,plain ps⟩ o.a (o.b/16) s x .zero else Vs.own ⟨S,plain ps⟩ o.a (o.b/16) s .zero)=Q:=⟨_,rfl⟩
 rw[M]at hK;refine⟨λfv w'=>eY P fv #[] w' (cA (kV E A v r c sp o ([bC n x.vs,bC p2 [Iv (o.b/16)],bC i [Pb c]]++L) ps.length S Q)),⟨x.kind,Vm.cell d 2 rfl 2,eX (λO=>⟨_,_,rfl,by kernel_rfl,?_⟩) (λO=>⟨_,_,rfl,by kernel_rfl,?_⟩)⟩,?_⟩
 ·show Calls P Ix #[Pb i,Pb p2,Pb n] ae _;rw[bL O]at M;apply Z0;unfold NL qD qb qp zR;have p:∀j,ae.cell? ⟨n,j,none⟩=x.vs[j]? :=λj=>Vm.cell d 2 rfl j;refine⟨some ⟨c,0,none⟩,Vm.cell d 4 rfl 0,o.b/16,Vm.cell d 3 rfl 0,_,p 0,_,p 1,_,p 2,_,p 3,_,p 4,_,p 5,use (Sa (bK:=o.b/16) aC ⟨W.1,W.2.1⟩ Z hn hb aG ah hk rfl ap hp d) ?_⟩;rintro z aF B;obtain⟨aM,b,rfl⟩:=B.eZ;rw[M]at B;exact⟨_,_,rfl,B⟩
 ·show Calls P Iu #[Pb i,Pb p2] ae _;rw[bJ O]at M;apply ZV;unfold NI qD qb qp;refine⟨some ⟨c,0,none⟩,Vm.cell d 4 rfl 0,o.b/16,Vm.cell d 3 rfl 0,use (aJY (bK:=o.b/16) Z hn hb aG ah hk rfl ap hp d) ?_⟩;rintro z aF B;obtain⟨aM,b,rfl⟩:=B.eZ;rw[M]at B;exact⟨_,_,rfl,B⟩
 rintro _ fv aF G;refine oO G ?_;rintro z aX ⟨ad,T,cJ,J,I,hlen,R,ag,aa,av⟩;clear M G;cases am:Q.2.2 with
 |none=>
  rw[am]at ad hK;subst ad;refine⟨_,_,rfl,bF rfl ?_⟩;rw[hK];exact⟨rfl,T,cJ,J,I,hlen,R,ag,(lW [_,_,_] av).right⟩
 |some id=>
  rw[am]at ad hK;subst ad;obtain⟨ao,s',u⟩:=aa (by rw[am];rfl);have aw:=T.inv aG bu;obtain⟨an,ax⟩:∃an:Nat,o.b=an:=⟨o.b.toNat,bu⟩
  have hand:bU .i64 o.b 15=o.b%16:=by rw[ax,Dt];omega
  obtain⟨t,ak⟩:∃t:UInt8,UInt8.ofNat o.c.toNat=t:=⟨_,rfl⟩
  have aB:IntKind.u8.wrap o.c=(t.toNat:Int):=by
   rw[<- ak,UInt8.toNat_ofNat'];unfold IntKind.wrap;simp only[IntKind.signed,IntKind.bits,wi];rw[bJ bN];omega
  have U:Vs.space ⟨(Q.1.core.put id (o.b%16) t).1,Q.1.procs⟩ o.a=some s'/\Vs.group ⟨(Q.1.core.put id (o.b%16) t).1,Q.1.procs⟩ o.a=ao:=by
   have au:=iY u;rw[R]at au;have:=jU (V:=⟨(Q.1.core.put id (o.b%16) t).1,Q.1.procs⟩) au;rwa[show((o.a.toNat:Nat):Int)=o.a by omega]at this
  dsimp only at hK;rw[ak,Sd U.1,U.2]at hK;refine⟨_,_,rfl,bT rfl (Dr.i av (λaO l=>⟨some ⟨c,0,none⟩,Vm.cell l 4 rfl 0,_,rfl,some ⟨v,0,none⟩,Vm.cell l 0 rfl 5,_,rfl,some ⟨A.c,0,none⟩,l.cellAt 16 rfl 0,some ⟨c,0,none⟩,Vm.cell l 4 rfl 0,_,rfl,o.b,Vm.cell l 0 rfl 2,some ⟨c,0,none⟩,Vm.cell l 4 rfl 0,_,rfl,o.c,Vm.cell l 0 rfl 3,?_⟩))⟩;rw[hand,aB];refine use (te (id:=id) (at_:=o.b%16) (x:=t) aw.1 l) ?_;rintro _ aD ⟨rfl,N⟩;have N:Sep E (Vm A v r (Q.1.core.put id (o.b%16) t).1 cJ (bC c (c9 o v sp Q.2.1 J)::bw J 1 (bD Q.2.1.bI)::([bC n x.vs,bC p2 [Iv (o.b/16)],bC i [Pb c]]++L))) aD:=N;refine⟨_,rfl,Dr.i N (λaP D=>⟨some ⟨c,0,none⟩,Vm.cell D 4 rfl 0,_,rfl,some ⟨sp,0,none⟩,Vm.cell D 0 rfl 6,o.b/16,Vm.cell D 3 rfl 0,use (Px (o.b/16) (I _ _ _ _ u) (Vm.op u D)) ?_⟩)⟩;rintro _ aQ ⟨⟨aR,rfl⟩,aq⟩;have ar:=Vm.sh u aq;refine⟨_,rfl,?_⟩;rw[hK];exact⟨rfl,T.trans (cr.put id (o.b%16) t),cJ.set o.a.toNat (ao,some (sp,s'.cy (o.b/16))),J,I.set ((I _ _ _ _ u).cy _),by rw[dM];exact hlen,by rw[pQ,R],ag,(lW [_,_,_] ar).right⟩
def Vm.rz{c sp:Nat}{o:dw}{a:Sl}{out out':cH}{j:Nat}{x:bE}{f:bg0}(b:j<10)(he:(c9 o v sp out a).set j x=c9 o v sp out' a)(h:Sep E (Vm A v r S ps (bC c (c9 o v sp out a)::L)) w)(k:∀w',Sep E (Vm A v r S ps (bC c (c9 o v sp out' a)::L)) w'->f w'):St ⟨c,j,none⟩ x f w:=
 St.i (Vm.fl [_] h) b (λw' h'=>k w' (Vm.hG [bC c (c9 o v sp out' a)] (he▸h')))
def Sf(n:Int)(w:bH):Calls P BK #[Iv n] w (cA λx w'=>x=.bool (decide (0<=n/\n<=65536))/\w'=w):=by
 apply Z9;refine h4 (λa=>⟨?_,rfl⟩) (λa=>⟨?_,rfl⟩);·exact eK Value.bool (tD.2 ⟨λe=>⟨a,e⟩,λe=>e.2⟩)
 ·exact eK Value.bool (di λe=>bu).symm
def E5{c sp:Nat}{o:dw}{g:Sl}(h:Sep E (Vm A v r S ps (bC c (c9 o v sp cH.zero g)::L)) w):
  Calls P xA #[Pb c] w (cY E (.bool (decide (kP o.b o.c))) (Vm A v r S ps (bC c (c9 o v sp (if kP o.b o.c then cH.zero else cH.bad 1) g)::L))):=by
 apply ZO;unfold NA qF qL;refine⟨_,rfl,o.b,Vm.cell h 0 rfl 2,use (Sf o.b w) ?_⟩;rintro _ i ⟨rfl,rfl⟩;refine⟨_,rfl,cw (λa=>⟨_,rfl,?_⟩) (λd=>⟨_,rfl,o.c,Vm.cell h 0 rfl 3,use (Sf o.c _) ?_⟩)⟩
 ·have hn:¬ kP o.b o.c:=λe=>by
   have:¬ (0<=o.b/\o.b<=65536):=kb (by simpa only[h9]using a);exact this e.1
  rw[bJ hn,di hn];exact Vm.rz (j:=7) (out:=cH.zero) (out':=cH.bad 1) bN rfl h (λw' h'=>⟨rfl,h'⟩)
 ·rintro _ w2 ⟨rfl,rfl⟩;have hb:0<=o.b/\o.b<=65536:=by simpa using d
  refine⟨_,rfl,cw (λa=>⟨_,rfl,?_⟩) (λb=>?_)⟩
  ·have hn:¬ kP o.b o.c:=λe=>by
    have:¬ (0<=o.c/\o.c<=65536):=kb (by simpa only[h9]using a);exact this e.2
   rw[bJ hn,di hn];exact Vm.rz (j:=7) (out:=cH.zero) (out':=cH.bad 1) bN rfl h (λw' h'=>⟨rfl,h'⟩)
  ·have f:kP o.b o.c:=⟨hb,by simpa using b⟩
   rw[bL f,dE f];exact⟨rfl,h⟩
def Sg{g:Int}{i:Nat}{pid:Int}{q:Nat×Kw.Sp}(b:0<=pid)(a:pid.toNat=i)(hp:ps[i]?=some (g,some q))(s:bW Kw.Sp):Vs.fO ⟨S,plain ps⟩ pid s=⟨S,(plain ps).set i (g,s)⟩:=by
 unfold Vs.fO;have:=(jU (V:=⟨S,plain ps⟩) (iY hp)).2;rw[show(i:Int)=pid by omega]at this;rw[this,a]
def Si{c sp:Nat}{o:dw}{a:Sl}{x:Rg}(i:dD ps)(hk:a.n=0)(n:0<=o.a){g:Int}{s:Kw.Sp}(hp:ps[o.a.toNat]?=some (g,some (sp,s)))(h:Sep E (Vm A v r S ps (bC c (c9 o v sp cH.zero a)::bw a 1 (bD [])::L)) w){F:bg0}(k:∀w',done E A v r c sp o L ps.length S (Vs.map ⟨S,plain ps⟩ o.a s x) (.tuple #[]) w'->F w'):
  Calls P xB #[Pb sp,.agg x.vs.toArray] w λf l=>∃d:Int,f=.returned (Iv d)/\NN (some ⟨c,0,none⟩) λe=>St ((e.add 7).add 0) (Iv d) (λm=>F m) l:=by
 have b:=i _ _ _ _ hp;refine use (aIL x b (Vm.op hp h)) ?_;rintro _ q ⟨rfl,h1⟩;have h2:=Vm.sh hp h1;refine⟨_,rfl,_,rfl,Vm.rz (j:=7) (out:=cH.zero) (out':=cH.bad (s.map x).2) bN rfl h2 (λw2 p=>k w2 ?_)⟩;unfold Vs.map;rw[Sg n rfl hp];exact⟨rfl,.nil _ _,_,a,i.set (b.map x),by rw[dM],pQ,hk,p⟩
def aGQ{c sp:Nat}{o:dw}{b:Sl}(d:dD ps)(hk:b.n=0)(i:0<=o.a){g:Int}{s:Kw.Sp}(hp:ps[o.a.toNat]?=some (g,some (sp,s)))(h:Sep E (Vm A v r S ps (bC c (c9 o v sp cH.zero b)::bw b 1 (bD [])::L)) w):
  Calls P xp #[Pb c] w (cA (done E A v r c sp o L ps.length S (if kP o.b o.c then Vs.map ⟨S,plain ps⟩ o.a s ⟨o.c,o.c+o.b,1,0,0,true⟩else(⟨S,plain ps⟩,.bad 1)))):=by
 apply Zy;unfold Np qF qL qQ qZ;dsimp only;refine use (E5 h) ?_;rintro _ k ⟨rfl,h1⟩;by_cases a:kP o.b o.c
 ·rw[bL a]at h1 ⊢;obtain⟨⟨b0,b1⟩,e,f⟩:=a;refine⟨_,rfl,bT (dE ⟨⟨b0,b1⟩,e,f⟩) (Dr.i h1 (λw2 h2=>⟨_,rfl,some ⟨sp,0,none⟩,Vm.cell h2 0 rfl 6,_,rfl,o.c,Vm.cell h2 0 rfl 3,_,rfl,o.c,Vm.cell h2 0 rfl 3,_,rfl,o.b,Vm.cell h2 0 rfl 2,?_⟩))⟩;rw[cR (n:=o.c+o.b) bu bu];exact Si (x:=⟨o.c,o.c+o.b,1,0,0,true⟩) d hk i hp h2 (λ_ j=>j)
 ·rw[bJ a]at h1 ⊢;exact⟨_,rfl,bF (di a) ⟨rfl,.nil _ _,ps,b,d,rfl,rfl,hk,h1⟩⟩
def aEM{c sp:Nat}{o:dw}{a:Sl}(m:dD ps)(hk:a.n=0)(B:0<=o.a){g:Int}{s:Kw.Sp}(hp:ps[o.a.toNat]?=some (g,some (sp,s)))(h:Sep E (Vm A v r S ps (bC c (c9 o v sp cH.zero a)::bw a 1 (bD [])::L)) w):
  Calls P xq #[Pb c] w (cA (done E A v r c sp o L ps.length S (if kP o.b o.c then
   (if o.d<0\/(S.files.bY.length:Int)<=o.d\/np S.files o.d<o.b then(⟨S,plain ps⟩,.bad 1)else Vs.map ⟨S,plain ps⟩ o.a s ⟨o.c,o.c+o.b,2,o.d,0,true⟩)else(⟨S,plain ps⟩,.bad 1)))):=by
 apply Zz;unfold Nq qF qL qQ qZ qg zH;refine use (E5 h) ?_;rintro _ G ⟨rfl,h1⟩;by_cases d:kP o.b o.c
 ·rw[bL d]at h1 ⊢;obtain⟨⟨b0,b1⟩,y,z⟩:=d;have bad:∀ {w:bH},(o.d<0\/(S.files.bY.length:Int)<=o.d\/np S.files o.d<o.b)->Sep E (Vm A v r S ps (bC c (c9 o v sp cH.zero a)::bw a 1 (bD [])::L)) w->∀f:bg0,(∀w',done E A v r c sp o L ps.length S (if o.d<0\/(S.files.bY.length:Int)<=o.d\/np S.files o.d<o.b then(⟨S,plain ps⟩,cH.bad 1)else Vs.map ⟨S,plain ps⟩ o.a s ⟨o.c,o.c+o.b,2,o.d,0,true⟩) (.tuple #[]) w'->f w')->St ⟨c,7,none⟩ (Iv 1) f w:=by
   intro w C h' f D;refine Vm.rz (j:=7) (out:=cH.zero) (out':=cH.bad 1) bN rfl h' (λw' p=>D w' ?_);rw[bL C];exact⟨rfl,.nil _ _,ps,a,m,rfl,rfl,hk,p⟩
  refine⟨_,rfl,bF (by rw[dE ⟨⟨b0,b1⟩,y,z⟩];rfl) ⟨λw'=>¬ (o.d<0\/(S.files.bY.length:Int)<=o.d\/np S.files o.d<o.b)/\Sep E (Vm A v r S ps (bC c (c9 o v sp cH.zero a)::bw a 1 (bD [])::L)) w',Dr.i h1 (λw2 h2=>⟨_,rfl,o.d,Vm.cell h2 0 rfl 4,cX (λi=>⟨_,rfl,bad (.inl i) h2 _ (λ_ q=>q)⟩) (λi=>⟨_,rfl,o.d,Vm.cell h2 0 rfl 4,_,rfl,some ⟨v,0,none⟩,Vm.cell h2 0 rfl 5,_,rfl,some ⟨A.c,0,none⟩,h2.cellAt 16 rfl 0,use (aGE h2) ?_⟩)⟩),?_⟩⟩
  ·rintro _ u ⟨rfl,b⟩;have b:Sep E (Vm A v r S ps (bC c (c9 o v sp cH.zero a)::bw a 1 (bD [])::L)) u:=b;refine⟨_,rfl,o.d,Vm.cell b 0 rfl 4,rfl,hD (λk=>⟨_,rfl,bad (.inr (.inl k)) b _ (λ_ q=>q)⟩) (λk=>⟨_,rfl,o.b,Vm.cell b 0 rfl 2,_,rfl,some ⟨v,0,none⟩,Vm.cell b 0 rfl 5,_,rfl,some ⟨A.c,0,none⟩,b.cellAt 16 rfl 0,_,rfl,o.d,Vm.cell b 0 rfl 4,use (aDs o.d b) ?_⟩)⟩;rintro _ F ⟨rfl,e⟩;have e:Sep E (Vm A v r S ps (bC c (c9 o v sp cH.zero a)::bw a 1 (bD [])::L)) F:=e;exact⟨_,rfl,o.b,Vm.cell e 0 rfl 2,rfl,gn (λl=>⟨_,rfl,bad (.inr (.inr l)) e _ (λ_ q=>q)⟩) (λl=>⟨bu,e⟩)⟩
  rintro _ u ⟨t,b⟩;rw[bJ t];refine Dr.i b (λw2 h2=>⟨_,rfl,some ⟨sp,0,none⟩,Vm.cell h2 0 rfl 6,_,rfl,o.c,Vm.cell h2 0 rfl 3,_,rfl,o.c,Vm.cell h2 0 rfl 3,_,rfl,o.b,Vm.cell h2 0 rfl 2,_,rfl,o.d,Vm.cell h2 0 rfl 4,?_⟩);rw[cR (n:=o.c+o.b) bu bu];exact Si (x:=⟨o.c,o.c+o.b,2,o.d,0,true⟩) m hk B hp h2 (λ_ i=>i)
 ·rw[bJ d]at h1 ⊢;exact⟨_,rfl,bT (by rw[di d];rfl) ⟨rfl,.nil _ _,ps,a,m,rfl,rfl,hk,h1⟩⟩
def aIQ{c sp:Nat}{o:dw}{d:Sl}(i:dD ps)(B:Kc.Inv S)(hk:d.n=0)(t:0<=o.a){g:Int}{s:Kw.Sp}(hp:ps[o.a.toNat]?=some (g,some (sp,s)))(h:Sep E (Vm A v r S ps (bC c (c9 o v sp cH.zero d)::bw d 1 (bD [])::L)) w):
  Calls P xr #[Pb c] w (cA (done E A v r c sp o L ps.length S (if kP o.b o.c then
   (let q:=s.cut o.c (o.c+o.b);let V1:=Vs.fO ⟨S,plain ps⟩ o.a (some q.1);({V1 with core:=eb q.2 V1.core},⟨0,q.2.length,[]⟩))else(⟨S,plain ps⟩,.bad 1)))):=by
 have f:=i _ _ _ _ hp;apply ZA;unfold Nr qE qF qJ qL qZ;dsimp only;refine use (E5 h) ?_;rintro _ C ⟨rfl,h1⟩;by_cases e:kP o.b o.c
 ·rw[bL e]at h1 ⊢;obtain⟨⟨b0,b1⟩,k,l⟩:=e;refine⟨_,rfl,bT (dE ⟨⟨b0,b1⟩,k,l⟩) (Dr.i h1 (λw2 h2=>⟨_,rfl,some ⟨sp,0,none⟩,Vm.cell h2 0 rfl 6,_,rfl,o.c,Vm.cell h2 0 rfl 3,_,rfl,o.c,Vm.cell h2 0 rfl 3,_,rfl,o.b,Vm.cell h2 0 rfl 2,?_⟩))⟩;rw[cR (n:=o.c+o.b) bu bu];refine use (Py (a:=o.c) (b:=o.c+o.b) ⟨k,l⟩ bu f (Vm.op hp h2)) ?_;rintro _ D ⟨q,rfl,p,u⟩;have m:=Vm.EX hp u;have hlen:=yh f o.c (o.c+o.b);have z:∀S',Ints E (Vm A v r S' (ps.set o.a.toNat (g,some (sp,(s.cut o.c (o.c+o.b)).1))) (bw q 1 (bD (s.cut o.c (o.c+o.b)).2)::bC c (c9 o v sp cH.zero d)::bw d 1 (bD [])::L)) q (s.cut o.c (o.c+o.b)).2:=λS'=>Vm.ints p;refine⟨q,rfl,_,rfl,some ⟨v,0,none⟩,Vm.cell m 1 rfl 5,use (RV z (by show(s.ids _ _).length<_;omega) B m) ?_⟩;rintro _ F ⟨rfl,x⟩;refine⟨rfl,_,rfl,Vm.rz (j:=8) (out:=cH.zero) (out':=⟨0,((s.cut o.c (o.c+o.b)).2.length:Nat),[]⟩) bN (by rw[p];rfl) (Vm.out x).tail (λG y=>?_)⟩;try dsimp only
  rw[Sg t rfl hp];exact⟨rfl,(vD _ _).up bu,_,d,i.set (f.cut _ _),by rw[dM],pQ,hk,y⟩
 ·rw[bJ e]at h1 ⊢;exact⟨_,rfl,bF (di e) ⟨rfl,.nil _ _,ps,d,i,rfl,rfl,hk,h1⟩⟩
def aID{c sp:Nat}{o:dw}{a:Sl}(f:dD ps)(hn:r.n=ps.length)(j:Kc.Inv S)(hk:a.n=0)(k:0<=o.a){g:Int}{s:Kw.Sp}(hp:ps[o.a.toNat]?=some (g,some (sp,s)))(h:Sep E (Vm A v r S ps (bC c (c9 o v sp cH.zero a)::bw a 1 (bD [])::L)) w):
  Calls P xo #[Pb c] w (cA (done E A v r c sp o L ps.length S (Vs.exit ⟨S,plain ps⟩ o.a,.zero))):=by
 have i:=f _ _ _ _ hp;apply Zx;unfold No qE qL qZ;refine Dr.i h (λl h1=>⟨_,rfl,some ⟨v,0,none⟩,Vm.cell h1 0 rfl 5,_,rfl,o.a,Vm.cell h1 0 rfl 1,?_⟩);have d:o.a=((o.a.toNat:Nat):Int):=by omega
 have b:Vs.space ⟨S,plain ps⟩ o.a=some s/\Vs.group ⟨S,plain ps⟩ o.a=g:=by
  have:=jU (V:=⟨S,plain ps⟩) (iY hp);rwa[<- d]at this
 rw[vF b.1,b.2];have e:=RW hp i hn j h1;rw[<- d]at e;refine use e ?_;rintro _ w2 ⟨rfl,h2⟩;exact⟨rfl,rfl,(vD _ _).up bu,_,a,f.less (iM.die hp),by rw[dM],R0,hk,h2⟩
def aGM{c sp:Nat}{o:dw}{a:Sl}(k:dD ps)(hn:r.n=ps.length)(hk:a.n=0)(p:0<=o.a){g:Int}{s:Kw.Sp}(hp:ps[o.a.toNat]?=some (g,some (sp,s)))(h:Sep E (Vm A v r S ps (bC c (c9 o v sp cH.zero a)::bw a 1 (bD [])::L)) w):
  Calls P xn #[Pb c] w (cA (done E A v r c sp o L ps.length S (if S.live o.b then(⟨S,(plain ps).set o.a.toNat (o.b,some s)⟩,.zero)else(⟨S,plain ps⟩,.bad 2)))):=by
 have n:=(c4.1 hp).1;apply Zw;unfold Nn qF qK qL qR qW qZ zH;refine Dr.i h (λt h1=>⟨_,rfl,some ⟨v,0,none⟩,Vm.cell h1 0 rfl 5,_,rfl,some ⟨A.c,0,none⟩,h1.cellAt 16 rfl 0,_,rfl,o.b,Vm.cell h1 0 rfl 2,use (yH h1) ?_⟩);rintro _ w2 ⟨rfl,h2⟩;have h2:Sep E (Vm A v r S ps (bC c (c9 o v sp cH.zero a)::bw a 1 (bD [])::L)) w2:=h2;refine⟨_,rfl,o.b,Vm.cell h2 0 rfl 2,rfl,use (kB h2 (q:=1) rfl) ?_⟩;rintro _ _ ⟨rfl,rfl⟩;have hl:S.live o.b=dt S.tree o.b:=rfl;rw[hl];refine⟨_,rfl,cw (λi=>⟨_,rfl,?_⟩) (λd=>Dr.i h2 (λu f=>⟨_,rfl,some ⟨v,0,none⟩,Vm.cell f 0 rfl 5,_,rfl,r,f.cellAt 16 rfl 1,_,rfl,o.a,Vm.cell f 0 rfl 1,_,rfl,o.b,Vm.cell f 0 rfl 2,Vm.el hn f (show o.a=((o.a.toNat:Nat):Int) by omega) hp (λb hb _=>?_)⟩))⟩
 ·have i:dt S.tree o.b=false:=by simpa using i
  rw[i,bJ bN];exact Vm.rz (j:=7) (out:=cH.zero) (out':=cH.bad 2) bN rfl h2 (λw' h'=>⟨rfl,.nil _ _,ps,a,k,rfl,rfl,hk,h'⟩)
 ·have d:dt S.tree o.b=true:=by simpa using d
  rw[d,bL rfl,cj];refine sM ry (a':=(o.b,some (sp,s))) (f.fr 17 rfl) hb hp bN rfl (λx l=>⟨rfl,.nil _ _,ps.set o.a.toNat (o.b,some (sp,s)),a,k.set (k _ _ _ _ hp),by rw[dM],pQ,hk,?_⟩);have m:=Sep.put (L:=Vm A v r S ps (bC c (c9 o v sp cH.zero a)::bw a 1 (bD [])::L)) (q:=17) (A':=bw r 2 (bP hF (ps.set o.a.toNat (o.b,some (sp,s))))) rfl l;have e:(ps.set o.a.toNat (o.b,some (sp,s))).map h6=ps.map h6:=by
   rw[hL];exact tk (by rw[eI,hp];rfl)
  unfold Vm;rw[e];exact m
def Sj:hi P Vl=some (16,2,[Iv 0,.pointer none]):=by kernel_rfl
def Sk{g:Int}{sp:Nat}{s:Kw.Sp}(hn:r.n=ps.length)(hb:ps.length<=64)(h:Sep E (Vm A v r S ps (dW sp s::L)) w):
  Calls P BA #[Pb v,Iv g,Pb sp] w
   (cA λx w'=>x=.agg #[Iv 0,Iv (ps.length:Nat),aN8]/\∃r':Sl,r'.n=(ps++[(g,some (sp,s))]).length/\Sep E (Vm A v r' S (ps++[(g,some (sp,s))]) L) w'):=by
 apply ZL;unfold Nx qK qU zI zW;refine Al.i h (λj q h1=>⟨_,rfl,r,h1.cellAt 17 rfl 1,Al.i h1 (λk w2 h2=>?_)⟩);have h2:Sep E (bC k [Iv g,Pb sp]::bC j [Iv 0,Iv 0,aN8]::Vm A v r S ps (dW sp s::L)) w2:=h2;have o:=Src.bC (n:=1) (c:=1) h2 (i:=0) rfl Sj rfl (λu hu=>by simp only[ey,tE,tJ]at hu;rcases hu with rfl|rfl<;>rfl);refine bw.append (h2.fr 19 rfl) Sj rfl o bu (by rw[hn];omega) (λr' t m l=>⟨_,rfl,?_⟩);have e:bP hF ps++[Iv g,Pb sp]=bP hF (ps++[(g,some (sp,s))]):=by rw[m4,oL];rfl
 rw[e]at l;refine St.i (l.fr 19 rfl) (by show 1<2;decide) (λp f=>?_);have f:Sep E ([bC v [Pb A.c,.slice r'.p r'.n r'.c],bw r' 2 (bP hF (ps++[(g,some (sp,s))]))]++(([bC k [Iv g,Pb sp],bC j [Iv 0,Iv 0,aN8]]++cg A S)++(ps.map h6++dW sp s::L))) p:=f;have a:=f.perm (pV _ _ _);have em:ps.map h6++dW sp s::L=(ps++[(g,some (sp,s))]).map h6++L:=by rw[kK,dm];rfl
 rw[em]at a;have a:Sep E (bC k [Iv g,Pb sp]::bC j [Iv 0,Iv 0,aN8]::Vm A v r' S (ps++[(g,some (sp,s))]) L) p:=a;have d:r'.n=(ps++[(g,some (sp,s))]).length:=by rw[m,hn,dg];rfl
 refine⟨_,rfl,r',a.cellAt 18 rfl 1,ew _ a.swap rfl (λy b=>?_)⟩;refine⟨0,b.cell 0,(ps.length:Int),?_,⟨none,0,0⟩,b.cell 2,rfl,r',d,b.tail.tail⟩;have hl:((r'.n:Nat):Int)-1=(ps.length:Int):=by rw[d,dg];simp
 have:=b.cell 1;rw[hl,cR bu bu]at this;exact this
def yN(E:Env)(A:At)(v c sp:Nat)(o:dw)(L:cv)(S:Cs)(q:Vs×cH)(x:bE)(w:bH):Prop:=
 x=.tuple #[]/\cr 66 S q.1.core/\∃(r':Sl) (cJ:PS) (a:Sl),dD cJ/\r'.n=cJ.length/\cJ.length<=64/\plain cJ=q.1.procs/\a.n=q.2.bI.length/\
  Sep E (Vm A v r' q.1.core cJ (bC c (c9 o v sp q.2 a)::bw a 1 (bD q.2.bI)::L)) w
def done.toC{c sp n:Nat}{o:dw}{q:Vs×cH}{x:bE}(hn:r.n=n)(hb:n<=64)(h:done E A v r c sp o L n S q x w):yN E A v c sp o L S q x w:=by
 obtain⟨h1,h2,cJ,b,d,a,e,f,g⟩:=h;exact⟨h1,h2,r,cJ,b,d,by rw[a];exact hn,by rw[a];exact hb,e,f,g⟩
def aJN{c sp:Nat}{o:dw}{d:Sl}(D:dD ps)(hn:r.n=ps.length)(hb:ps.length<=64)(aa:Kc.Inv S)(hk:d.n=0)(ab:0<=o.a){g:Int}{s:Kw.Sp}(hp:ps[o.a.toNat]?=some (g,some (sp,s)))(h:Sep E (Vm A v r S ps (bC c (c9 o v sp cH.zero d)::bw d 1 (bD [])::L)) w):
  Calls P xv #[Pb c] w (cA (yN E A v c sp o L S (if 64<=(plain ps).length then(⟨S,plain ps⟩,.bad 3)else
  ({core:=dP (s.ids 0 65536) S,procs:=plain ps++[(g,some s)]},⟨0,((plain ps).length:Nat),[]⟩)))):=by
 have f:=D _ _ _ _ hp;rw[j9];apply ZD;unfold Nu qD qJ qK qL qO qQ qR qU qW qZ zx;refine⟨_,rfl,some ⟨v,0,none⟩,Vm.cell h 0 rfl 5,_,rfl,r,h.cellAt 16 rfl 1,hD (λM=>⟨_,rfl,?_⟩) (λN=>⟨_,rfl,some ⟨sp,0,none⟩,Vm.cell h 0 rfl 6,use (aES f (Vm.op hp h)) ?_⟩)⟩
 ·rw[eJ];exact Vm.rz (j:=7) (out:=cH.zero) (out':=cH.bad 3) bN rfl h (λw' h'=>⟨rfl,.nil _ _,r,ps,d,D,hn,hb,rfl,hk,h'⟩)
 rw[cF];rintro _ ad ⟨t,rfl,h1⟩;have h2:=Vm.bk1 hp h1;refine⟨_,rfl,use (aIK f (Vm.out h2)) ?_⟩;rintro _ w2 ⟨q,rfl,O,K⟩;have hlen:=yh f 0 65536;obtain⟨ids,C⟩:∃ids,s.ids 0 65536=ids:=⟨_,rfl⟩
 rw[C]at O K hlen ⊢;have U:Sep E (Vm A v r S ps (bw q 1 (bD ids)::dW t s::bC c (c9 o v sp cH.zero d)::bw d 1 (bD [])::L)) w2:=Vm.hG [_,_] K;refine⟨q,rfl,λx w'=>∃(k:Nat) (S':Cs),x=k/\k<=ids.length/\Kc.Inv S'/\dP (ids.drop k) S'=dP ids S/\Sep E (Vm A v r S' ps (bw q 1 (bD ids)::dW t s::bC c (c9 o v sp cH.zero d)::bw d 1 (bD [])::L)) w',λx _=>(ids.length-x).toNat,⟨0,S,rfl,e7 _,aa,rfl,U⟩,?_⟩;rintro _ _ ae ⟨k,S',rfl,z,F,he,u⟩;refine cX (λN=>?_) (λM=>?_)
 ·obtain⟨x,hx⟩:∃x,ids[k]?=some x:=⟨_,dN⟩
  have X:ids.drop k=x::ids.drop (k+1):=by
   have z:=(c4.1 hx).1;rw[lD z];rw[dL z]at hx;rw[cU hx]
  rw[X]at he;refine(Vm.ints (L:=dW t s::bC c (c9 o v sp cH.zero d)::bw d 1 (bD [])::L) O).el u k rfl hx ⟨_,rfl,some ⟨v,0,none⟩,Vm.cell u 2 rfl 5,_,rfl,some ⟨A.c,0,none⟩,u.cellAt 16 rfl 0,use (yG (id:=x) (n:=1) F u) ?_⟩;rintro _ Y ⟨rfl,B⟩;exact⟨_,rfl,⟨k+1,_,de,bu,F.bO x 1,he,B⟩,by rw[de];dsimp only;omega⟩
 ·have:k=ids.length:=by omega
  subst this;rw[we]at he;have he:S'=dP ids S:=he;subst he;have B:=(Vm.out u).tail;refine Dr.i B (λY l=>⟨_,rfl,some ⟨v,0,none⟩,Vm.cell l 1 rfl 5,_,rfl,some ⟨v,0,none⟩,Vm.cell l 1 rfl 5,_,rfl,r,l.cellAt 16 rfl 1,_,rfl,o.a,Vm.cell l 1 rfl 1,Vm.el hn l (show o.a=((o.a.toNat:Nat):Int) by omega) hp (λb _ W=>⟨g,by rw[cj];exact W 0 _ rfl,use (Sk (g:=g) hn hb l) ?_⟩)⟩);rintro _ Z ⟨rfl,r',Q,V⟩;have y:=Vm.fl [_] (V:Sep E (Vm A v r' (dP ids S) _ ([bC c (c9 o v sp cH.zero d)]++(bw d 1 (bD [])::L))) Z);refine⟨_,_,⟨none,0,0⟩,rfl,_,rfl,?_⟩;refine St.i y (by show 7<10;decide) (λaf y=>St.i y (by show 8<10;decide) (λag y=>St.i y (by show 9<10;decide) (λR G=>?_)));have H:=Vm.hG [bC c (c9 o v sp ⟨0,(ps.length:Nat),[]⟩ ⟨none,0,0⟩)] G;have I:=(bw.none_ (m:=1) (Vm.fl [_,_] (H:Sep E (Vm A v r' (dP ids S) _ ([bC c (c9 o v sp ⟨0,(ps.length:Nat),[]⟩ ⟨none,0,0⟩),bw d 1 (bD [])]++L)) R)))
  have J:Sep E (Vm A v r' (dP ids S) (ps++[(g,some (t,s))]) (bC c (c9 o v sp ⟨0,(ps.length:Nat),[]⟩ ⟨none,0,0⟩)::bw ⟨none,0,0⟩ 1 (bD [])::L)) R:=Vm.hG [_,_] (I.ro 3 [1,0] rfl);refine⟨rfl,(RK _ _).up bu,r',ps++[(g,some (t,s))],⟨none,0,0⟩,?_,Q,by rw[dg,l1];omega,?_,rfl,J⟩
  ·intro i T a s' p;rcases hN i ps.length with e|e
   ·rw[eN e]at p;exact D i T a s' p
   ·rw[fR e]at p;have:i-ps.length=0:=by
     have:=(c4.1 p).1;simp at this;omega
    rw[this]at p;cases p;exact f
  ·unfold plain;rw[kK];rfl
def e6(o:dw):bA bE:=[Iv o.kind,Iv o.a,Iv o.b,Iv o.c,Iv o.d]
def pR(E:Env)(A:At)(v:Nat)(L:cv)(S:Cs)(q:Vs×cH)(x:bE)(w:bH):Prop:=
 x=.agg #[Iv q.2.err,Iv q.2.n,aN8]/\q.2.bI= []/\cr 66 S q.1.core/\∃(gs us r':Sl) (cJ:PS),dD cJ/\r'.n=cJ.length/\cJ.length<=64/\plain cJ=q.1.procs/\Sep E (Vm {A with gs:=gs,us:=us} v r' q.1.core cJ L) w
def jW{g b:Nat}{o:dw}{V':Vs}{out:cH}{gs us r':Sl}{cJ:PS}{F:bg1}(he:out.bI= [])(hr:cr 66 S V'.core)(f:dD cJ)(hn:r'.n=cJ.length)(hb:cJ.length<=64)(hp:plain cJ=V'.procs)(h:Sep E (bC b [Iv 0,Iv 0,aN8]::bC g (e6 o)::Vm {A with gs:=gs,us:=us} v r' V'.core cJ L) w)(k:∀x w',pR E A v L S (V',out) x w'->F x w'):
  kM [Iv out.err,Iv out.n,aN8] ⟨b,0,none⟩ (λa=>∃c:Int,a.cell? ((⟨b,0,none⟩:Addr).add 0)=some (Iv c)/\∃d:Int,a.cell? ((⟨b,0,none⟩:Addr).add 1)=some (Iv d)/\∃e:Sl,a.cell? ((⟨b,0,none⟩:Addr).add 2)=some (Sv e)/\F (.agg #[Iv c,Iv d,Sv e]) a) w:=
 ew _ h rfl (λi h1=>⟨_,h1.cell 0,_,h1.cell 1,⟨none,0,0⟩,h1.cell 2,k _ _ ⟨rfl,he,hr,gs,us,r',cJ,f,hn,hb,hp,h1.tail.tail⟩⟩)
def aGW{o:dw}(g:dD ps)(hn:r.n=ps.length)(hb:ps.length<=64)(j:Kc.Inv S)(h:Sep E (Vm A v r S ps L) w):
  Calls P xh #[Pb v,.agg (e6 o).toArray] w (cA (pR E A v L S (let q:=S.cp o.a;(⟨q.1,plain ps⟩,⟨q.2.2,max q.2.1 0,[]⟩)))):=by
 apply Zq;unfold Nh qL qU qZ qj zI zW;dsimp only;refine Al.i h (λb k h1=>Al.i h1 (λc w2 h2=>Dr.i h2 (λi a=>?_)));have a:Sep E (bC c [Iv 0,Iv 0,aN8]::bC b (e6 o)::Vm A v r S ps L) i:=a;refine⟨_,rfl,some ⟨A.c,0,none⟩,a.cellAt 18 rfl 0,o.a,a.cellAt 1 rfl 1,use (aDp (p:=o.a) j (Vm.hG [_,_] a)) ?_⟩;rintro _ l ⟨rfl,gs,us,d⟩;have e:=Vm.fl (A:={A with gs:=gs,us:=us}) [bC c [Iv 0,Iv 0,aN8],bC b (e6 o)] d;have em:ea (S.cp o.a).2.1 0=max (S.cp o.a).2.1 0:=by unfold ea;split<;>omega
 refine⟨_,_,rfl,?_⟩;rw[em];exact jW (V':=⟨(S.cp o.a).1,plain ps⟩) (out:=⟨(S.cp o.a).2.2,max (S.cp o.a).2.1 0,[]⟩) rfl ((cr.cp o.a).up bu) g hn hb rfl e (λ_ _ f=>f)
def aGX{o:dw}(i:dD ps)(hn:r.n=ps.length)(hb:ps.length<=64)(k:Kc.Inv S)(h:Sep E (Vm A v r S ps L) w):
  Calls P xj #[Pb v,.agg (e6 o).toArray] w (cA (pR E A v L S (let q:=S.cC o.a o.b o.c;(⟨q.1,plain ps⟩,.bad q.2)))):=by
 apply Zs;unfold Nj qL qQ qU qZ zI zW;refine Al.i h (λb l h1=>Al.i h1 (λc w2 h2=>Dr.i h2 (λj a=>?_)));have a:Sep E (bC c [Iv 0,Iv 0,aN8]::bC b (e6 o)::Vm A v r S ps L) j:=a;refine⟨_,rfl,some ⟨A.c,0,none⟩,a.cellAt 18 rfl 0,o.a,a.cellAt 1 rfl 1,o.b,a.cellAt 1 rfl 2,o.c,a.cellAt 1 rfl 3,use (aGF (g:=o.a) (what:=o.b) (n:=o.c) k (Vm.hG [_,_] a)) ?_⟩;rintro _ m ⟨rfl,d⟩;have e:=Vm.fl [bC c [Iv 0,Iv 0,aN8],bC b (e6 o)] d;exact⟨_,rfl,jW (V':=⟨(S.cC o.a o.b o.c).1,plain ps⟩) (out:=.bad (S.cC o.a o.b o.c).2) (gs:=A.gs) (us:=A.us) rfl ((cr.cC o.a o.b o.c).up bu) i hn hb rfl e (λ_ _ f=>f)⟩
def aJX{o:dw}(g:dD ps)(hn:r.n=ps.length)(hb:ps.length<=64)(j:Kc.Inv S)(h:Sep E (Vm A v r S ps L) w):
  Calls P xl #[Pb v,.agg (e6 o).toArray] w (cA (pR E A v L S (let q:=S.du o.a;(⟨q.1,plain ps⟩,⟨0,q.2,[]⟩)))):=by
 apply Zu;unfold Nl qL qQ qU qZ zI zW;refine Al.i h (λb k h1=>Al.i h1 (λc w2 h2=>Dr.i h2 (λi a=>?_)));have a:Sep E (bC c [Iv 0,Iv 0,aN8]::bC b (e6 o)::Vm A v r S ps L) i:=a;refine⟨_,rfl,some ⟨A.c,0,none⟩,a.cellAt 18 rfl 0,o.a,a.cellAt 1 rfl 1,use (aJD (t:=o.a) j (Vm.hG [_,_] a)) ?_⟩;rintro _ l ⟨rfl,d⟩;have e:=Vm.fl [bC c [Iv 0,Iv 0,aN8],bC b (e6 o)] d;exact⟨_,rfl,jW (V':=⟨(S.du o.a).1,plain ps⟩) (out:=⟨0,(S.du o.a).2,[]⟩) (gs:=A.gs) (us:=A.us) rfl ((cr.du o.a).up bu) g hn hb rfl e (λ_ _ f=>f)⟩
def aEX{o:dw}(g:dD ps)(hn:r.n=ps.length)(hb:ps.length<=64)(j:Kc.Inv S)(h:Sep E (Vm A v r S ps L) w):
  Calls P xm #[Pb v,.agg (e6 o).toArray] w (cA (pR E A v L S (let q:=S.shrink o.a o.b;(⟨q.1,plain ps⟩,⟨0,q.2,[]⟩)))):=by
 apply Zv;unfold Nm qL qQ qU qZ zI zW;refine Al.i h (λb k h1=>Al.i h1 (λc w2 h2=>Dr.i h2 (λi a=>?_)));have a:Sep E (bC c [Iv 0,Iv 0,aN8]::bC b (e6 o)::Vm A v r S ps L) i:=a;refine⟨_,rfl,some ⟨A.c,0,none⟩,a.cellAt 18 rfl 0,o.a,a.cellAt 1 rfl 1,o.b,a.cellAt 1 rfl 2,use (aGJ (t:=o.a) (n:=o.b) j (Vm.hG [_,_] a)) ?_⟩;rintro _ l ⟨rfl,d⟩;have e:=Vm.fl [bC c [Iv 0,Iv 0,aN8],bC b (e6 o)] d;exact⟨_,rfl,jW (V':=⟨(S.shrink o.a o.b).1,plain ps⟩) (out:=⟨0,(S.shrink o.a o.b).2,[]⟩) (gs:=A.gs) (us:=A.us) rfl ((cr.shrink o.a o.b).up bu) g hn hb rfl e (λ_ _ f=>f)⟩
def aGY{o:dw}(n:dD ps)(hn:r.n=ps.length)(hb:ps.length<=64)(h:Sep E (Vm A v r S ps L) w):
  Calls P xk #[Pb v,.agg (e6 o).toArray] w (cA (pR E A v L S (if S.live o.a=false then(⟨S,plain ps⟩,.bad 2)else if 64<=(plain ps).length then(⟨S,plain ps⟩,.bad 3)else
  (⟨S,plain ps++[(o.a,some Sp.new)]⟩,⟨0,((plain ps).length:Nat),[]⟩)))):=by
 have hl:S.live o.a=dt S.tree o.a:=rfl;rw[j9,hl];apply Zt;unfold Nk qF qK qL qR qU qZ zH zI zW zx;refine Al.i h (λl I h1=>Al.i h1 (λm w2 h2=>Dr.i h2 (λC f=>?_)));have f:Sep E (bC m [Iv 0,Iv 0,aN8]::bC l (e6 o)::Vm A v r S ps L) C:=f;refine⟨_,rfl,some ⟨A.c,0,none⟩,f.cellAt 18 rfl 0,o.a,f.cellAt 1 rfl 1,use (yH (Vm.hG [_,_] f)) ?_⟩;rintro _ D ⟨rfl,y⟩;have c:=Vm.fl [bC m [Iv 0,Iv 0,aN8],bC l (e6 o)] y;have c:Sep E (bC m [Iv 0,Iv 0,aN8]::bC l (e6 o)::Vm A v r S ps L) D:=c;refine⟨_,rfl,o.a,c.cellAt 1 rfl 1,rfl,use (kB c (q:=3) rfl) ?_⟩;rintro _ _ ⟨rfl,rfl⟩;refine⟨_,rfl,cw (λk=>?_) (λb=>⟨_,rfl,r,c.cellAt 18 rfl 1,hD (λG=>?_) (λH=>Dr.i c (λJ s=>⟨o.a,s.cellAt 1 rfl 1,use (aIM s) ?_⟩))⟩)⟩
 ·have k:dt S.tree o.a=false:=by simpa using k
  rw[bL k];exact jW (V':=⟨S,plain ps⟩) (out:=.bad 2) (gs:=A.gs) (us:=A.us) rfl (.nil _ _) n hn hb rfl c (λ_ _ j=>j)
 ·have b:dt S.tree o.a=true:=by simpa using b
  rw[bJ (by rw[b];decide),eJ];exact jW (V':=⟨S,plain ps⟩) (out:=.bad 3) (gs:=A.gs) (us:=A.us) rfl (.nil _ _) n hn hb rfl c (λ_ _ j=>j)
 ·have b:dt S.tree o.a=true:=by simpa using b
  rw[bJ (by rw[b];decide),cF];rintro _ F ⟨sp,rfl,t⟩;have z:Sep E (Vm A v r S ps (dW sp Sp.new::([bC m [Iv 0,Iv 0,aN8],bC l (e6 o)]++L))) F:=Vm.hG [_,_,_] t;refine⟨_,rfl,o.a,t.cellAt 2 rfl 1,rfl,use (Sk (g:=o.a) hn hb z) ?_⟩;rintro _ K ⟨rfl,r',u,B⟩;have p:=Vm.fl [bC m [Iv 0,Iv 0,aN8],bC l (e6 o)] B;refine⟨_,_,⟨none,0,0⟩,rfl,jW (V':=⟨S,plain ps++[(o.a,some Sp.new)]⟩) (out:=⟨0,(ps.length:Nat),[]⟩) (gs:=A.gs) (us:=A.us) (cJ:=ps++[(o.a,some (sp,Sp.new))]) rfl (.nil _ _) ?_ u (by rw[dg,l1];omega) ?_ p (λ_ _ j=>j)⟩
  ·intro i x a s' d;rcases hN i ps.length with e|e
   ·rw[eN e]at d;exact n i x a s' d
   ·rw[fR e]at d;have:i-ps.length=0:=by
     have:=(c4.1 d).1;simp at this;omega
    rw[this]at d;cases d;exact fC.new
  ·unfold plain;rw[kK];rfl
def aIo(g:Int):Vs.busy ⟨S,plain ps⟩ g=((g !=0&&S.live g)&&(plain ps).any λp=>p.2.isSome&&p.1==g):=rfl
def aEW{o:dw}(H:dD ps)(hn:r.n=ps.length)(hb:ps.length<=64)(T:Kc.Inv S)(h:Sep E (Vm A v r S ps L) w):
  Calls P xi #[Pb v,.agg (e6 o).toArray] w (cA (pR E A v L S (if Vs.busy ⟨S,plain ps⟩ o.a then(⟨S,plain ps⟩,.bad 4)else(let q:=S.remove o.a;(⟨q.1,plain ps⟩,.bad q.2))))):=by
 rw[aIo];apply Zr;unfold Ni qF qK qL qO qQ qR qU qW qZ qh zH zI zW zq;dsimp only;refine Al.i h (λi U h1=>Al.i h1 (λj w2 h2=>?_));have h2:Sep E (bC j [Iv 0,Iv 0,aN8]::bC i (e6 o)::Vm A v r S ps L) w2:=h2;have hl:S.live o.a=dt S.tree o.a:=rfl;refine⟨λb w'=>b=(o.a !=0&&S.live o.a)/\Sep E (bC j [Iv 0,Iv 0,aN8]::bC i (e6 o)::Vm A v r S ps L) w',Dr.i h2 (λN d=>⟨o.a,d.cellAt 1 rfl 1,cw (λe=>⟨_,rfl,some ⟨A.c,0,none⟩,d.cellAt 18 rfl 0,o.a,d.cellAt 1 rfl 1,use (yH (Vm.hG [_,_] d)) ?_⟩) (λe=>⟨by rw[e];rfl,d⟩)⟩),?_⟩
 ·rintro _ I ⟨rfl,n⟩;have a:=Vm.fl [bC j [Iv 0,Iv 0,aN8],bC i (e6 o)] n;have a:Sep E (bC j [Iv 0,Iv 0,aN8]::bC i (e6 o)::Vm A v r S ps L) I:=a;refine⟨_,rfl,o.a,a.cellAt 1 rfl 1,rfl,use (kB a (q:=3) rfl) ?_⟩;rintro _ _ ⟨rfl,rfl⟩;exact⟨_,rfl,by rw[e,hl];rfl,a⟩
 rintro _ _ N ⟨rfl,d⟩;generalize (o.a !=0&&S.live o.a)=l;refine⟨_,rfl,r,d.cellAt 18 rfl 1,λx w'=>∃k:Nat,x=k/\k<=ps.length/\(l&&((plain ps).take k).any λp=>p.2.isSome&&p.1==o.a)=false/\Sep E (bC j [Iv 0,Iv 0,aN8]::bC i (e6 o)::Vm A v r S ps L) w',λx _=>(ps.length-x).toNat,⟨0,rfl,e7 _,by simp,d⟩,?_⟩;rintro _ _ I ⟨k,rfl,hk,m,n⟩;refine cX (λR=>?_) (λQ=>?_)
 ·obtain⟨p,hp⟩:∃p,ps[k]?=some p:=⟨_,dN⟩
  obtain⟨g,f⟩:=p;have B:=iY hp;have z:∀b:Bool,(l&&((f.map Prod.snd).isSome&&g==o.a))=b->(l&&((plain ps).take (k+1)).any λp=>p.2.isSome&&p.1==o.a)=b:=by
   intro b hb;rw[fL B,Gm,Bool.and_or_distrib_left,m,Gs];show(l&&(((f.map Prod.snd).isSome&&g==o.a)||false))=b;rw[o6];exact hb
  have y:((ps.length:Int)-((k+1:Nat):Int)).toNat<((ps.length:Int)-(k:Int)).toNat:=by omega
  have G:=Vm.hG [_,_] n;refine Vm.el hn G rfl hp (λb _ F=>⟨g,by rw[cj];exact F 0 _ rfl,f.map (λq=>(⟨q.1,0,none⟩:Addr)),by rw[cj];exact F 1 _ rfl,Al.i n (λpp O a=>ew _ a rfl (λD c=>?_))⟩);have c:Sep E (bC pp (hF (g,f))::bC j [Iv 0,Iv 0,aN8]::bC i (e6 o)::Vm A v r S ps L) D:=c;have next:(l&&((f.map Prod.snd).isSome&&g==o.a))=false->(∃k':Nat,i64.wrap ((k:Int)+1)=k'/\k'<=ps.length/\(l&&((plain ps).take k').any λp=>p.2.isSome&&p.1==o.a)=false/\Sep E (bC j [Iv 0,Iv 0,aN8]::bC i (e6 o)::Vm A v r S ps L) D)/\((ps.length:Int)-i64.wrap ((k:Int)+1)).toNat<((ps.length:Int)-(k:Int)).toNat:=
   λM=>⟨⟨k+1,de,bu,z _ M,c.tail⟩,by rw[de];exact y⟩
  have J:(!(f.map λq=>(⟨q.1,0,none⟩:Addr)).isNone)=(f.map Prod.snd).isSome:=by cases f<;>rfl
  refine cw (λs=>⟨_,c.cell 1,?_⟩) (λs=>next (by rw[s];rfl));rw[J];refine cw (λt=>⟨g,c.cell 0,o.a,c.cellAt 2 rfl 1,cw (λheq=>?_) (λe=>next (by rw[e];simp))⟩) (λt=>next (by rw[t];simp));have u:(l&&(plain ps).any λp=>p.2.isSome&&p.1==o.a)=true:=by
   rw[s,l4];exact tC.2 ⟨_,eH B,by rw[dA];exact⟨t,heq⟩⟩
  rw[bL u];exact jW (V':=⟨S,plain ps⟩) (out:=.bad 4) (gs:=A.gs) (us:=A.us) rfl (.nil _ _) H hn hb rfl c.tail (λ_ _ C=>C)
 ·have:k=ps.length:=by omega
  subst this;rw[iq (by rw[j9];exact ep _)]at m;rw[bJ (by rw[m];decide)];refine Dr.i n (λO a=>⟨_,rfl,some ⟨A.c,0,none⟩,a.cellAt 18 rfl 0,o.a,a.cellAt 1 rfl 1,use (aEA (g:=o.a) T (Vm.hG [_,_] a)) ?_⟩);rintro _ D ⟨rfl,c⟩;have K:=Vm.fl [bC j [Iv 0,Iv 0,aN8],bC i (e6 o)] c;exact⟨_,rfl,jW (V':=⟨(S.remove o.a).1,plain ps⟩) (out:=.bad (S.remove o.a).2) (gs:=A.gs) (us:=A.us) rfl ((cr.remove o.a).up bu) H hn hb rfl K (λ_ _ C=>C)⟩
end Go.Mp
namespace Go.Sp
open Go Go.Vc
variable{P:cP}
def E6(P:cP)(t:cf):Bool:=match P.underlying t with
 |some (.func _ _ _)=>true
 |_=>false
def yO{t:cf}(e:E6 P t=true)(g:bg7)(w:bH):(Op.equal t (.func (.func g) #[] #[]) .nilFunc).run P w=.ok false w/\(Op.equal t .nilFunc .nilFunc).run P w=.ok true w:=by
 unfold E6 at e;split at e
 ·next a b c hu=>
  have h1:∀d,(Op.equalIn (d+1) t (.func (.func g) #[] #[]) .nilFunc).run P w=.ok false w:=λd=>by simp[Op.equalIn,run_underlying hu]
  have h2:∀d,(Op.equalIn (d+1) t .nilFunc .nilFunc).run P w=.ok true w:=λd=>by simp[Op.equalIn,run_underlying hu]
  exact⟨rP (h1 9999),rP (h2 9999)⟩
 ·cases e
def kh.fn{t:cf}(a:E6 P t=true)(o:bW bg7):kh P .neq t ((o.map λg=>Value.func (.func g) #[] #[]).getD .nilFunc) .nilFunc o.isSome/\kh P .eql t ((o.map λg=>Value.func (.func g) #[] #[]).getD .nilFunc) .nilFunc (!o.isSome):=by
 cases o with
 |none=>
  refine⟨⟨λb c w=>?_,λw=>?_⟩,⟨λb c w=>?_,λw=>?_⟩⟩;·simp[eqGuard]
  ·have:=(yO a 0 w).2;simp[binOp,this]
  ·simp[eqGuard]
  ·have:=(yO a 0 w).2;simp[binOp,this]
 |some g=>
  refine⟨⟨λb c w=>?_,λw=>?_⟩,⟨λb c w=>?_,λw=>?_⟩⟩;·simp[eqGuard]
  ·have:=(yO a g w).1;simp[binOp,this]
  ·simp[eqGuard]
  ·have:=(yO a g w).1;simp[binOp,this]
end Go.Sp
namespace Go.Mp
open Go Go.Vc Go.Sp Go.Proofs Go.Kc Go.Kw Go.Kt
variable{E:Env}{L:cv}{w W:bH}
def pS(k:Int):bW bg7:=if k=0 then some xh else if k=1 then some xi else if k=2 then some xj else if k=3 then some xk else if k=12 then some xl else if k=13 then some xm else none
def pT(k:Int):bW bg7:=if k=4 then some xn else if k=5 then some xp else if k=6 then some xq else if k=7 then some xr else if k=8 then some xt else if k=9 then some xu else if k=10 then some xv else if k=11 then some xo else none
def rA(f:Int->bW bg7)(k:Int):bW bE:=(f k).map λg=>.func (.func g) #[] #[]
def hc:h3 P Bg (Value.int .i64):=h3.int cV
def aDy(h:Sep E L w):Calls P H9 #[] w (cA λx w'=>∃m:Nat,x=.map (some m)/\Sep E (cE m (Value.int .i64) (rA pS)::L) w'):=by
 apply Zm;refine cE.new (κ:=Int) (enc:=Value.int .i64) h (λm n h1=>?_);refine mapUpdate.i h1 hc (z:=.nilFunc) cV 0 _ (λw2 h2=>?_);refine mapUpdate.i h2 hc (z:=.nilFunc) cV 1 _ (λo f=>?_);refine mapUpdate.i f hc (z:=.nilFunc) cV 2 _ (λp g=>?_);refine mapUpdate.i g hc (z:=.nilFunc) cV 3 _ (λq i=>?_);refine mapUpdate.i i hc (z:=.nilFunc) cV 12 _ (λr j=>?_);refine mapUpdate.i j hc (z:=.nilFunc) cV 13 _ (λs l=>⟨m,rfl,?_⟩);have e:rA pS=cL (cL (cL (cL (cL (cL (λ_=>none) 0 (some (.func (.func xh) #[] #[]))) 1 (some (.func (.func xi) #[] #[]))) 2 (some (.func (.func xj) #[] #[]))) 3 (some (.func (.func xk) #[] #[]))) 12 (some (.func (.func xl) #[] #[]))) 13 (some (.func (.func xm) #[] #[])):=by
  funext k;unfold rA pS cL;by_cases a0:k=0;·subst a0;rfl
  by_cases c:k=1;·subst c;rfl
  by_cases d:k=2;·subst d;rfl
  by_cases a3:k=3;·subst a3;rfl
  by_cases a:k=12;·subst a;rfl
  by_cases b:k=13;·subst b;rfl
  simp only[bJ a0,bJ c,bJ d,bJ a3,bJ a,bJ b];rfl
 rw[e];exact l
def aIA(h:Sep E L w):Calls P Ia #[] w (cA λx w'=>∃m:Nat,x=.map (some m)/\Sep E (cE m (Value.int .i64) (rA pT)::L) w'):=by
 apply Zn;refine cE.new (κ:=Int) (enc:=Value.int .i64) h (λm p h1=>?_);refine mapUpdate.i h1 hc (z:=.nilFunc) cV 4 _ (λw2 h2=>?_);refine mapUpdate.i h2 hc (z:=.nilFunc) cV 11 _ (λq f=>?_);refine mapUpdate.i f hc (z:=.nilFunc) cV 5 _ (λr g=>?_);refine mapUpdate.i g hc (z:=.nilFunc) cV 6 _ (λs i=>?_);refine mapUpdate.i i hc (z:=.nilFunc) cV 7 _ (λt j=>?_);refine mapUpdate.i j hc (z:=.nilFunc) cV 8 _ (λu l=>?_);refine mapUpdate.i l hc (z:=.nilFunc) cV 9 _ (λv n=>?_);refine mapUpdate.i n hc (z:=.nilFunc) cV 10 _ (λy o=>⟨m,rfl,?_⟩);have e:rA pT=cL (cL (cL (cL (cL (cL (cL (cL (λ_=>none) 4 (some (.func (.func xn) #[] #[]))) 11 (some (.func (.func xo) #[] #[]))) 5 (some (.func (.func xp) #[] #[]))) 6 (some (.func (.func xq) #[] #[]))) 7 (some (.func (.func xr) #[] #[]))) 8 (some (.func (.func xt) #[] #[]))) 9 (some (.func (.func xu) #[] #[]))) 10 (some (.func (.func xv) #[] #[])):=by
  funext k;unfold rA pT cL;by_cases a0:k=4;·subst a0;rfl
  by_cases a:k=5;·subst a;rfl
  by_cases b:k=6;·subst b;rfl
  by_cases a3:k=7;·subst a3;rfl
  by_cases a4:k=8;·subst a4;rfl
  by_cases a5:k=9;·subst a5;rfl
  by_cases c:k=10;·subst c;rfl
  by_cases d:k=11;·subst d;rfl
  simp only[bJ a0,bJ a,bJ b,bJ a3,bJ a4,bJ a5,bJ c,bJ d];rfl
 rw[e];exact o
end Go.Mp
namespace Go.Kw
open Go Go.Kc Go.Kt
def Sm{V:Vs}{o:dw}(h:(o.kind<0\/13<o.kind)/\True):V.act o=(V,.bad 1):=by
 have h:=h.1;unfold Vs.act;rw[cF,cF,cF,cF,cF,cF,bL h]
def E7{V:Vs}{o:dw}(h:4<=o.kind/\o.kind<=11):V.act o=match V.space o.a with
  |none=>(V,.bad 2)
  |some s=>V.call s o:=by
 unfold Vs.act;rw[cF,cF,cF,cF,cF,cF,cF];rfl
end Go.Kw
namespace Go.Mp
open Go Go.Vc Go.Sp Go.Proofs Go.Kc Go.Kw Go.Kt
variable{E:Env}{L:cv}{w W:bH}{A:At}{S:Cs}{v:Nat}{r:Sl}{ps:PS}
def aII{o:dw}{g:bg7}(a:pS o.kind=some g)(b:dD ps)(hn:r.n=ps.length)(hb:ps.length<=64)(c:Kc.Inv S)(h:Sep E (Vm A v r S ps L) w):
  kN P g=true/\Calls P g #[Pb v,.agg (e6 o).toArray] w (cA (pR E A v L S (Vs.act ⟨S,plain ps⟩ o))):=by
 unfold pS at a;unfold Vs.act;split at a;·next e=>cases a;rw[bL e];exact⟨by kernel_rfl,aGW b hn hb c h⟩
 next e0=>
 rw[bJ e0];split at a
 ·next e=>
  cases a;rw[bL e];exact⟨by kernel_rfl,aEW b hn hb c h⟩
 next f=>
 rw[bJ f];split at a;·next e=>cases a;rw[bL e];exact⟨by kernel_rfl,aGX b hn hb c h⟩
 next i=>
 rw[bJ i];split at a;·next e=>cases a;rw[bL e];exact⟨by kernel_rfl,aGY b hn hb h⟩
 next j=>
 rw[bJ j];split at a;·next e=>cases a;rw[bL e];exact⟨by kernel_rfl,aJX b hn hb c h⟩
 next d=>
 rw[bJ d];split at a;·next e=>cases a;rw[bL e];exact⟨by kernel_rfl,aEX b hn hb c h⟩
 ·cases a
def aIz{c sp:Nat}{o:dw}{i:bg7}(a:pT o.kind=some i)(d:dD ps)(hn:r.n=ps.length)(hb:ps.length<=64)(j:Kc.Inv S)(f:S.bt.next+66<=16777216)(b:0<=o.a){g:Int}{s:Kw.Sp}(hp:ps[o.a.toNat]?=some (g,some (sp,s)))(h:Sep E (Vm A v r S ps (bC c (c9 o v sp cH.zero ⟨none,0,0⟩)::bw ⟨none,0,0⟩ 1 (bD [])::L)) w):
  kN P i=true/\Calls P i #[Pb c] w (cA (yN E A v c sp o L S (Vs.call ⟨S,plain ps⟩ s o))):=by
 have l:Vs.group ⟨S,plain ps⟩ o.a=g:=by
  have:=(jU (V:=⟨S,plain ps⟩) (iY hp)).2;rwa[show((o.a.toNat:Nat):Int)=o.a by omega]at this
 have up:∀ {q:Vs×cH} {F:bg7},Calls P F #[Pb c] w (cA (done E A v r c sp o L ps.length S q))->Calls P F #[Pb c] w (cA (yN E A v c sp o L S q)):=by
  intro q F z;refine z.mono ?_;rintro e w' ⟨x,rfl,B⟩;exact⟨x,rfl,B.toC hn hb⟩
 unfold pT at a;unfold Vs.call;dsimp only;split at a;·next e=>cases a;rw[bL e];exact⟨by kernel_rfl,up (aGM d hn rfl b hp h)⟩
 next m=>
 rw[bJ m];split at a;·next e=>cases a;rw[bL e];exact⟨by kernel_rfl,up (aGQ d rfl b hp h)⟩
 next n=>
 rw[bJ n];split at a;·next e=>cases a;rw[bL e];exact⟨by kernel_rfl,up (aEM d rfl b hp h)⟩
 next p=>
 rw[bJ p];split at a;·next e=>cases a;rw[bL e];exact⟨by kernel_rfl,up (aIQ d j rfl b hp h)⟩
 next t=>
 rw[bJ t];split at a;·next e=>cases a;rw[bL e];exact⟨by kernel_rfl,up (aJS d hn hb j f rfl b hp h)⟩
 next u=>
 rw[bJ u];split at a;·next e=>cases a;rw[bL e];exact⟨by kernel_rfl,up (aIO d hn hb j f rfl b hp h)⟩
 next y=>
 rw[bJ y];split at a;·next e=>cases a;rw[bL e,l];exact⟨by kernel_rfl,aJN d hn hb j rfl b hp h⟩
 next k=>
 rw[bJ k];split at a;·next e=>cases a;exact⟨by kernel_rfl,up (aID d hn j rfl b hp h)⟩
 ·cases a
def Sn(E:Env)(A:At)(v:Nat)(L:cv)(S:Cs)(q:Vs×cH)(x:bE)(w:bH):Prop:=
 cr 66 S q.1.core/\∃(gs us r' a:Sl) (cJ:PS),x=.agg #[Iv q.2.err,Iv q.2.n,Sv a]/\dD cJ/\r'.n=cJ.length/\cJ.length<=64/\plain cJ=q.1.procs/\a.n=q.2.bI.length/\
  Sep E (Vm {A with gs:=gs,us:=us} v r' q.1.core cJ (bw a 1 (bD q.2.bI)::L)) w
def aG8{k:Int}:(∃g,pS k=some g)\/(pS k=none/\((∃g,pT k=some g/\4<=k/\k<=11)\/(pT k=none/\(k<0\/13<k)))):=by
 by_cases hk:k<0\/13<k
 ·refine .inr ⟨?_,.inr ⟨?_,hk⟩⟩;·unfold pS;rw[cF,cF,cF,cF,cF,cF]
  ·unfold pT;rw[cF,cF,cF,cF,cF,cF,cF,cF]
 ·have:k=0\/k=1\/k=2\/k=3\/k=4\/k=5\/k=6\/k=7\/k=8\/k=9\/k=10\/k=11\/k=12\/k=13:=by omega
  rcases this with rfl|rfl|rfl|rfl|rfl|rfl|rfl|rfl|rfl|rfl|rfl|rfl|rfl|rfl;all_goals first|exact .inl ⟨_,rfl⟩|exact .inr ⟨rfl,.inl ⟨_,rfl,bN,bN⟩⟩
def vM{m i:Nat}{f:Int->bW bg7}{t:cf}(h:Sep E L w)(a:L[i]?=some (cE m (Value.int .i64) (rA f)))(b:mQ P t=some (Bg,.nilFunc))(k:Int):gr P t (.map (some m)) (Iv k) false w (((f k).map λg=>Value.func (.func g) #[] #[]).getD .nilFunc):=
 gr.i false i h a hc b k
def Sq(o:dw)(W:dD ps)(hn:r.n=ps.length)(hb:ps.length<=64)(aw:Kc.Inv S)(aj:S.bt.next+66<=16777216)(h:Sep E (Vm A v r S ps L) w):
  Calls P pw #[Pb v,.agg (e6 o).toArray] w (cA (Sn E A v L S (Vs.act ⟨S,plain ps⟩ o))):=by
 obtain⟨Q,l⟩:∃Q,Vs.act ⟨S,plain ps⟩ o=Q:=⟨_,rfl⟩
 rw[l];apply Zh;unfold M9 qL qR qU zH zI zL zW zZ;refine Al.i h (λt ap h1=>Al.i h1 (λf w2 h2=>Dr.i h2 (λaq K=>?_)));have K:Sep E (bC f [Iv 0,Iv 0,aN8]::bC t (e6 o)::Vm A v r S ps L) aq:=K;refine⟨o.kind,K.cellAt 1 rfl 0,use (aDy K) ?_⟩;rintro _ ar ⟨m,rfl,n⟩;refine⟨_,rfl,o.kind,n.cellAt 2 rfl 0,rfl,_,vM n (i:=0) rfl cV o.kind,_,(kh.fn cV _).1,?_⟩;have ab:=n.tail;have j:∀ {w:bH} (e:Int),Q=(⟨S,plain ps⟩,cH.bad e)->Sep E (bC f [Iv 0,Iv 0,aN8]::bC t (e6 o)::Vm A v r S ps L) w->
   kM [Iv e,Iv 0,aN8] ⟨f,0,none⟩ (λz=>∃O:Int,z.cell? ((⟨f,0,none⟩:Addr).add 0)=some (Iv O)/\∃R:Int,z.cell? ((⟨f,0,none⟩:Addr).add 1)=some (Iv R)/\∃T:Sl,z.cell? ((⟨f,0,none⟩:Addr).add 2)=some (Sv T)/\Sn E A v L S Q (.agg #[Iv O,Iv R,Sv T]) z) w:=by
  intro w e ao an;refine ew _ an rfl (λap h1=>⟨_,h1.cell 0,_,h1.cell 1,⟨none,0,0⟩,h1.cell 2,?_⟩);rw[ao];exact⟨.nil _ _,A.gs,A.us,r,⟨none,0,0⟩,ps,rfl,W,hn,hb,rfl,rfl,Vm.e4 (bw.none_ (m:=1) h1.tail.tail)⟩
 rcases aG8 (k:=o.kind)with⟨g,B⟩|⟨hm,am⟩
 ·rw[B];obtain⟨G,b⟩:=aII (o:=o) B W hn hb aw (Vm.hG [bC f [Iv 0,Iv 0,aN8],bC t (e6 o)] ab);rw[l]at b;refine bT rfl ⟨_,n.cellAt 2 rfl 0,_,n.cellAt 2 rfl 1,_,n.cellAt 2 rfl 2,_,n.cellAt 2 rfl 3,_,n.cellAt 2 rfl 4,_,_,rfl,G,?_⟩;have b:Calls P g (#[Pb v,.agg #[Iv o.kind,Iv o.a,Iv o.b,Iv o.c,Iv o.d]]++ #[]) ar _:=b;refine use b ?_;rintro _ au ⟨rfl,hk,I,gs,us,r',cJ,J,F,D,H,C⟩;have d:=Vm.fl [bC f [Iv 0,Iv 0,aN8],bC t (e6 o)] C;refine⟨_,_,⟨none,0,0⟩,rfl,ew _ d rfl (λav p=>⟨_,p.cell 0,_,p.cell 1,⟨none,0,0⟩,p.cell 2,I,gs,us,r',⟨none,0,0⟩,cJ,rfl,J,F,D,H,by rw[hk];rfl,?_⟩)⟩;rw[hk];exact Vm.e4 (bw.none_ (m:=1) p.tail.tail)
 rw[hm];refine bF rfl (Dr.i ab (λau C=>⟨o.kind,C.cellAt 1 rfl 0,o.a,C.cellAt 1 rfl 1,use (aIA C) ?_⟩));rintro _ av ⟨ay,rfl,d⟩;refine⟨_,rfl,o.a,d.cellAt 2 rfl 1,rfl,o.kind,d.cellAt 2 rfl 0,rfl,_,vM d (i:=0) rfl cV o.kind,use (RU (pid:=o.a) hn (Vm.hG [_,_,_] d)) ?_⟩;rintro x _ ⟨N,rfl⟩;have p:=d.tail;rcases am with⟨al,B,ae,af⟩|⟨ad,ag⟩
 ·rw[E7 ⟨ae,af⟩]at l;rcases N with⟨i,a,g,s,M,hp,rfl⟩|⟨ai,rfl⟩
  ·have ak:ps[o.a.toNat]?=some (g,some (a,s)):=by rw[M,dz];exact hp
   have X:Vs.space ⟨S,plain ps⟩ o.a=some s:=by rw[M];exact(jU (V:=⟨S,plain ps⟩) (iY hp)).1
   rw[X]at l;dsimp only at l;refine⟨_,rfl,_,vM d (i:=0) rfl cV o.kind,rfl,o.kind,d.cellAt 2 rfl 0,rfl,_,(kh.fn cV _).2,?_⟩;rw[B];refine bF rfl (bF rfl ⟨_,d.cellAt 2 rfl 0,_,d.cellAt 2 rfl 1,_,d.cellAt 2 rfl 2,_,d.cellAt 2 rfl 3,_,d.cellAt 2 rfl 4,Al.i p (λc Y U=>?_)⟩);have U:Sep E (bC c (c9 o v a cH.zero ⟨none,0,0⟩)::bC f [Iv 0,Iv 0,aN8]::bC t (e6 o)::Vm A v r S ps L) Y:=U;have Z:Sep E (Vm A v r S ps (bC c (c9 o v a cH.zero ⟨none,0,0⟩)::bw ⟨none,0,0⟩ 1 (bD [])::([bC f [Iv 0,Iv 0,aN8],bC t (e6 o)]++L))) Y:=Vm.hG [_,_,_,_] ((bw.none_ (m:=1) U).swap);obtain⟨G,b⟩:=aIz (c:=c) (sp:=a) (o:=o) (s:=s) B W hn hb aw aj bu ak Z;rw[l]at b;refine⟨_,_,rfl,G,?_⟩;have b:Calls P al (#[Pb c]++ #[]) Y _:=b;refine use b ?_;rintro _ az ⟨rfl,I,r',cJ,q,J,F,D,H,ah,aa⟩;have u:=Vm.fl [bC c (c9 o v a Q.2 q),bw q 1 (bD Q.2.bI),bC f [Iv 0,Iv 0,aN8],bC t (e6 o)] aa;refine⟨rfl,_,rfl,Q.2.err,u.cell 7,Q.2.n,u.cell 8,q,u.cell 9,ew _ (u.ro 4 [2,1,0,3] rfl) rfl (λax y=>⟨_,y.cell 0,_,y.cell 1,q,y.cell 2,I,A.gs,A.us,r',q,cJ,rfl,J,F,D,H,ah,?_⟩)⟩;exact Vm.e4 (y.ro 4 [1] rfl)
  ·rw[ai]at l;refine⟨_,rfl,_,vM d (i:=0) rfl cV o.kind,rfl,o.kind,d.cellAt 2 rfl 0,rfl,_,(kh.fn cV _).2,?_⟩;rw[B];exact bF rfl (bT rfl (j 2 l.symm p))
 ·rw[Sm ⟨ag,trivial⟩]at l;obtain⟨pp,rfl⟩:∃pp:ch,x=.pointer pp:=by
   rcases N with⟨_,_,_,_,_,_,e⟩|⟨_,e⟩<;>exact⟨_,e⟩
  refine⟨_,rfl,_,vM d (i:=0) rfl cV o.kind,rfl,o.kind,d.cellAt 2 rfl 0,rfl,_,(kh.fn cV _).2,?_⟩;rw[ad];exact bT rfl (j 1 l.symm p)
end Go.Mp
namespace Go.Kw
open Go Go.Kc Go.Kt
def ek(V:Vs):bA dw->Vs×bA cH
 |[]=>(V,[])
 |o::l=>let r:=V.act o;let q:=ek r.1 l;(q.1,r.2::q.2)
def E8(o:dw):∀(l:bA dw) (V:Vs),ek V (l++[o])=(((ek V l).1.act o).1,(ek V l).2++[((ek V l).1.act o).2])
 |[],V=>rfl
 |x::l,V=>by
  show((ek (V.act x).1 (l++[o])).1,(V.act x).2::(ek (V.act x).1 (l++[o])).2)=_;rw[E8 o l (V.act x).1];rfl
def E9:∀(l:bA dw) (V:Vs),(ek V l).2.length=l.length
 |[],_=>rfl
 |x::l,V=>eK Nat.succ (E9 l (V.act x).1)
end Go.Kw
namespace Go.Mp
open Go Go.Vc Go.Sp Go.Proofs Go.Kc Go.Kw Go.Kt
variable{E:Env}{L:cv}{w W:bH}{A:At}{S:Cs}{v:Nat}{r:Sl}{ps:PS}{V:Vs}
def Sr{fr sl:Int}{sz:Sl}{l:bR}{o:cb Obj}(e:Ints E (eg o::L) sz l)(a:sz.n<=sz.c)(h:Sep E (eg o::L) w):Calls P uB #[Iv fr,Iv sl,Sv sz] w
  (cA λx w'=>∃(A:At) (v:Nat),x=Pb v/\A.o=o/\Sep E (Vm A v ⟨none,0,0⟩ (Kc.new fr sl l) [] L) w'):=by
 apply Zf;unfold M7 qR;refine use (vo e a h) ?_;rintro _ f ⟨A,rfl,ho,h1⟩;refine⟨_,rfl,Al.i h1 (λv w2 h2=>⟨A,v,rfl,ho,?_⟩)⟩;have b:=(bw.none_ (m:=2) h2)
 have c:Sep E ([bw ⟨none,0,0⟩ 2 [],bC v [Pb A.c,aN8]]++(cg A (Kc.new fr sl l)++L)) w2:=b;have d:=c.perm (pV _ _ _);exact d.perm (o0 _ (List.Perm.swap _ _ _))
def aIR(h:Sep E (Vm A v r S ps L) w):Calls P xd #[Pb v] w (cA λx w'=>x=Pb A.c/\w'=w):=by
 apply Zg;unfold M8 qZ;exact⟨_,rfl,_,h.cellAt 16 rfl 0,rfl,rfl⟩
def oX(E:Env)(L:cv)(l:Sl)(os:bA dw):Prop:=l.n=os.length/\∀w,Sep E L w->∀(i:Nat) o,os[i]?=some o->∃a,l.p=some a/\∀(j:Nat) u,(e6 o)[j]?=some u->w.cell? ((a.add (i*5)).add j)=some u
def vN(p:cH×Sl):bA bE:=[Iv p.1.err,Iv p.1.n,.slice p.2.p p.2.n p.2.c]
def Fa(p:cH×Sl):(vN p).length=3:=rfl
def fQ(s:Sl)(l:bA cH):Asn:=fe λq:bA (cH×Sl)=>cG (q.map Prod.fst=l/\s.n=l.length/\∀p∈q,p.2.n=p.1.bI.length) (cB (bw s 3 (bP vN q)::q.map λp=>bw p.2 1 (bD p.1.bI)))
def Ss:hi P w9=some (40,3,[Iv 0,Iv 0,aN8]):=by kernel_rfl
def fQ.push{s:Sl}{l:bA cH}{a:cH}{b:Sl}{p:Nat}(hk:b.n=a.bI.length)(hb:l.length<=100000)(h:Sep E (bC p [Iv a.err,Iv a.n,Sv b]::bw b 1 (bD a.bI)::fQ s l::L) w){G:Sl->bg0}(g:∀s' d,Sep E (fQ s' (l++[a])::L) d->G s' d):
  ∃k:Sl,∃d,Sem.run P (Builtin.append_ #[w9,w9] w9 #[Sv s,.slice (some ⟨p,0,none⟩) 1 1]) w=.ok (Sv k) d/\G k d:=by
 have y:=Src.bC (n:=1) (c:=1) h (i:=0) rfl Ss rfl (λu hu=>by simp only[ey,tE,tJ]at hu;rcases hu with rfl|rfl|rfl<;>rfl);obtain⟨q,h1⟩:=Sep.ex.1 (h.ro 3 [2,0,1] rfl);obtain⟨⟨h2,m,o⟩,h1⟩:=Sep.cG.1 h1;have r:=Sep.cB.1 h1;refine bw.append r Ss rfl y bu bu (λs' d j f=>g s' d ?_);have e:bP vN q++[Iv a.err,Iv a.n,Sv b]=bP vN (q++[(a,b)]):=by rw[m4,oL];rfl
 rw[e]at f;refine Sep.ex.2 ⟨q++[(a,b)],Sep.cG.2 ⟨⟨by rw[kK,h2];rfl,by rw[j,m,dg];rfl,λp hp=>?_⟩,Sep.cB.2 ?_⟩⟩
 ·rcases gF.1 hp with hp|hp;·exact o p hp
  ·rw[h8]at hp;subst hp;exact hk
 ·have t:Sep E (bw s' 3 (bP vN (q++[(a,b)]))::((q.map λp=>bw p.2 1 (bD p.1.bI))++(bC p [Iv a.err,Iv a.n,Sv b]::bw b 1 (bD a.bI)::L))) d:=f;have v:=t.perm (List.Perm.cons _ (jc (a:=bC p [Iv a.err,Iv a.n,Sv b])));have x:=v.swap.tail;rw[kK];show Sep E (bw s' 3 _::(((q.map λp=>bw p.2 1 (bD p.1.bI))++[bw b 1 (bD a.bI)])++L)) d;rw[dm];exact x
def aJZ{fr sl:Int}{sz ol:Sl}{l:bR}{os:bA dw}{o:cb Obj}(X:Ints E (eg o::L) sz l)(D:sz.n<=sz.c)(K:oX E L ol os)(hb:os.length<=1000)(h:Sep E (eg o::L) w):
  Calls P H8 #[Iv fr,Iv sl,Sv sz,Sv ol] w (cA λx w'=>∃s:Sl,x=Sv s/\Sep E (fQ s (ek (Vs.new fr sl l) os).2::eg o::L) w'):=by
 have hn:=K.1;have G:(⟨Kc.new fr sl l,plain []⟩:Vs)=Vs.new fr sl l:=rfl;have e:(Kc.new fr sl l).bt.next=0:=rfl;apply Zl;unfold Nd qR qU qW qf zL zx;refine use (Sr X D h) ?_;rintro _ af ⟨A,v,rfl,ho,h1⟩;refine⟨_,rfl,λs x w'=>∃(k:Nat) (gs us r:Sl) (S:Cs) (ps:PS),x=k/\k<=os.length/\dD ps/\r.n=ps.length/\ps.length<=64/\(⟨S,plain ps⟩:Vs)=(ek (Vs.new fr sl l) (os.take k)).1/\Kc.Inv S/\S.bt.next<=66*k/\Sep E (Vm {A with gs:=gs,us:=us} v r S ps (fQ s (ek (Vs.new fr sl l) (os.take k)).2::L)) w',λ_ x _=>(os.length-x).toNat,?_,?_⟩;·refine⟨0,A.gs,A.us,⟨none,0,0⟩,Kc.new fr sl l,[],rfl,e7 _,(λi g a s F=>by cases F),rfl,bN,G,Inv.new fr sl l,by rw[e];decide,Vm.e4 (Sep.ex.2 ⟨[],Sep.cG.2 ⟨⟨rfl,rfl,(λp hp=>by cases hp)⟩,Sep.cB.2 (bw.none_ (m:=3) h1)⟩⟩)⟩
 rintro _ s _ w2 ⟨k,gs,us,r,S,ps,rfl,hk,Y,hr,I,U,aa,ae,h2⟩;refine cX (λad=>?_) (λab=>?_)
 ·obtain⟨op,j⟩:∃op,os[k]?=some op:=⟨_,dN⟩
  obtain⟨a,hp,c⟩:=K.2 w2 (Vm.out h2 |>.tail |> λq=>by rw[yM]at q;exact q.right) k op j;have M:(((k:Nat):Int).toNat*5)=k*5:=by rw[dz]
  refine⟨a,hp,⟨bu,bu⟩,?_⟩;rw[M];refine⟨_,c 0 _ rfl,_,c 1 _ rfl,_,c 2 _ rfl,_,c 3 _ rfl,_,c 4 _ rfl,Al.i h2 (λp ag t=>ew _ t rfl (λZ b=>?_))⟩;have b:Sep E (bC p (e6 op)::Vm {A with gs:=gs,us:=us} v r S ps (fQ s (ek (Vs.new fr sl l) (os.take k)).2::L)) Z:=b;refine⟨_,b.cell 0,_,b.cell 1,_,b.cell 2,_,b.cell 3,_,b.cell 4,use (Sq op Y hr I aa bu b.tail) ?_⟩;rintro _ ah ⟨R,f,n,r',W,cJ,rfl,T,Q,z,O,N,u⟩;have H:Vs.act ⟨S,plain ps⟩ op=((ek (Vs.new fr sl l) (os.take k)).1).act op:=by rw[U]
  have d:=E8 op (os.take k) (Vs.new fr sl l);have V:os.take (k+1)=os.take k++[op]:=fL j;rw[<- V,<- H]at d;have F:=R.inv aa bu;have y:=Vm.fl (A:={A with gs:=f,us:=n}) [bw W 1 (bD (Vs.act ⟨S,plain ps⟩ op).2.bI),fQ s (ek (Vs.new fr sl l) (os.take k)).2] u;refine⟨_,_,W,rfl,Al.i y (λp2 ai B=>fQ.push (a:=(Vs.act ⟨S,plain ps⟩ op).2) N (by rw[E9,hJ];omega) B (λs' aj C=>⟨⟨k+1,f,n,r',_,cJ,de,bu,T,Q,z,?_,F.1,bu,?_⟩,?_⟩))⟩;·rw[d,O]
  ·rw[d];exact Vm.e4 C
  ·rw[de];dsimp only;omega
 ·have:k=os.length:=by omega
  subst this;rw[gg]at h2;refine⟨s,rfl,?_⟩;have t:=Vm.out h2;have b:Sep E (fQ s (ek (Vs.new fr sl l) os).2::(cg {A with gs:=gs,us:=us} S++(bC v [Pb A.c,Sv r]::bw r 2 (bP hF ps)::(ps.map h6++L)))) w2:=t;have u:=b.fr 16 rfl;have y:Sep E (eg A.o::fQ s (ek (Vs.new fr sl l) os).2::(((cg {A with gs:=gs,us:=us} S).take 15++[bC v [Pb A.c,Sv r],bw r 2 (bP hF ps)]++ps.map h6)++L)) w2:=by
   refine u.perm ?_;rw[dm,dm];exact List.Perm.refl _
  have B:=(y.ro 2 [1,0] rfl:Sep E (fQ s (ek (Vs.new fr sl l) os).2::eg A.o::(_++L)) w2)
  have C:=B.perm (L':=((cg {A with gs:=gs,us:=us} S).take 15++[bC v [Pb A.c,Sv r],bw r 2 (bP hF ps)]++ps.map h6)++(fQ s (ek (Vs.new fr sl l) os).2::eg A.o::L)) (pV [_,_] _ L);have J:=C.right;rw[ho]at J;exact J
def vO(o:dw):(e6 o).length=5:=rfl
def oX.jm{b c q:Nat}{os:bA dw}(d:L[q]?=some (bC b (bP e6 os))):oX E L ⟨some ⟨b,0,none⟩,os.length,c⟩ os:=by
 refine⟨rfl,λw h i o ho=>⟨_,rfl,λj u hu=>?_⟩⟩;have a:j<5:=by have:=(c4.1 hu).1;rwa[vO]at this
 rw[cj,cj,h.cellAt q d,fy,sJ vO ho j a];exact hu
def fQ.el{s:Sl}{l:bA cH}{i:Int}{k:Nat}{a:cH}{F:Addr->Prop}(q:Nat)(h:Sep E L w)(n:L[q]?=some (fQ s l))(m:i=k)(c:l[k]?=some a)(p:∀a0:Addr,w.cell? (a0.add 0)=some (Iv a.err)->w.cell? (a0.add 1)=some (Iv a.n)->F a0):cM s.p s.n i 3 F:=by
 obtain⟨z,h1⟩:=Sep.ex.1 (h.fr q n);obtain⟨⟨h2,g,_⟩,h1⟩:=Sep.cG.1 h1;have j:=Sep.cB.1 h1;obtain⟨y,o,d⟩:∃y,z[k]?=some y/\y.1=a:=by
  rw[<- h2,eI]at c;cases f:z[k]? with
  |none=>rw[f]at c;cases c
  |some y=>rw[f]at c;exact⟨y,rfl,cU c⟩
 have hn:s.n=z.length:=by rw[g,<- h2,en]
 refine lR Fa 0 j rfl hn m o (λb _ e=>p _ ?_ ?_);·rw[cj,<- d];exact e 0 _ rfl
 ·rw[cj,<- d];exact e 1 _ rfl
def fQ.len{s:Sl}{l:bA cH}(q:Nat)(h:Sep E L w)(a:L[q]?=some (fQ s l)):s.n=l.length:=by
 obtain⟨z,h1⟩:=Sep.ex.1 (h.fr q a);exact(Sep.cG.1 h1).1.2.1
def Vok.new(a b:Int)(l:bR):Vok (Vs.new a b l):=⟨Inv.new a b l,(λi g s h=>by cases h),by show(0:Nat)<=64;decide⟩
def ef(E:Env)(A:At)(v:Nat)(V:Vs)(L:cv)(w:bH):Prop:=
 ∃(gs us r:Sl) (ps:PS),r.n=ps.length/\plain ps=V.procs/\Sep E (Vm {A with gs:=gs,us:=us} v r V.core ps L) w
def Su{ps:PS}(m:Vok V)(h:plain ps=V.procs):dD ps:=λi g a s b=>m.sp i g s (by rw[<- h];exact iY b)
def Sw{ps:PS}(m:Vok V)(h:plain ps=V.procs):ps.length<=64:=by rw[<- j9,h];exact m.e8
def ef.tail{B:Asn}(h:ef E A v V (B::L) w):ef E A v V L w:=by
 obtain⟨gs,us,r,ps,h1,h2,a⟩:=h;exact⟨gs,us,r,ps,h1,h2,(Vm.out a).tail⟩
def ef.iH{T:Cs}(h:Sep E (Vm A v ⟨none,0,0⟩ T [] L) w):ef E A v ⟨T,[]⟩ L w:=⟨A.gs,A.us,⟨none,0,0⟩,[],rfl,rfl,h⟩
def ef.right(h:ef E A v V L w):Sep E L w:=by
 obtain⟨gs,us,r,ps,h1,h2,a⟩:=h;rw[yM]at a;exact a.right
def ef.drop(h:ef E A v V L w):Sep E (eg A.o::L) w:=by
 obtain⟨gs,us,r,ps,h1,h2,a⟩:=h;have b:Sep E (cg {A with gs:=gs,us:=us} V.core++(bC v [Pb A.c,Sv r]::bw r 2 (bP hF ps)::(ps.map h6++L))) w:=a;have c:=b.fr 15 rfl;have d:Sep E (eg A.o::(((cg {A with gs:=gs,us:=us} V.core).take 15++[bC v [Pb A.c,Sv r],bw r 2 (bP hF ps)]++ps.map h6)++L)) w:=by
  refine c.perm ?_;rw[dm,dm];exact List.Perm.refl _
 have e:=d.perm (L':=((cg {A with gs:=gs,us:=us} V.core).take 15++[bC v [Pb A.c,Sv r],bw r 2 (bP hF ps)]++ps.map h6)++(eg A.o::L)) jc.symm;exact e.right
def ef.cell{k b j:Nat}{cs:bA bE}{c:bE}(h:ef E A v V L w)(hk:L[k]?=some (bC b cs))(a:cs[j]?=some c):w.cell? (Addr.add ⟨b,0,none⟩ j)=some c:=by
 rw[cj,h.right.cellAt k hk,fy];exact a
def Fb{a:Addr}{x:bE}(h:ef E A v V L w)(ho:A.o=W.heap)(b:W.cell? a=some x):w.cell? a=some x:=by
 have:=h.drop;rw[ho]at this;exact vI (q:=0) this rfl b
def Fc(a:cH)(b:Sl):bA bE:=[Iv a.err,Iv a.n,Sv b]
def ef.Sx(h:ef E A v V L w)(m:Vok V)(hn:V.core.bt.next+66<16777216)(o:dw){K:Ending->bg0}(k:∀(c:Sl) w',c.n=(V.act o).2.bI.length->ef E A v (V.act o).1 (bw c 1 (bD (V.act o).2.bI)::L) w'->Vok (V.act o).1->(V.act o).1.core.bt.next<=V.core.bt.next+66->
   K (.returned (.agg #[Iv (V.act o).2.err,Iv (V.act o).2.n,Sv c])) w'):Calls P pw #[Pb v,.agg (e6 o).toArray] w K:=by
 obtain⟨gs,us,r,ps,h1,h2,x⟩:=h;have e8:=m.e8;have y:(⟨V.core,plain ps⟩:Vs)=V:=by cases V;dsimp only at h2;rw[h2]
 refine use (Sq o (Su m h2) h1 (Sw m h2) m.inv bu x) ?_;rintro _ w' ⟨p,e,u,r',c,cJ,rfl,t,n,j,b,d,f⟩;have l:=p.inv m.inv bu;rw[y]at b d f l ⊢;exact k c w' d ⟨e,u,r',cJ,n,b,f⟩ ⟨l.1,λi g s q=>by rw[<- b]at q;obtain⟨a,z⟩:=RP q;exact t i g a s z,by rw[<- b,j9];exact j⟩ bu
def ef.jO(h:ef E A v V L w)(m:Vok V)(hn:V.core.bt.next+66<16777216)(o:dw){T:cf}{F:Int->Int->Sl->Addr->bg0}(k:∀(a:Sl) p w',a.n=(V.act o).2.bI.length->ef E A v (V.act o).1 (bC p (Fc (V.act o).2 a)::bw a 1 (bD (V.act o).2.bI)::L) w'->Vok (V.act o).1->(V.act o).1.core.bt.next<=V.core.bt.next+66->F (V.act o).2.err (V.act o).2.n a ⟨p,0,none⟩ w'):
  Calls P pw #[Pb v,.agg (e6 o).toArray] w λe d=>∃x:Int,∃y:Int,∃s:Sl,e=.returned (.agg #[Iv x,Iv y,Sv s])/\
   Al (.cells #[Iv 0,Iv 0,aN8] T) (λp w2=>kM [Iv x,Iv y,Sv s] p (λb=>F x y s p b) w2) d:=by
 refine h.Sx m hn o (λa d c h1 l n=>⟨_,_,a,rfl,?_⟩);obtain⟨gs,us,r,ps,f,g,i⟩:=h1;refine Al.i i (λp w2 h2=>ew _ h2 rfl (λb j=>k a p b c ⟨gs,us,r,ps,f,g,Vm.e4 j⟩ l n))
def nL(W:bH)(l:Sl)(os:bA dw):Prop:=l.n=os.length/\∀(i:Nat) o,os[i]?=some o->∃a,l.p=some a/\∀(j:Nat) x,(e6 o)[j]?=some x->W.cell? ((a.add (i*5)).add j)=some x
def ef.op{l:Sl}{os:bA dw}(b:nL W l os)(ho:A.o=W.heap)(h:ef E A v V L w){k:Nat}{o:dw}(hk:os[k]?=some o){F:Addr->Prop}(f:∀a,(∀(j:Nat) x,(e6 o)[j]?=some x->∀ {V':Vs} {L':cv} {w':bH},ef E A v V' L' w'->w'.cell? (a.add j)=some x)->F a):cM l.p l.n (k:Int) 5 F:=by
 obtain⟨a,hp,c⟩:=b.2 k o hk;have e:=(c4.1 hk).1;have d:=b.1;refine⟨a,hp,⟨bu,bu⟩,?_⟩;rw[dz];exact f _ (λj x hx V' L' w' h'=>Fb h' ho (c j x hx))
def Fe(V:Vs){os:bA dw}{k:Nat}{o:dw}(hk:os[k]?=some o):(ek V (os.take (k+1))).1=((ek V (os.take k)).1.act o).1:=by
 rw[fL hk,E8]
def aHk{l:Sl}{os:bA dw}{d:bg0}(n:nL W l os)(hl:os.length<=40)(ho:A.o=W.heap)(m:Vok V)(hn:V.core.bt.next<=1000)(h:ef E A v V L w)(k:∀w',Vok (ek V os).1->(ek V os).1.core.bt.next<=10000->ef E A v (ek V os).1 L w'->d w'):
  ∃(u:Int->bg0) (M:Int->bH->Nat),u 0 w/\∀J:Nat->bE,∀i:Int,∀b:bH,u i b->bif(decide (i<((l.n:Nat):Int)))then(cM l.p l.n i 5 λa=>∃p:Int,b.cell? (a.add 0)=some (Iv p)/\∃q:Int,b.cell? (a.add 1)=some (Iv q)/\∃r:Int,b.cell? (a.add 2)=some (Iv r)/\∃s:Int,b.cell? (a.add 3)=some (Iv s)/\∃t:Int,b.cell? (a.add 4)=some (Iv t)/\
   Calls P pw #[(Pb v),(.agg #[(Iv p),(Iv q),(Iv r),(Iv s),(Iv t)])] b λe w2=>∃B:Int,∃C:Int,∃D:Sl,e=.returned (.agg #[(Iv B),(Iv C),(Sv D)])/\(u (i64.wrap (i+1)) w2/\M (i64.wrap (i+1)) w2<M i b))else d b:=by
 have H:=n.1;refine⟨λi w'=>∃j:Nat,i=j/\j<=os.length/\Vok (ek V (os.take j)).1/\(ek V (os.take j)).1.core.bt.next<=1000+66*j/\ef E A v (ek V (os.take j)).1 L w',λi _=>(os.length-i).toNat,⟨0,rfl,e7 _,m,by show V.core.bt.next<=_;omega,h⟩,?_⟩;rintro _ _ b ⟨j,rfl,K,g,z,h1⟩;refine cX (λI=>?_) (λF=>?_)
 ·obtain⟨o,c⟩:∃o,os[j]?=some o:=⟨_,dN⟩
  refine h1.op n ho c (λa f=>⟨_,f 0 _ rfl h1,_,f 1 _ rfl h1,_,f 2 _ rfl h1,_,f 3 _ rfl h1,_,f 4 _ rfl h1,h1.Sx g bu o (λx w2 G h2 y N=>⟨_,_,x,rfl,?_⟩)⟩);rw[de];refine⟨⟨j+1,rfl,bu,by rw[Fe V c];exact y,by rw[Fe V c];omega,by rw[Fe V c];exact h2.tail⟩,?_⟩;show(((os.length:Nat):Int)-((j+1:Nat):Int)).toNat<(((os.length:Nat):Int)-(j:Int)).toNat;omega
 ·have:j=os.length:=by omega
  subst this;rw[gg]at h1 g z;exact k b g bu h1
def ef.procs(h:ef E A v V L w)(m:Vok V){K:Ending->bg0}(k:∀(l:Sl) w',l.n=V.pr.length->ef E A v V (js l V.pr::L) w'->K (.returned (Sv l)) w'):Calls P uD #[Pb v] w K:=by
 obtain⟨gs,us,r,ps,h1,h2,b⟩:=h;have e8:=Sw m h2;refine use (RX (Su m h2) h1 bu b) ?_;rintro _ w' ⟨l,rfl,hl,a⟩;have e:(plain ps).map gD=V.pr:=by rw[h2,EY]
 rw[e]at hl a;exact k l w' hl ⟨gs,us,r,ps,h1,h2,a⟩
def ef.space{pid:Int}(h:ef E A v V L w){K:Ending->bg0}(k:∀x:ch,x.isNone=(V.space pid).isNone->K (.returned (.pointer x)) w):Calls P uE #[Pb v,Iv pid] w K:=by
 obtain⟨gs,us,r,ps,h1,h2,d⟩:=h;have b:(⟨V.core,plain ps⟩:Vs)=V:=by cases V;dsimp only at h2;rw[h2]
 refine use (RU (pid:=pid) h1 d) ?_;rintro _ w' ⟨e,rfl⟩;rcases e with⟨i,a,g,s,rfl,f,rfl⟩|⟨c,rfl⟩
 ·refine k _ ?_;have:=(jU (V:=⟨V.core,plain ps⟩) (iY f)).1;rw[b]at this;rw[this];rfl
 ·refine k _ ?_;rw[b]at c;rw[c];rfl
def ef.core(h:ef E A v V L w){K:Ending->bg0}(k:K (.returned (Pb A.c)) w):Calls P xd #[Pb v] w K:=by
 obtain⟨gs,us,r,ps,h1,h2,a⟩:=h;refine use (aIR a) ?_;rintro _ w' ⟨rfl,rfl⟩;exact k
end Go.Mp
namespace Go.Mp
open Go Go.Vc Go.Sp Go.Proofs Go.Kc
def Sy{α:Type}{n:Nat}{R:Nat->α->Prop}(h:∀i,i<n->∃x,R i x):∃l:bA α,l.length=n/\∀i x,l[i]?=some x->R i x:=by
 induction n with
 |zero=>exact⟨[],rfl,λi x hx=>by simp at hx⟩
 |succ n d=>
  obtain⟨l,hl,hr⟩:=d (λi b=>h i bu);obtain⟨x,hx⟩:=h n bu;refine⟨l++[x],by simp[hl],λi y a=>?_⟩;rcases hN i n with b|b;·rw[eN bu]at a;exact hr i y a
  ·have c:=(c4.1 a).1;have:i=n:=by simp[hl]at c;omega
   subst this;rw[fR bu,hl,jd]at a;rw[<- cU a];exact hx
end Go.Mp
namespace Go.Mp
open Go Go.Vc Go.Sp Go.Proofs Go.Kc Go.Kw
def aKc{W:bH}{v:bE}(h:Rd P W Bf [v]):∃(l:Sl) (xs:bA dw),v=Sv l/\nL W l xs:=by
 obtain⟨p,n,c,rfl,_,_,o⟩:=h.nB (e:=H0) cV;have key:∀i,i<n->∃x:dw,∃a,p=some a/\∀(j:Nat) v,(e6 x)[j]?=some v->W.cell? ((a.add (i*5)).add j)=some v:=by
  intro i g;obtain⟨a,es,rfl,hl,b,hr⟩:=o i g;have m:P.cellsOf H0=5:=by kernel_rfl
  rw[m]at b hl;have hf:=hr.leaves 3 (ts:=[Bg,lO,lO,lO,lO]) cV
  match es,hl,hf with
  |[v0,v1,v2,v3,v4],_,⟨q,r,s,t,u,_⟩=>
  obtain⟨k,rfl,_⟩:=q.kA (k:=.i64) cV;obtain⟨w,rfl,_⟩:=r.kA (k:=.i64) cV;obtain⟨y,rfl,_⟩:=s.kA (k:=.i64) cV;obtain⟨z,rfl,_⟩:=t.kA (k:=.i64) cV;obtain⟨A,rfl,_⟩:=u.kA (k:=.i64) cV;refine⟨⟨k,w,y,z,A⟩,a,rfl,λj v d=>?_⟩;have f:j<5:=(c4.1 d).1;rw[b j f];exact d
 obtain⟨xs,hl,hx⟩:=Sy key;exact⟨⟨p,n,c⟩,xs,rfl,hl.symm,hx⟩
end Go.Mp
