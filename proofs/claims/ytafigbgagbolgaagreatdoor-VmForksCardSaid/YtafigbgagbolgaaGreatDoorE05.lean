/- A part of the proof. -/
import Derived.Test.YtafigbgagbolgaaGreatDoorE04
set_option linter.all false
set_option maxRecDepth 100000
open Go.IntKind(i64 u64)
open Go.Proofs.Tryz
namespace Go.Kc
open Go Go.Kt
def yC{l:bA G}(hw:WF l)(g:Int):(ic l g).length<=64:=by
 unfold ic nS;have:=hw.fk;split
 ·rw[ei];exact mK (l2 _ _) (by rw[F8];exact this)
 ·exact fj _
def aJS{p:Nat->Prop}(h:∃n,p n):∃n,p n/\∀m,p m->n<=m:=by
 obtain⟨n,hn⟩:=h;induction n using Nat.strongRecOn with
 |_ n b=>
  by_cases h:∃m,m<n/\p m;·obtain⟨m,hm,hp⟩:=h;exact b m hm hp
  ·exact⟨n,hn,λm hm=>S8 (λa=>h ⟨m,a,hm⟩)⟩
variable{S:Cs}
def aEo(h:Inv S){g:Int}(hl:S.live g=true)(b:(df S.fr.used (S.chain g) 1).2.2=0):(gj (df S.fr.used (S.chain g) 1).1 (S.chain g) 1).1=S.fr.used:=by
 have a:=qS h.wf hl;have hr:=um h.wf hl (n:=1) ⟨bN,bN⟩;obtain⟨_,he,_⟩:=uj b;rw[he];show(gj (dG S.fr.used (dk S.tree g) 1) (dk S.tree g) 1).1=_;rw[r6 hr (λx hx=>?_)];·exact HB h.fr.used.len a.1 a.2.1 1
 ·rw[po h.fr.used.len a.1 a.2.1,bK hx];have:=(h.fr.used.of x).1.1;unfold cT;omega
end Go.Kc
namespace Go.Mp
open Go Go.Vc Go.Sp Go.Proofs Go.Kc
variable{E:Env}{L:ct}{w:bI}{A:At}{S:Cs}
def Q4(a:Inv S){t:Int}(h:Sep E (cd A S++L) w):Calls P sq #[Pb A.c,Iv t] w (cW E (.bool (S.c1 t).2) (cd A (S.c1 t).1++L)):=by
 apply Wf;unfold KQ qF qJ qZ;refine⟨_,rfl,ld h 0 rfl rfl rfl (use (u3 a.wf (h.fr 1 rfl)) ?_)⟩;rintro _ c ⟨s,rfl,b,h1⟩;have h1:=h1.ir (q:=1) rfl;have h1:Sep E (cd A S++bw s 1 (bD (Kt.ic S.tree t))::L) c:=Sep.e9 (Q:=cd A S) h1;refine⟨s,rfl,use (Q3 a (t:=t) (all:=true) (Ints.row b) (yC a.wf t) h1) ?_⟩;rintro _ w2 ⟨rfl,h2⟩;exact⟨_,rfl,rfl,h2.cut⟩
def nL(c:ch)(r:Sl)(K:bf9)(again:bf8)(w:bI):Prop:=
  NN c λa35=>∃h:ch,w.cell? ((a35.add 1).add 2)=some (.pointer h)/\Calls P uN #[(.pointer h),(Sv r),(.int
   .i64 1)] w λs d=>∃i:Int,∃j:Int,s=.returned (.tuple #[(Iv i),(Iv j)])/\∃b:Int->bf8,(bif(j==0)then(NN
   c λp=>∃k:ch,d.cell? ((p.add 1).add 0)=some (.pointer k)/\Calls P sw #[(.pointer k)] d λt e=>∃l:Int,∃
   m:Int,t=.returned (.tuple #[(Iv l),(Iv m)])/\bif(m==0)then(K (.tuple #[(Iv l),(Iv (-1)),(Iv 0)]) e)else
   (NN c λq=>∃n:ch,e.cell? ((q.add 1).add 2)=some (.pointer n)/\Calls P sn #[(.pointer n),(Sv r),
   (Iv 1)] e λu x=>∃y:Int,u=.returned (Iv y)/\b 0 x))else(b i d))/\(∀z:Nat->bE,∀a:Int,∀f:
   bI,b a f->Calls P sq #[(.pointer c),(Iv a)] f λv g=>∃o:Bool,v=.returned (.bool o)/\bif o then
   (again g)else(K (.tuple #[(Iv (-1)),(Iv a),(Iv 12)]) g))
def Q5{g:Int}{m:Nat}{b:Sl}{K:bf9}{again:bf8}(j:Inv S)(hl:S.live g=true)(p:b.n=(S.chain g).length)(h:Sep E (cd A S++bw b 1 (bD (S.chain g))::L) w)(hK:∀w',Sep E (cd A (take g (m+1) S).1++bw b 1 (bD (S.chain g))::L) w'->K (.tuple #[Iv (take g (m+1) S).2.1,Iv (take g (m+1) S).2.2.1,Iv (take g (m+1) S).2.2.2]) w')(u:∀S' w',Kc.Inv S'->S'.tree=S.tree->S'.bP.length<S.bP.length->take g (m+1) S=take g m S'->Sep E (cd A S'++bw b 1 (bD (S.chain g))::L) w'->again w'):
  nL (some ⟨A.c,0,none⟩) b K again w:=by
 have y:(S.chain g).length<=64:=pG j.wf _;have o:Ints E (bw b 1 (bD (S.chain g))::L) b (S.chain g):=Ints.row p;refine⟨_,rfl,ld h 0 rfl rfl rfl (use (Qc (o.er (A:=A) (S:=S) (q:=4) bN) bu 1 (h.fr 4 rfl)) ?_)⟩;rintro _ s ⟨rfl,h1⟩;have h1:=h1.put (q:=4) rfl;have i:∀(a:Int),take g (m+1) S=(if(S.c1 a).2 then take g m (S.c1 a).1 else((S.c1 a).1, -1,a,12))->∀w',Sep E (cd A S++bw b 1 (bD (S.chain g))::L) w'->
   Calls P sq #[Pb A.c,Iv a] w' λe d=>∃x:Bool,e=.returned (.bool x)/\bif x then again d else K (.tuple #[Iv (-1),Iv a,Iv 12]) d:=by
  intro a he w' h';refine use (Q4 j (t:=a) h') ?_;rintro _ d ⟨rfl,k⟩;refine⟨_,rfl,cv (λhr=>?_) (λhr=>?_)⟩
  ·rw[bK hr]at he;have ho:eG S (S.c1 a).1:=eG.cM j a _ _;have hk:=ho.kept j;exact u _ _ (j.c1 a) hk.tree (Hy j hr) he k
  ·rw[bJ (by rw[hr];decide)]at he;rw[he]at hK;exact hK _ k
 refine⟨_,_,rfl,λa w'=>take g (m+1) S=(if(S.c1 a).2 then take g m (S.c1 a).1 else((S.c1 a).1, -1,a,12))/\Sep E (cd A S++bw b 1 (bD (S.chain g))::L) w',eQ (λe0=>?_) (λe0=>?_),λ_ a w' ⟨he,h'⟩=>i a he w' h'⟩
 ·have h1:Sep E (cd A {S with fr:={S.fr with used:=(df S.fr.used (S.chain g) 1).1}} ++bw b 1 (bD (S.chain g))::L) s:=h1;refine⟨_,rfl,ld h1 0 rfl rfl rfl (use (QD (q:=14) rfl (h1.fr 2 rfl)) ?_)⟩;rintro _ w2 ⟨rfl,h2⟩;have h2:=h2.put (q:=2) rfl;refine⟨_,_,rfl,eQ (λf=>?_) (λf=>?_)⟩
  ·have l:take g (m+1) S=({S with fr:={S.fr with bY:=(fT S.fr.bY).1,used:=(df S.fr.used (S.chain g) 1).1}},(fT S.fr.bY).2.1, -1,0):=by
    unfold take;dsimp only;rw[bK e0,bK f]
   rw[l]at hK;refine hK _ ?_;have c:Sep E ((cd A {S with fr:={S.fr with used:=(df S.fr.used (S.chain g) 1).1}} ++bw b 1 (bD (S.chain g))::L).set 2 (gA A.fp (fT S.fr.bY).1)) w2:=h2;unfold cd;simp only;rw[AI];exact c
  ·have r:=(AV f).2;have h2:Sep E (cd A {S with fr:={S.fr with bY:=(fT S.fr.bY).1,used:=(df S.fr.used (S.chain g) 1).1}} ++bw b 1 (bD (S.chain g))::L) w2:=by
    have c:Sep E ((cd A {S with fr:={S.fr with used:=(df S.fr.used (S.chain g) 1).1}} ++bw b 1 (bD (S.chain g))::L).set 2 (gA A.fp (fT S.fr.bY).1)) w2:=h2;unfold cd;simp only;rw[AI];exact c
   rw[r]at h2;refine⟨_,rfl,ld h2 0 rfl rfl rfl (use (yo (o.er (A:=A) (q:=4) bN) bu 1 (h2.fr 4 rfl)) ?_)⟩;rintro _ v ⟨rfl,c⟩;have c:=c.put (q:=4) rfl;have hb:=aEo j hl e0;have c:Sep E (cd A {S with fr:={S.fr with used:=(gj (df S.fr.used (S.chain g) 1).1 (S.chain g) 1).1}} ++bw b 1 (bD (S.chain g))::L) v:=c;rw[hb]at c;refine⟨_,rfl,?_,c⟩
   conv=>lhs;unfold take
   dsimp only;rw[bK e0,bJ f,hb]
 ·obtain⟨x,hx,he,_⟩:=uk (um j.wf hl (n:=1) ⟨bN,bN⟩) e0;have h1:Sep E (cd A {S with fr:={S.fr with used:=(df S.fr.used (S.chain g) 1).1}} ++bw b 1 (bD (S.chain g))::L) s:=h1;have he:df S.fr.used (S.chain g) 1=(S.fr.used,x,22):=he;have l:take g (m+1) S=(if(S.c1 (df S.fr.used (S.chain g) 1).2.1).2 then take g m (S.c1 (df S.fr.used (S.chain g) 1).2.1).1 else((S.c1 (df S.fr.used (S.chain g) 1).2.1).1, -1,(df S.fr.used (S.chain g) 1).2.1,12)):=by
   conv=>lhs;unfold take
   dsimp only;rw[bJ e0]
  refine⟨l,?_⟩;rw[he]at h1;exact h1
def Q6{g:Int}(D:Inv S)(hl:S.live g=true)(h:Sep E (cd A S++L) w):Calls P Cy #[Pb A.c,Iv g] w
    (cW E (.tuple #[Iv (S.take g).2.1,Iv (S.take g).2.2.1,Iv (S.take g).2.2.2]) (cd A (S.take g).1++L)):=by
  apply XL;generalize hK:(λ(v:bE) (w':bI)=>v=.tuple #[Iv (S.take g).2.1,Iv (S.take g).2.2.1,Iv (S.take g).2.2.2]/\Sep E (cd A (S.take g).1++L) w')=K;unfold L9 q9 qF qJ qQ qZ qj;let c:Sl->bI->Nat->Prop:=λa w' n=>∃T m,T.bP.length=n/\Kc.Inv T/\T.tree=S.tree/\n<=m/\S.take g=take g (m+1) T/\a.n=(S.chain g).length/\Sep E (cd A T++bw a 1 (bD (S.chain g))::L) w';have x:∃M2:Sl->bI->Nat,∀a w',(∃n,c a w' n)->c a w' (M2 a w')/\∀k,c a w' k->M2 a w'<=k:=by
    refine⟨λa w'=>Classical.epsilon λn=>c a w' n/\∀k,c a w' k->n<=k,λa w' hx=>?_⟩;exact Classical.epsilon_spec (aJS hx)
  obtain⟨M2,f⟩:=x;refine⟨λa w'=>∃n,c a w' n,M2,⟨_,rfl,ld h 0 rfl rfl rfl (use (sS D.wf (h.fr 1 rfl)) ?_)⟩,?_⟩
  · rintro _ u ⟨a,rfl,b,h1⟩
    have h1:=h1.ir (q:=1) rfl;have h1:Sep E (cd A S++bw a 1 (bD (S.chain g))::L) u:=Sep.e9 (Q:=cd A S) h1;have key:nL (some ⟨A.c,0,none⟩) a K (λw'=>∃n,c a w' n) u:=by
      refine Q5 (m:=S.bP.length) D hl b h1 (λw' h'=>by rw[<- hK];exact⟨rfl,h'.cut⟩) (λT w' j e z he h'=>?_);cases hm:S.bP.length with
      |zero=>omega
      |succ m=>exact⟨T.bP.length,T,m,rfl,j,e,bu,by rw[hm]at he;exact(show S.take g=take g (S.bP.length+1) S from rfl).trans (by rw[hm];exact he),b,h'⟩
    exact⟨a,rfl,key⟩
  · intro _ a l y
    obtain⟨⟨T,m,hn,j,e,F,he,b,o⟩,B⟩:=f a l y;have s:T.live g=true:=by unfold Cs.live;rw[e];exact hl
    have r:T.chain g=S.chain g:=by unfold Cs.chain;rw[e]
    rw[<- r]at o b;have key:nL (some ⟨A.c,0,none⟩) a K (λw'=>(∃n,c a w' n)/\M2 a w'<M2 a l) l:=by
     refine Q5 (m:=m) j s b o (λw' h'=>?_) (λT' w' p t z i h'=>?_);· rw[<- hK,he];exact⟨rfl,h'.cut⟩
     · rw[r]at h' b
       cases hm:m with
       |zero=>omega
       |succ C=>
         rw[hm]at i;have d:c a w' T'.bP.length:=⟨T',C,rfl,p,t.trans e,bu,by rw[he,hm,i],b,h'⟩
         have:=(f a w' ⟨_,d⟩).2 _ d;exact⟨⟨_,d⟩,bu⟩
    exact key
end Go.Mp
namespace Go.Kc
open Go Go.Kt
variable{S:Cs}
def Q7(h:Inv S){g:Int}(hl:S.live g=true):hI (S.take g).1.bt/\Good (S.take g).1.bP/\(S.take g).1.tree=S.tree:=by
 rcases Cs.fO h hl with⟨S0,a,k⟩|⟨S0,t,k⟩
 ·have b:=k.outs.inv h;have hk:=k.outs.kept h;rw[k.eq];exact⟨b.cH,b.ep,hk.tree⟩
 ·have b:=k.outs.inv h;have hk:=k.outs.kept h;rw[k.eq];exact⟨b.cH,b.ep,hk.tree⟩
def hI.fresh{T:TS}(h:hI T):T.pg T.next=none:=by
 cases hp:T.pg T.next with
 |none=>rfl
 |some p=>have:=(h.ids _ _ hp).2;omega
end Go.Kc
namespace Go.Mp
open Go Go.Vc Go.Sp Go.Proofs Go.Kc
variable{E:Env}{L:ct}{w:bI}{A:At}{S:Cs}
def Q8{g:Int}(d:Kc.Inv S)(hl:S.live g=true)(t:bA UInt8)(h:Sep E (cd A S++L) w):Calls P Cj #[Pb A.c,Iv g,hD t] w
  (cW E (.tuple #[Iv (S.c8 g t).2.1,Iv (S.c8 g t).2.2.1,Iv (S.c8 g t).2.2.2]) (cd A (S.c8 g t).1++L)):=by
 apply Xe;unfold LB qE qZ qj zX;refine use (Q6 d hl h) ?_;rintro _ f ⟨rfl,h1⟩;obtain⟨c,b,_⟩:=Q7 d hl;refine⟨_,_,_,rfl,hJ (λhf=>?_) (λhe=>?_)⟩
 ·have e:S.c8 g t=((S.take g).1, -1,(S.take g).2.2.1,(S.take g).2.2.2):=by unfold Cs.c8;dsimp only;rw[bK hf]
  rw[e];exact⟨rfl,h1⟩
 ·have e:S.c8 g t=(({(S.take g).1 with bt:=((S.take g).1.bt.make (-1) 0 g).1} :Cs).place ((S.take g).1.bt.make (-1) 0 g).2.1 (S.take g).2.1 g t false,((S.take g).1.bt.make (-1) 0 g).2.1, -1,0):=by
   unfold Cs.c8;dsimp only;rw[cD]
  rw[e];refine⟨_,rfl,ld h1 0 rfl rfl rfl (use (Tp.yp (-1) 0 g c.fresh (h1.fr 11 rfl)) ?_)⟩;rintro _ w2 ⟨rfl,h2⟩;have h2:=h2.put (q:=11) rfl;have h2:Sep E (cd A {(S.take g).1 with bt:=((S.take g).1.bt.make (-1) 0 g).1} ++L) w2:=h2;refine⟨_,_,rfl,use (QI _ _ g t false (by exact b) h2) ?_⟩;rintro _ i ⟨rfl,a⟩;exact⟨rfl,rfl,a⟩
def aFP:hi P sf=some (1,1,[.int .u8 0]):=by kernel_rfl
def aJp{id g:Int}(r:Kc.Inv S)(h:Sep E (cd A S++L) w):Calls P IN #[Pb A.c,Iv id,Iv g] w
  (cW E (.tuple #[Iv (S.copy id g).2.1,Iv (S.copy id g).2.2.1,Iv (S.copy id g).2.2.2]) (cd A (S.copy id g).1++L)):=by
 apply Wm;unfold KX qF qL qU qV qX qY qZ qg zJ zX;refine⟨_,rfl,ld h 0 rfl rfl rfl (use (Tp.oT id (h.fr 11 rfl)) ?_)⟩;rintro _ n ⟨rfl,h1⟩;have h1:Sep E (cd A S++L) n:=h1.put (q:=11) rfl;obtain⟨p,hp⟩:∃p,S.bt.get id=p:=⟨_,rfl⟩
 rw[hp];refine⟨_,_,_,_,_,_,_,_,_,_,rfl,Al.i h1 (λb w2 h2=>et (vs:=p.1.vs) _ h2 rfl (λo c=>?_))⟩;have c:Sep E (cd A S++bC b p.1.vs::L) o:=Sep.e9 c;have d:(p.2≠0\/S.live g=false\/p.1.place=0)->S.copy id g=(S, -1, -1,2):=by
  intro m;unfold Cs.copy;rw[hp];dsimp only;rw[bK m]
 refine⟨λw'=>p.2=0/\S.live g=true/\p.1.place≠0/\Sep E (cd A S++bC b p.1.vs::L) w',hJ (λhf=>?_) (λhe=>?_),?_⟩;·rw[d (.inl hf)];exact⟨rfl,c.cut⟩
 ·refine⟨_,rfl,ld c 0 rfl rfl rfl (use (kC c (q:=1) rfl) ?_)⟩;rintro _ _ ⟨rfl,rfl⟩;refine⟨_,rfl,cv (λf=>?_) (λa=>?_)⟩
  ·have f:Kt.ds S.tree g=false:=by simpa using f
   rw[d (.inr (.inl f))];exact⟨rfl,c.cut⟩
  ·have a:Kt.ds S.tree g=true:=by simpa using a
   refine ld c 16 rfl rfl rfl (eQ (λe0=>?_) (λe0=>⟨bu,a,e0,c⟩));rw[d (.inr (.inr e0))];exact⟨rfl,c.cut⟩
 ·rintro _ s ⟨he,a,j,i⟩
  iterate 9 refine ld i 16 rfl rfl rfl ?_
  refine use (yv p.1 i) ?_;rintro _ t ⟨rfl,k⟩;have e:S.copy id g=S.c8 g (S.text p.1):=by
   unfold Cs.copy;rw[hp];dsimp only;rw[bJ (by rw[a];simp[he,j])]
  rw[e];refine⟨_,rfl,use (Q8 r a _ k) ?_⟩;rintro _ u ⟨rfl,l⟩;exact⟨_,_,_,rfl,rfl,l.cut⟩
def Q9{m:Nat}{f:Int->bV Int}{id:Int}{q:Nat}(h:Sep E L w)(a:L[q]?=some (nK m f)):gp P Bf (.map (some m)) (Iv id) false w (.int .u64 ((f id).getD 0)):=by
 obtain⟨hk,h1⟩:=Sep.cG.1 (h.fr q a);have:=gp.i false 0 h1 rfl Tp.mA QG id;simp only at this;cases hf:f id with
 |none=>rw[hf]at this;exact this
 |some x=>rw[hf]at this;exact this
def aIM{m:Nat}{f:Int->bV Int}{q:Nat}(h:Sep E L w)(a:L[q]?=some (nK m f))(id:Int):0<=(f id).getD 0/\(f id).getD 0<18446744073709551616:=by
 obtain⟨hk,_⟩:=Sep.cG.1 (h.fr q a);cases hf:f id with
 |none=>exact⟨by simp,by simp⟩
 |some x=>exact hk id x hf
def aGW{T:TS}{id:Int}(h:(T.get id).2=0):T.pg id=some (T.get id).1:=by
 unfold TS.get at h ⊢;cases hp:T.pg id with
 |none=>rw[hp]at h;exact absurd h (by simp)
 |some p=>rfl
def Ra{id g:Int}(G:Kc.Inv S)(h:Sep E (cd A S++L) w):Calls P Cg #[Pb A.c,Iv id,Iv g] w
  (cW E (.tuple #[Iv (S.bX id g).2.1,Iv (S.bX id g).2.2]) (cd A (S.bX id g).1++L)):=by
 apply W9;unfold Lw q9 qE qF qG qJ qL qM qP qQ qU qV qX qY qZ qg qh zH zJ zS zX;refine⟨_,rfl,ld h 0 rfl rfl rfl (use (Tp.oT id (h.fr 11 rfl)) ?_)⟩;rintro _ af ⟨rfl,h1⟩;have h1:Sep E (cd A S++L) af:=h1.put (q:=11) rfl;obtain⟨p,hp⟩:∃p,S.bt.get id=p:=⟨_,rfl⟩
 have u:p.2=0->S.bt.pg id=some p.1:=λI=>by rw[<- hp]at I ⊢;exact aGW I
 rw[hp];refine⟨_,_,_,_,_,_,_,_,_,_,rfl,Al.i h1 (λb w2 h2=>et (vs:=p.1.vs) _ h2 rfl (λag f=>?_))⟩;have f:Sep E (cd A S++bC b p.1.vs::L) ag:=Sep.e9 f;let bad:Prop:=p.2≠0\/S.live g=false\/(p.1.place=0/\p.1.kf<0);refine ld f 16 rfl rfl rfl ⟨λo w'=>o=(if p.1.place=0 then g else p.1.owner)/\¬ bad/\p.1.place≠1/\Sep E (cd A S++bC b p.1.vs::L) w',
  ⟨λx w'=>(x=true↔bad)/\Sep E (cd A S++bC b p.1.vs::L) w',hJ (λhf=>⟨⟨λ_=>.inl hf,λ_=>rfl⟩,f⟩) (λhe=>?_),?_⟩,?_⟩
 ·refine⟨_,rfl,ld f 0 rfl rfl rfl (use (kC f (q:=1) rfl) ?_)⟩;rintro _ _ ⟨rfl,rfl⟩;refine⟨_,rfl,cv (λa=>?_) (λr=>?_)⟩
  ·have a:Kt.ds S.tree g=false:=by simpa using a
   exact⟨⟨λ_=>.inr (.inl a),λ_=>rfl⟩,f⟩
  ·have r:Kt.ds S.tree g=true:=by simpa using r
   have s:¬ S.live g=false:=by rw[show S.live g=true from r];decide
   refine ld f 16 rfl rfl rfl (eQ (λe0=>ld f 16 rfl rfl rfl ⟨⟨λa=>.inr (.inr ⟨e0,by simpa using a⟩),λa=>?_⟩,f⟩) (λe0=>⟨⟨λa=>(by cases a),λa=>?_⟩,f⟩))
   ·rcases a with a|a|a;·exact absurd he a
    ·exact absurd a s
    ·simpa using a.2
   ·rcases a with a|a|a;·exact absurd he a
    ·exact absurd a s
    ·exact absurd a.1 e0
 ·rintro _ x ah ⟨hx,j⟩;refine cv (λU=>?_) (λR=>?_)
  ·have hb:=hx.1 U;have e:S.bX id g=(S, -1,2):=by unfold Cs.bX;rw[hp];dsimp only;rw[bK hb]
   rw[e];exact⟨rfl,j.cut⟩
  ·have hb:¬ bad:=λD=>by have:=hx.2 D;rw[R]at this;cases this
   refine ld j 16 rfl rfl rfl (eQ (λZ=>?_) (λt=>ld j 16 rfl rfl rfl (eQ (λe0=>⟨(bK e0).symm,hb,t,j⟩) (λad=>⟨(bJ ad).symm,hb,t,j⟩))));refine⟨_,rfl,ld j 0 rfl rfl rfl (use (Gp.Ed G.ep id (j.fr 9 rfl)) ?_)⟩;rintro _ W ⟨rfl,i⟩;have i:=i.put (q:=9) rfl;have i:Sep E (cd A {S with bP:=(hj S.bP id).1} ++bC b p.1.vs::L) W:=i;have e:S.bX id g=({S with bP:=(hj S.bP id).1}, -1,0):=by unfold Cs.bX;rw[hp];dsimp only;rw[bJ hb,bK Z]
   rw[e];exact⟨_,rfl,rfl,i.cut⟩
 rintro _ o ah ⟨ho,hb,t,j⟩;have y:S.live o=true:=by
  rw[ho];split
  ·cases hl:S.live g with
   |true=>rfl
   |false=>exact absurd (.inr (.inl hl)) hb
  ·have:p.2=0:=rD λD=>hb (.inl D);exact G.own id p.1 (u this)
 refine use (Q6 G y j) ?_;rintro _ W ⟨rfl,i⟩;obtain⟨F,K,z⟩:=Q7 G y;obtain⟨T,C⟩:∃T,S.take o=T:=⟨_,rfl⟩
 rw[C]at i F K z ⊢;have M:Kt.WF T.1.tree:=by rw[z];exact G.wf
 refine⟨_,_,_,rfl,hJ (λhf=>?_) (λhe=>?_)⟩
 ·have e:S.bX id g=(T.1,T.2.2.1,T.2.2.2):=by unfold Cs.bX;rw[hp];dsimp only;rw[bJ hb,bJ t,<- ho,C,bK hf]
  rw[e];exact⟨rfl,i.cut⟩
 iterate 9 refine ld i 16 rfl rfl rfl ?_
 refine use (yv p.1 i) ?_;rintro _ am ⟨rfl,B⟩;obtain⟨d,m⟩:∃d,d=if p.1.place=2 then {T.1 with sl:=T.1.sl.du p.1.at_ (T.1.chain o)} else T.1:=⟨_,rfl⟩
 have O:d.bP=T.1.bP:=by rw[m];split<;>rfl
 refine⟨_,rfl,λw'=>Sep E (cd A d++bC b p.1.vs::L) w',ld B 16 rfl rfl rfl (eQ (λaa=>?_) (λae=>by rw[m,bJ ae];exact B)),?_⟩
 ·refine Dr.i B (λai k=>⟨_,rfl,ld k 0 rfl rfl rfl (ld k 0 rfl rfl rfl (ld k 0 rfl rfl rfl (ld k 16 rfl rfl rfl ⟨_,rfl,ld k 0 rfl rfl rfl (use (sS M (k.fr 1 rfl)) ?_)⟩)))⟩);rintro _ Y ⟨H,rfl,N,c⟩;have c:=c.ir (q:=1) rfl;have c:Sep E (cd A T.1++bw H 1 (bD (T.1.chain o))::bC b p.1.vs::L) Y:=Sep.e9 (Q:=cd A T.1) c;refine⟨H,rfl,ld c 17 rfl rfl rfl ⟨rfl,ld c 0 rfl rfl rfl (ld c 0 rfl rfl rfl (ld c 0 rfl rfl rfl ⟨rfl,use (QF p.1.at_ (Ints.row N) (pG M _) c) ?_⟩))⟩⟩;rintro _ aj ⟨rfl,l⟩;rw[m,bK aa];exact⟨rfl,l.cut⟩
 intro _ ai k;have e:S.bX id g=(d.place id T.2.1 o (T.1.text p.1) (!(mi d.log ((d.kept id).getD 0) (d.memory o))), -1,0):=by
  rw[m];unfold Cs.bX;rw[hp];dsimp only;rw[bJ hb,bJ t,<- ho,C,cD]
 rw[e];refine Dr.i k (λY c=>⟨_,rfl,ld c 0 rfl rfl rfl ⟨_,rfl,ld c 0 rfl rfl rfl ⟨_,Q9 c (q:=12) rfl,use (QA o c) ?_⟩⟩⟩);rintro _ aj ⟨rfl,l⟩;obtain⟨k0,al⟩:=aIM l (q:=12) rfl id;obtain⟨X,ab⟩:∃X:Nat,(d.kept id).getD 0=X:=⟨((d.kept id).getD 0).toNat,bu⟩
 refine⟨_,rfl,_,Q9 l (q:=12) rfl,rfl,ld l 0 rfl rfl rfl ⟨rfl,ld l 0 rfl rfl rfl ⟨rfl,?_⟩⟩⟩;rw[ab];refine use (aJo (l.fr 10 rfl) bu o _) ?_;rintro _ V ⟨rfl,n⟩;have n:Sep E (cd A d++bC b p.1.vs::L) V:=n.put (q:=10) rfl;refine⟨_,rfl,use (QI id T.2.1 o (T.1.text p.1) _ (by rw[O];exact K) n) ?_⟩;rintro _ ak ⟨rfl,J⟩;exact⟨rfl,rfl,J.cut⟩
end Go.Mp
namespace Go.Kc
open Go Go.Kt
variable{S:Cs}
def aG5(h:Inv S)(hn:S.bt.next<16777216){k:Int×Int}{g:Int}(hl:S.live g=true)(hf:ec S.files k=true)(hm:S.bt.of k<0):Inv {S with bt:=(S.bt.make k.1 k.2 g).1} :=by
 obtain⟨kf,ki⟩:=k;have d:=w3 hf;have f:=q4 S.bt (kf:=kf) (ki:=ki) (o:=g) ⟨h.cH.next,hn⟩ (.inr hm);have i:=h.toInv0.make hn (kf:=kf) (ki:=ki) hl (.inr ⟨hm,hf⟩);have e:g5 S.bt kf ki=(kf,ki):=by unfold g5;rw[bJ (by have:0<=kf:=d;omega)]
 have b:∀x p,(S.bt.make kf ki g).1.pg x=some p->p.kf<0->p.place≠0:=by
  intro x q c a;rw[f.2.2]at c;split at c
  ·rw[<- cR c,e]at a;have:kf<0:=a;have:0<=kf:=d;omega
  ·exact h.anon _ _ c a
 exact⟨i,b⟩
def Rb{F:FS}{k:Int×Int}:(rW F k).2≠0↔ec F k=false:=by
 unfold rW;by_cases h:ec F k=false;·rw[bK h];simp[h]
 ·rw[bJ h];split<;>simp[h]
end Go.Kc
namespace Go.Mp
open Go Go.Vc Go.Sp Go.Proofs Go.Kc
variable{E:Env}{L:ct}{w:bI}{A:At}{S:Cs}
def aJt{k:Int×Int}{g:Int}(u:Kc.Inv S)(hn:S.bt.next<16777216)(h:Sep E (cd A S++L) w):Calls P IJ #[Pb A.c,.agg #[Iv k.1,Iv k.2],Iv g] w
  (cW E (.tuple #[Iv (S.cA k g).2.1,Iv (S.cA k g).2.2.1,Iv (S.cA k g).2.2.2]) (cd A (S.cA k g).1++L)):=by
 apply Wi;unfold KT q9 qF qQ qZ qg qj zQ zZ;refine Al.i h (λb B h1=>?_);have h1:Sep E (cd A S++bC b [Iv k.1,Iv k.2]::L) B:=Sep.e9 h1;have p:(ec S.files k=false\/S.live g=false)->S.cA k g=(S, -1, -1,2):=by
  intro y;unfold Cs.cA;rw[bK y]
 refine⟨λw'=>ec S.files k=true/\S.live g=true/\Sep E (cd A S++bC b [Iv k.1,Iv k.2]::L) w',Dr.i h1 (λw2 h2=>⟨_,rfl,ld h2 0 rfl rfl rfl (ld h2 16 rfl rfl rfl (ld h2 16 rfl rfl rfl (use (OG k (h2.fr 8 rfl)) ?_)))⟩),?_⟩
 ·rintro _ t ⟨rfl,c⟩;have c:=c.put (q:=8) rfl;have c:Sep E (cd A S++bC b [Iv k.1,Iv k.2]::L) t:=c;refine⟨_,_,rfl,hJ (λhf=>?_) (λhe=>?_)⟩;·rw[p (.inl (Rb.1 hf))];exact⟨rfl,c.cut⟩
  ·have j:ec S.files k=true:=by
    cases z:ec S.files k with
    |true=>rfl
    |false=>exact absurd he (Rb.2 z)
   refine⟨_,rfl,ld c 0 rfl rfl rfl (use (kC c (q:=1) rfl) ?_)⟩;rintro _ _ ⟨rfl,rfl⟩;refine⟨_,rfl,cv (λr=>?_) (λd=>?_)⟩
   ·have r:Kt.ds S.tree g=false:=by simpa using r
    rw[p (.inr r)];exact⟨rfl,c.cut⟩
   ·have d:Kt.ds S.tree g=true:=by simpa using d
    exact⟨j,d,c⟩
 rintro _ w2 ⟨j,d,h2⟩;refine Dr.i h2 (λt c=>⟨_,rfl,ld c 0 rfl rfl rfl (ld c 16 rfl rfl rfl (ld c 16 rfl rfl rfl (use (Tp.vl k (c.fr 11 rfl)) ?_)))⟩);rintro _ C ⟨rfl,l⟩;have l:=l.put (q:=11) rfl;have l:Sep E (cd A S++bC b [Iv k.1,Iv k.2]::L) C:=l;obtain⟨a,i⟩:∃a,a=if S.bt.of k<0 then {S with bt:=(S.bt.make k.1 k.2 g).1} else S:=⟨_,rfl⟩
 obtain⟨i1,o⟩:∃i1,i1=if S.bt.of k<0 then(S.bt.make k.1 k.2 g).2.1 else S.bt.of k:=⟨_,rfl⟩
 have x:Kc.Inv a:=by
  rw[i];split;·next hm=>exact aG5 u hn d j hm
  ·exact u
 have e:S.cA k g=if(a.bX i1 g).2.2=0 then((a.bX i1 g).1,i1, -1,0)else if S.bt.of k<0 then({(a.bX i1 g).1 with bt:=((a.bX i1 g).1.bt.drop i1).1}, -1,(a.bX i1 g).2.1,(a.bX i1 g).2.2)else((a.bX i1 g).1, -1,(a.bX i1 g).2.1,(a.bX i1 g).2.2):=by
  rw[i,o];unfold Cs.cA;rw[bJ (by rw[j,d];simp)];by_cases hm:S.bt.of k<0;·simp only[hm,decide_true,g3]
  ·simp only[hm,decide_false,gR,l4]
 refine⟨_,rfl,λid w'=>id=i1/\Sep E (cd A a++bC b [Iv k.1,Iv k.2]::L) w',cU (λhm=>?_) (λhm=>⟨by rw[o,cD],by rw[i,cD];exact l⟩),?_⟩
 ·refine Dr.i l (λD m=>⟨_,rfl,ld m 0 rfl rfl rfl (ld m 16 rfl rfl rfl (ld m 16 rfl rfl rfl (use (Tp.yp k.1 k.2 g u.cH.fresh (m.fr 11 rfl)) ?_)))⟩);rintro _ F ⟨rfl,f⟩;have f:=f.put (q:=11) rfl;exact⟨_,_,rfl,by rw[o,bK hm],by rw[i,bK hm];exact f⟩
 rintro _ id D ⟨rfl,m⟩;refine use (Ra x m) ?_;rintro _ F ⟨rfl,f⟩;rw[e];refine⟨_,_,rfl,eQ (λe0=>?_) (λs=>cU (λhm=>?_) (λhm=>?_))⟩;·rw[bK e0];exact⟨rfl,f.cut⟩
 ·rw[bJ s,bK hm];refine⟨_,rfl,ld f 0 rfl rfl rfl (use (Tp.vm id (f.fr 11 rfl)) ?_)⟩;rintro _ G ⟨rfl,n⟩;have n:=n.put (q:=11) rfl;have n:Sep E (cd A {(a.bX id g).1 with bt:=((a.bX id g).1.bt.drop id).1} ++bC b [Iv k.1,Iv k.2]::L) G:=n;exact⟨_,rfl,rfl,n.cut⟩
 ·rw[bJ s,cD];exact⟨rfl,f.cut⟩
def oT{id at_:Int}(d:Kc.Inv S)(h:Sep E (cd A S++L) w):Calls P Io #[Pb A.c,Iv id,Iv at_] w
  (cW E (.tuple #[.int .u8 (S.get id at_).2.1,Iv (S.get id at_).2.2]) (cd A (S.get id at_).1++L)):=by
 apply VJ;unfold Kz qQ qZ qo qp;refine use (QH id h) ?_;rintro _ f ⟨rfl,h1⟩;refine⟨_,_,rfl,cv (λb=>?_) (λhl=>?_)⟩
 ·have b:(S.here id).2=false:=by simpa using b
  have e:S.get id at_=(S,0,2):=by unfold Cs.get;dsimp only;rw[bK b]
  rw[e];exact⟨rfl,h1⟩
 have hl:(S.here id).2=true:=by simpa using hl
 refine⟨_,rfl,ld h1 0 rfl rfl rfl (use (aBJ (S.here id).1 at_ (h1.fr 3 rfl)) ?_)⟩;rintro _ _ ⟨rfl,rfl⟩;have e:S.get id at_=(if(By.gt S.fr.bY.length S.fr.c9 (S.here id).1 at_).2=0 then {S with bP:=(hj S.bP id).1} else S,((By.gt S.fr.bY.length S.fr.c9 (S.here id).1 at_).1.toNat:Int),(By.gt S.fr.bY.length S.fr.c9 (S.here id).1 at_).2):=by
  unfold Cs.get;dsimp only;rw[bJ (by rw[hl];decide)]
 rw[e];refine⟨_,_,rfl,eQ (λe0=>?_) (λc=>?_)⟩
 ·rw[bK e0];refine⟨_,rfl,ld h1 0 rfl rfl rfl (use (Gp.Ed d.ep id (h1.fr 9 rfl)) ?_)⟩;rintro _ g ⟨rfl,a⟩;have a:=a.put (q:=9) rfl;exact⟨_,rfl,rfl,a⟩
 ·rw[bJ c];exact⟨rfl,h1⟩
def s8{id at_:Int}{x:UInt8}(j:Kc.Inv S)(h:Sep E (cd A S++L) w):Calls P It #[Pb A.c,Iv id,Iv at_,.int .u8 x.toNat] w
  (cW E (Iv (S.put id at_ x).2) (cd A (S.put id at_ x).1++L)):=by
 apply VK;unfold KA qQ qZ qp;refine use (QH id h) ?_;rintro _ k ⟨rfl,h1⟩;refine⟨_,_,rfl,cv (λf=>?_) (λhl=>?_)⟩
 ·have f:(S.here id).2=false:=by simpa using f
  have e:S.put id at_ x=(S,2):=by unfold Cs.put;dsimp only;rw[bK f]
  rw[e];exact⟨rfl,h1⟩
 have hl:(S.here id).2=true:=by simpa using hl
 refine⟨_,rfl,ld h1 0 rfl rfl rfl (use (aBL (S.here id).1 at_ x (h1.fr 3 rfl)) ?_)⟩;rintro _ w2 ⟨rfl,h2⟩;have h2:=h2.put (q:=3) rfl;obtain⟨r,hr⟩:∃r,By.pt S.fr.bY.length S.fr.c9 (S.here id).1 at_ x=r:=⟨_,rfl⟩
 have e:S.put id at_ x=if r.2=0 then({S with fr:={S.fr with c9:=r.1},bP:=(hj S.bP id).1,bt:=(S.bt.mark id true).1},0)else(S,r.2):=by
  unfold Cs.put;dsimp only;rw[bJ (by rw[hl];decide),hr]
 rw[hr]at h2 ⊢;rw[e];have h2:Sep E (cd A {S with fr:={S.fr with c9:=r.1}} ++L) w2:=h2;refine⟨_,rfl,eQ (λe0=>?_) (λb=>?_)⟩
 ·rw[bK e0];refine⟨_,rfl,ld h2 0 rfl rfl rfl (use (Gp.Ed j.ep id (h2.fr 9 rfl)) ?_)⟩;rintro _ i ⟨rfl,a⟩;have a:=a.put (q:=9) rfl;have a:Sep E (cd A {S with fr:={S.fr with c9:=r.1},bP:=(hj S.bP id).1} ++L) i:=a;refine⟨_,rfl,_,rfl,ld a 0 rfl rfl rfl (use (Tp.Qr id true (a.fr 11 rfl)) ?_)⟩;rintro _ l ⟨rfl,d⟩;have d:=d.put (q:=11) rfl;exact⟨_,rfl,by rw[e0],d⟩
 ·rw[bJ b];have c:r.1=S.fr.c9:=by
   rw[<- hr]at b ⊢;unfold By.pt at b ⊢;split;·next g=>rw[bK g]at b;exact absurd rfl b
   ·rfl
  rw[c]at h2;exact⟨rfl,h2⟩
def yD{id n:Int}(X:Kc.Inv S)(h:Sep E (cd A S++L) w):Calls P uC #[Pb A.c,Iv id,Iv n] w
  (cW E (Iv (S.bO id n).2) (cd A (S.bO id n).1++L)):=by
 apply VL;unfold KB qE qJ qL qP qQ qU qV qX qY qZ qg qj;refine⟨_,rfl,ld h 0 rfl rfl rfl (use (Tp.aIf id n (h.fr 11 rfl)) ?_)⟩;rintro _ R ⟨rfl,h1⟩;have h1:=h1.put (q:=11) rfl;obtain⟨r,hr⟩:∃r,S.bt.bO id n=r:=⟨_,rfl⟩
 obtain⟨a,i⟩:∃a:Cs,a= {S with bt:=r.1} :=⟨_,rfl⟩
 rw[hr]at h1 ⊢;have h1:Sep E (cd A a++L) R:=by rw[i];exact h1
 have x:(r.2.2≠0\/0<r.2.1)->S.bO id n=(a,r.2.2):=by
  intro B;unfold Cs.bO;rw[hr,i];dsimp only;rw[bK B]
 refine⟨_,_,rfl,λw'=>¬ (r.2.2≠0\/0<r.2.1)/\Sep E (cd A a++L) w',hJ (λhf=>?_) (λhe=>fZ (λI=>?_) (λI=>⟨bu,h1⟩)),?_⟩;·rw[x (.inl hf)];exact⟨rfl,h1⟩
 ·rw[x (.inr I)];exact⟨rfl,h1⟩
 rintro _ w2 ⟨B,h2⟩;have F:Kt.WF a.tree:=by rw[i];exact X.wf
 have N:Kc.Good a.bP:=by rw[i];exact X.ep
 refine⟨_,rfl,ld h2 0 rfl rfl rfl (use (Tp.oT id (h2.fr 11 rfl)) ?_)⟩;rintro _ T ⟨rfl,o⟩;have o:Sep E (cd A a++L) T:=o.put (q:=11) rfl;obtain⟨p,hp⟩:∃p,(a.bt.get id).1=p:=⟨_,rfl⟩
 rw[hp];refine⟨_,_,_,_,_,_,_,_,_,_,rfl,Al.i o (λb Z D=>et (vs:=p.vs) _ D rfl (λU s=>?_))⟩;have s:Sep E (cd A a++bC b p.vs::L) U:=Sep.e9 s;refine Dr.i s (λaa y=>⟨_,rfl,ld y 0 rfl rfl rfl (ld y 16 rfl rfl rfl (use (sS F (y.fr 1 rfl)) ?_))⟩);rintro _ V ⟨k,rfl,H,g⟩;have g:=g.ir (q:=1) rfl;have g:Sep E (cd A a++bw k 1 (bD (a.chain p.owner))::bC b p.vs::L) V:=Sep.e9 (Q:=cd A a) g;have z:Ints E (bw k 1 (bD (a.chain p.owner))::bC b p.vs::L) k (a.chain p.owner):=Ints.row H;have u:(a.chain p.owner).length<=64:=pG F _;obtain⟨f,j⟩:∃f:Cs,f=if p.place=1 then {a.clean id p with fr:=(a.clean id p).fr.du p.at_ (a.chain p.owner),bP:=(jl (a.clean id p).bP id).1} else if p.place=2 then {a with sl:=a.sl.du p.at_ (a.chain p.owner)} else a:=⟨_,rfl⟩
 have e:S.bO id n=({f with bt:=((f.bt.put id 0 0).1.drop id).1},((f.bt.put id 0 0).1.drop id).2):=by
  clear h1 h2 o D s g z;subst j hp i;unfold Cs.bO;rw[hr];dsimp only;rw[bJ B]
 refine⟨_,rfl,λw'=>Sep E (cd A f++bw k 1 (bD (a.chain p.owner))::bC b p.vs::L) w',ld g 17 rfl rfl rfl (eQ (λK=>?_) (λJ=>eQ (λM=>?_) (λO=>by rw[j,bJ J,bJ O];exact g))),?_⟩
 ·iterate 9 refine ld g 17 rfl rfl rfl ?_
  refine use (QC id p g) ?_;rintro _ W ⟨rfl,t⟩;have G:(a.clean id p).bP=a.bP:=by unfold Cs.clean;split<;>rfl
  refine⟨rfl,Dr.i t (λC c=>⟨_,rfl,ld c 0 rfl rfl rfl (ld c 0 rfl rfl rfl (ld c 0 rfl rfl rfl (ld c 17 rfl rfl rfl (use (QE p.at_ z u c) ?_))))⟩)⟩;rintro _ m ⟨rfl,d⟩;refine⟨rfl,_,rfl,ld d 0 rfl rfl rfl (use (Gp.vm (by show Kc.Good (a.clean id p).bP;rw[G];exact N) id (d.fr 9 rfl)) ?_)⟩;rintro _ Y ⟨rfl,l⟩;have l:=l.put (q:=9) rfl;rw[j,bK K];exact⟨_,rfl,l⟩
 ·refine Dr.i g (λC c=>⟨_,rfl,ld c 0 rfl rfl rfl (ld c 0 rfl rfl rfl (ld c 0 rfl rfl rfl (ld c 17 rfl rfl rfl (use (QF p.at_ z u c) ?_))))⟩);rintro _ m ⟨rfl,d⟩;rw[j,bJ J,bK M];exact⟨rfl,d⟩
 intro _ W t;refine⟨_,rfl,ld t 0 rfl rfl rfl (use (Tp.s8 id 0 0 (t.fr 11 rfl)) ?_)⟩;rintro _ C ⟨rfl,c⟩;have c:=c.put (q:=11) rfl;have c:Sep E (cd A {f with bt:=(f.bt.put id 0 0).1} ++bw k 1 (bD (a.chain p.owner))::bC b p.vs::L) C:=c;refine⟨_,rfl,_,rfl,ld c 0 rfl rfl rfl (use (Tp.vm id (c.fr 11 rfl)) ?_)⟩;rintro _ m ⟨rfl,d⟩;have d:=d.put (q:=11) rfl;have d:Sep E (cd A {f with bt:=((f.bt.put id 0 0).1.drop id).1} ++bw k 1 (bD (a.chain p.owner))::bC b p.vs::L) m:=d;rw[e];exact⟨_,rfl,rfl,d.cut.cut⟩
def aGs(h:Sep E (cd A S++L) w):Calls P Il #[Pb A.c] w (cW E (Iv (S.files.bW.length:Nat)) (cd A S++L)):=by
 apply VH;unfold Kx qQ qZ;refine⟨_,rfl,ld h 0 rfl rfl rfl (use (az9 h (q:=8) rfl) ?_)⟩;rintro _ _ ⟨rfl,rfl⟩;exact⟨_,rfl,rfl,h⟩
def aDh(f:Int)(h:Sep E (cd A S++L) w):Calls P Im #[Pb A.c,Iv f] w (cW E (Iv (nq S.files f)) (cd A S++L)):=by
 apply VI;unfold Ky qQ qZ;refine⟨_,rfl,ld h 0 rfl rfl rfl (use (OE h (q:=8) rfl f) ?_)⟩;rintro _ _ ⟨rfl,rfl⟩;exact⟨_,rfl,rfl,h⟩
def Rc(id:Int)(h:Sep E (cd A S++L) w):Calls P Bk #[Pb A.c,Iv id] w (cW E (.tuple #[.agg (S.bt.get id).1.vs.toArray,Iv (S.bt.get id).2]) (cd A S++L)):=by
 apply Vf;unfold J1 qU qV qX qY qZ;refine Al.i h (λb c h1=>?_);have h1:=Sep.e9 (Q:=cd A S) h1;refine⟨_,rfl,ld h1 0 rfl rfl rfl (use (Tp.oT id (h1.fr 11 rfl)) ?_)⟩;rintro _ w2 ⟨rfl,h2⟩;have h2:=h2.put (q:=11) rfl;have h2:=Sep.mB (Q:=cd A S) (L:=L) h2;refine⟨_,_,_,_,_,_,_,_,_,_,rfl,et (vs:=(S.bt.get id).1.vs) _ h2 rfl (λd a=>?_)⟩
 iterate 9 refine ld a 0 rfl rfl rfl ?_
 exact⟨rfl,a.tail⟩
def yE(h:Sep E (cd A S++L) w):Calls P uA #[Pb A.c] w (cW E (Pb A.t) (cd A S++L)):=by
 apply Vg;unfold J2 qZ;exact⟨_,rfl,ld h 0 rfl rfl rfl ⟨rfl,h⟩⟩
def aIb{g:Int}(l:Kc.Inv S)(h:Sep E (cd A S++L) w):Calls P IP #[Pb A.c,Iv g] w
  (cW E (.tuple #[Iv (S.fresh g).2.1,Iv (S.fresh g).2.2.1,Iv (S.fresh g).2.2.2]) (cd A (S.fresh g).1++L)):=by
 apply Wn;unfold KY qF qZ zX;refine⟨_,rfl,ld h 0 rfl rfl rfl (use (kC h (q:=1) rfl) ?_)⟩;rintro _ _ ⟨rfl,rfl⟩;refine⟨_,rfl,cv (λd=>?_) (λa=>?_)⟩
 ·have d:Kt.ds S.tree g=false:=by simpa using d
  have e:S.fresh g=(S, -1, -1,2):=by unfold Cs.fresh;rw[bK (show S.live g=false from d)]
  rw[e];exact⟨rfl,h⟩
 ·have a:Kt.ds S.tree g=true:=by simpa using a
  have e:S.fresh g=S.c8 g By.zs:=by unfold Cs.fresh;rw[bJ (by rw[show S.live g=true from a];decide)]
  rw[e];refine makeSlice.i h aFP bN (g2 _) bN bN (λb k h1=>?_);have h1:Sep E (bC b (g9 By.zs)::(cd A S++L)) k:=h1;have f:=Qi By.zs h1 (q:=0) (o:=0) (n:=16) (c:=16) rfl rfl (λj i=>by
   rw[fx,uf,dO i];rfl)
  refine⟨_,f,use (Q8 l a By.zs h1.tail) ?_⟩;rintro _ w2 ⟨rfl,h2⟩;exact⟨_,_,_,rfl,rfl,h2⟩
def Ew{R:bA dw}:∀(l:bS) (g:Int),gW R (l++[g])=((iA (gW R l).1 g jO).1,(gW R l).2+(iA (gW R l).1 g jO).2)
 |[],g=>by simp[gW]
 |x::l,g=>by
  rw[o5,gW,Ew l g,gW];simp only[ot,true_and];omega
def gD{R:bA dw}(G:Kc.Good R):R.length<=16777217:=by
 have h:=sH 16777217 (R.map dw.id) (by
  rw[og,kL];exact G.cX.imp (λa he=>bu)) (λx hx=>by
  obtain⟨e,he,rfl⟩:=fA.1 hx;have:=(G.ok e he).1;omega)
 simpa using h
def aJm{t:Int}(p:Kc.Inv S)(h:Sep E (cd A S++L) w):Calls P Ij #[Pb A.c,Iv t] w
  (cW E (Iv (S.dt t).2) (cd A (S.dt t).1++L)):=by
 apply VF;unfold Ks qD qI qJ qQ qW qZ;refine⟨_,rfl,ld h 0 rfl rfl rfl (use (u3 p.wf (h.fr 1 rfl)) ?_)⟩;rintro _ u ⟨s,rfl,m,h1⟩;have h1:=h1.ir (q:=1) rfl;obtain⟨gs,a⟩:∃gs,Kt.ic S.tree t=gs:=⟨_,rfl⟩
 have C:gs.length<=64:=by rw[<- a];exact yC p.wf t
 have e:S.dt t=({S with bP:=(gW S.bP gs).1},(gW S.bP gs).2):=by unfold Cs.dt;rw[a]
 rw[a]at m h1;rw[e];have h1:Sep E (cd A S++bw s 1 (bD gs)::L) u:=Sep.e9 (Q:=cd A S) h1;have i:∀k,0<=(gW S.bP (gs.take k)).2/\(k<=gs.length->(gW S.bP (gs.take k)).2<=k*16777217):=by
  intro k;induction k with
  |zero=>simp[gW]
  |succ k o=>
   by_cases hk:k<gs.length
   ·have hx:gs[k]?=some gs[k]:=dO hk;rw[fL hx,Ew];have f:=wV (gs.take k) p.ep;have h2:=gD f.1;have d:(iA (gW S.bP (gs.take k)).1 gs[k] jO).2<=((gW S.bP (gs.take k)).1.length:Nat):=by
     unfold iA;simp only;have:=l2 (nV gs[k] jO) (gW S.bP (gs.take k)).1;omega
    have F:0<=(iA (gW S.bP (gs.take k)).1 gs[k] jO).2:=by unfold iA;simp only;omega
    have G:=o.2 bu;refine⟨by simp only;omega,λ_=>by simp only;omega⟩
   ·have j:gs.take (k+1)=gs.take k:=by rw[iw bu,iw bu]
    rw[j];exact⟨o.1,λH=>bu⟩
 refine⟨s,rfl,λn x w'=>(∃k:Nat,x=k/\k<=gs.length/\n=(gW S.bP (gs.take k)).2/\Sep E (cd A {S with bP:=(gW S.bP (gs.take k)).1} ++bw s 1 (bD gs)::L) w'),λ_ x _=>(gs.length-x).toNat,⟨0,rfl,fj _,rfl,h1⟩,?_⟩;rintro _ _ _ w2 ⟨k,rfl,hk,rfl,h2⟩;refine cU (λD=>?_) (λB=>?_)
 ·have b:k<gs.length:=by omega
  obtain⟨g,f⟩:∃g,gs[k]?=some g:=⟨_,dO b⟩
  have l:=wV (gs.take k) p.ep;have hlen:=gD l.1;refine(Ints.at_ (q:=16) rfl m).el h2 k rfl f ⟨_,rfl,ld h2 0 rfl rfl rfl (use (Gp.aKf l.1 g (by show(gW S.bP (gs.take k)).1.length<_;omega) (h2.fr 9 rfl)) ?_)⟩;rintro _ I ⟨rfl,d⟩;have d:=d.put (q:=9) rfl;have c:=Ew (R:=S.bP) (gs.take k) g;rw[<- fL f]at c;have y:=(i (k+1)).1;have z:=(i (k+1)).2 b;have r:(gW S.bP (gs.take (k+1))).2=(gW S.bP (gs.take k)).2+(iA (gW S.bP (gs.take k)).1 g jO).2:=by rw[c]
  have j:(gW S.bP (gs.take (k+1))).1=(iA (gW S.bP (gs.take k)).1 g jO).1:=by rw[c]
  refine⟨_,rfl,?_⟩;rw[dc];have hw:i64.wrap ((gW S.bP (gs.take k)).2+(iA (gW S.bP (gs.take k)).1 g jO).2)=(gW S.bP (gs.take (k+1))).2:=by rw[cP bu bu,r]
  refine⟨⟨k+1,rfl,b,hw,by rw[j];exact d⟩,?_⟩;show(((gs.length:Nat):Int)-((k+1:Nat):Int)).toNat<(((gs.length:Nat):Int)-(k:Int)).toNat;omega
 ·have:k=gs.length:=by omega
  subst this;rw[gf]at h2 ⊢;exact⟨rfl,h2.cut⟩
def aGt{g what n:Int}(Q:Kc.Inv S)(h:Sep E (cd A S++L) w):Calls P Ih #[Pb A.c,Iv g,Iv what,Iv n] w
  (cW E (Iv (S.cB g what n).2) (cd A (S.cB g what n).1++L)):=by
 apply VE;unfold Kr qF qK qQ qW qZ qg;have t:S.live g=false->S.cB g what n=(S,2):=by intro e;unfold Cs.cB;rw[bK e]
 have o:S.live g=true->gT n=false->S.cB g what n=(S,1):=by intro e hn;unfold Cs.cB;rw[bJ (by rw[e];decide),bK hn]
 have u:S.live g=true->gT n=true->S.cB g what n=(if what=0 then(S.iL g {S.mW g with min:=n},0)
   else if what=1 then(S.iL g {S.mW g with low:=n},0)
   else if what=2 then({S with fr:={S.fr with used:=(j6 S.fr.used g n).1}},(j6 S.fr.used g n).2)
   else if what=3 then({S with sl:={S.sl with used:=(j6 S.sl.used g n).1}},(j6 S.sl.used g n).2)
   else if what=4 then(if 1<n then(S,1)else(S.iL g {S.mW g with whole:=n==1},0))else(S,1)):=by
  intro e hn;unfold Cs.cB;rw[bJ (by rw[e];decide),bJ (by rw[hn];decide)]
 have M:=ob;refine⟨λw'=>S.live g=true/\gT n=true/\Sep E (cd A S++L) w',⟨_,rfl,ld h 0 rfl rfl rfl (use (kC h (q:=1) rfl) ?_)⟩,?_⟩
 ·rintro _ _ ⟨rfl,rfl⟩;refine⟨_,rfl,cv (λp=>?_) (λc=>?_)⟩
  ·have p:Kt.ds S.tree g=false:=by simpa using p
   rw[t p];exact⟨rfl,h⟩
  ·have c:Kt.ds S.tree g=true:=by simpa using c
   refine cU (λH=>?_) (λH=>fZ (λI=>?_) (λI=>⟨c,?_,h⟩));·rw[o c (by unfold gT;rw[dg (show ¬ 0<=n by omega)];rfl)];exact⟨rfl,h⟩
   ·rw[o c (by unfold gT;rw[dg (show ¬ n<=top by omega),rJ])];exact⟨rfl,h⟩
   ·unfold gT;rw[dF (show 0<=n by omega),dF (show n<=top by omega)];rfl
 rintro _ R ⟨c,hn,h1⟩;rw[u c hn];have O:=Ev (show Kt.ds S.tree g=true from c);obtain⟨k,rfl⟩:∃k:Nat,g=k:=⟨g.toNat,bu⟩
 have s:k<S.guards.length:=by rw[Q.gl];omega
 obtain⟨x,hx⟩:∃x,S.guards[k]?=some x:=⟨_,dO s⟩
 have J:S.mW (k:Int)=x:=by unfold Cs.mW;rw[dA,dJ,hx];rfl
 rw[J];obtain⟨m,h2⟩:=iN.open (h1.fr 13 rfl);refine⟨_,rfl,A.gs,h1.cellAt 0 rfl 12,lV eD.mx 0 h2 rfl m rfl hx (λb hb _=>?_)⟩;have d:∀(y:eD) {w':bI},Sep E (bw A.gs 3 (bQ eD.vs (S.guards.set k y))::(cd A S++L).eraseIdx 13) w'->Sep E (cd A (S.iL (k:Int) y)++L) w':=by
  intro y w' K;have z:Sep E (iN A.gs (S.guards.set k y)::(cd A S++L).eraseIdx 13) w':=Sep.cG.2 ⟨by simpa using m,K⟩;exact z.put (q:=13) rfl
 refine eQ (λe0=>?_) (λf=>eQ (λC=>?_) (λi=>eQ (λD=>?_) (λr=>eQ (λF=>?_) (λB=>eQ (λG=>?_) (λN=>?_)))))
 ·rw[bK e0];refine⟨_,rfl,sJ eD.mx (a':={x with min:=n}) (j:=0) h2 hb hx bN rfl (λw2 a=>⟨rfl,d _ a⟩)⟩
 ·rw[bJ f,bK C];refine⟨_,rfl,sJ eD.mx (a':={x with low:=n}) (j:=1) h2 hb hx bN rfl (λw2 a=>⟨rfl,d _ a⟩)⟩
 ·rw[bJ f,bJ i,bK D];refine⟨_,rfl,ld h1 0 rfl rfl rfl (use (P7 (h1.fr 4 rfl) (k:Int) n) ?_)⟩;rintro _ w2 ⟨rfl,a⟩;have a:=a.put (q:=4) rfl;exact⟨_,rfl,rfl,a⟩
 ·rw[bJ f,bJ i,bJ r,bK F];refine⟨_,rfl,ld h1 0 rfl rfl rfl (use (P7 (h1.fr 7 rfl) (k:Int) n) ?_)⟩;rintro _ w2 ⟨rfl,a⟩;have a:=a.put (q:=7) rfl;exact⟨_,rfl,rfl,a⟩
 ·rw[bJ f,bJ i,bJ r,bJ B,bK G];refine fZ (λl=>?_) (λl=>?_);·rw[bK l];exact⟨rfl,h1⟩
  ·rw[cD];refine⟨_,rfl,sJ eD.mx (a':={x with whole:=n==1}) (j:=2) h2 hb hx bN rfl (λw2 a=>⟨rfl,d _ a⟩)⟩
 ·rw[bJ f,bJ i,bJ r,bJ B,bJ N];exact⟨rfl,h1⟩
def Re:hi P se=some (24,3,[Iv 0,Iv 0,.bool false]):=by kernel_rfl
def aDx{s:Sl}{q:Nat}{l:bA eD}{x:eD}(hn:s.n=l.length)(hb:l.length<1000000)(h:Sep E (bC q (eD.vs x)::bw s 3 (bQ eD.vs l)::L) w){G:Sl->bf8}(g:∀s' a,Sep E (iN s' (l++[x])::L) a->G s' a):
  ∃d:Sl,∃a,Sem.run P (Builtin.append_ #[se,se] se #[Sv s,.slice (some ⟨q,0,none⟩) 1 1]) w=.ok (Sv d) a/\G d a:=by
 have e:=Src.bC (n:=1) (c:=1) h (i:=0) rfl Re rfl (λu hu=>by simp[eD.vs]at hu;rcases hu with rfl|rfl|rfl<;>rfl);refine bw.append h.swap Re rfl e bu (by rw[hn];omega) (λs' a b h1=>?_);refine g s' a (Sep.cG.2 ⟨by rw[b,hn];simp,?_⟩);rw[m6,oM];exact(h1.fr 0 rfl).ro 2 [0] rfl
def pN(A:At)(row:bA bE)(b a up:Asn)(S:Cs):ct:=
 [bC A.c row,b,gA A.fp S.fr.bY,gb A.fb S.fr.bY.length S.fr.c9,c7 A.fu S.fr.used,gA A.sp S.sl.bY,gb A.sb S.sl.bY.length S.sl.c9,c7 A.su S.sl.used,
  iC A.fi S.files,Gp.fl A.ge S.bP,fH A.lg S.log,Tp.c2 A.pg S.bt,nK A.m S.kept,a,up,dY A.o]
def aDe{p:Int}(D:Kc.Inv S)(h:Sep E (cd A S++L) w):Calls P Ie #[Pb A.c,Iv p] w
  (cz λv w'=>v=.tuple #[Iv (S.cn p).2.1,Iv (S.cn p).2.2]/\∃gs us:Sl,Sep E (cd {A with gs:=gs,us:=us} (S.cn p).1++L) w'):=by
 apply VB;unfold Ko qC qK qZ qj qx;refine⟨_,rfl,ld h 0 rfl rfl rfl (use (DC D.wf (h.fr 1 rfl)) ?_)⟩;rintro _ K ⟨rfl,h1⟩;have h1:=h1.put (q:=1) rfl;obtain⟨r,hr⟩:∃r,Kt.gh S.tree p=r:=⟨_,rfl⟩
 rw[hr]at h1 ⊢;refine⟨_,_,rfl,eQ (λe0=>?_) (λa=>?_)⟩
 ·have e:S.cn p=({S with tree:=r.1,guards:=S.guards++[⟨0,0,false⟩]},r.2):=by unfold Cs.cn;rw[hr];dsimp only;rw[bK e0]
  rw[e];have i:r.1=S.tree++[⟨p,true⟩]:=by
   rw[<- hr]at e0 ⊢;unfold Kt.gh at e0 ⊢;split at e0;·exact absurd e0 (by simp)
   ·next j=>
    rw[bJ j];split at e0;·exact absurd e0 (by simp)
    ·next k=>
     rw[bJ k];split at e0;·exact absurd e0 (by simp)
     ·next l=>rw[bJ l]
  have J:=D.wf.fk;have h1:Sep E (pN A A.row (dT A.t r.1) (iN A.gs S.guards) (ju A.us S.tree) S++L) K:=h1;refine⟨_,rfl,A.gs,h1.cellAt 0 rfl 12,Al.i h1 (λq w2 h2=>?_)⟩;obtain⟨u,G⟩:=iN.open (h2.fr 14 rfl);refine aDx (x:=⟨0,0,false⟩) u (by rw[D.gl];omega) (G.fr 1 rfl) (λgs B m=>?_);have m:Sep E (iN gs (S.guards++[⟨0,0,false⟩])::(pN A A.row (dT A.t r.1) (iN A.gs S.guards) (ju A.us S.tree) S++L).eraseIdx 13) B:=m;have n:=m.put (q:=13) rfl;have n:Sep E (pN A A.row (dT A.t r.1) (iN gs (S.guards++[⟨0,0,false⟩])) (ju A.us S.tree) S++L) B:=n;refine⟨_,rfl,St.i (b:=A.c) (c:=A.row) (o:=12) (L:=(pN A A.row (dT A.t r.1) (iN gs (S.guards++[⟨0,0,false⟩])) (ju A.us S.tree) S++L).eraseIdx 0) n (by simp[At.row]) (λM f=>?_)⟩;have f:Sep E (pN A ({A with gs:=gs} :At).row (dT A.t r.1) (iN gs (S.guards++[⟨0,0,false⟩])) (ju A.us S.tree) S++L) M:=f;refine⟨_,rfl,A.us,f.cellAt 0 rfl 13,Al.i f (λq2 N H=>?_)⟩;obtain⟨y,I⟩:=ju.open (H.fr 15 rfl);refine sR (x:=p) (by simpa using y) (by simp;omega) (I.fr 1 rfl) (λus C z s=>?_);have s:Sep E (ju us r.1::(pN A ({A with gs:=gs} :At).row (dT A.t r.1) (iN gs (S.guards++[⟨0,0,false⟩])) (ju A.us S.tree) S++L).eraseIdx 14) C:=by
   refine Sep.cG.2 ⟨by rw[z,i];simp,?_⟩;have F:r.1.map Kt.G.up=S.tree.map Kt.G.up++[p]:=by rw[i];simp
   rw[F];exact s
  have d:=s.put (q:=14) rfl;have d:Sep E (pN A ({A with gs:=gs} :At).row (dT A.t r.1) (iN gs (S.guards++[⟨0,0,false⟩])) (ju us r.1) S++L) C:=d;refine⟨_,rfl,St.i (b:=A.c) (c:=({A with gs:=gs} :At).row) (o:=13) (L:=(pN A ({A with gs:=gs} :At).row (dT A.t r.1) (iN gs (S.guards++[⟨0,0,false⟩])) (ju us r.1) S++L).eraseIdx 0) d (by simp[At.row]) (λO t=>?_)⟩;exact⟨rfl,gs,us,t⟩
 ·have e:S.cn p=(S,r.2):=by unfold Cs.cn;rw[hr];dsimp only;rw[bJ a]
  have g:r.1=S.tree:=by
   rw[<- hr]at a ⊢;unfold Kt.gh at a ⊢;split;·rfl
   ·next j=>
    rw[bJ j]at a;split;·rfl
    ·next k=>
     rw[bJ k]at a;split;·rfl
     ·next l=>rw[bJ l]at a;exact absurd rfl a
  rw[e];rw[g]at h1;exact⟨rfl,A.gs,A.us,h1⟩
end Go.Mp
namespace Go.Kc
open Go Go.Kt
def aDN{T:TS}{g:Int}:(T.eo g).Pairwise (· < ·):=by
 unfold TS.eo;rw[kL];exact(List.pairwise_lt_range.filter _).imp (λ{a b} h=>by show(a:Int)<(b:Int);omega)
def Rf{l:bA G}{g:Int}(h:(iX l g).2≠0):(iX l g).1=l:=by
 unfold iX at h ⊢;split;·rfl
 ·next a=>
  rw[bJ a]at h;split;·rfl
  ·next b=>
   rw[bJ b]at h;split;·rfl
   ·next c=>rw[bJ c]at h;exact absurd rfl h
def aFI(l:bA G)(g:Int):(iX l g).1.map G.up=l.map G.up/\(iX l g).1.length=l.length:=by
 by_cases h:(iX l g).2≠0;·rw[Rf h];exact⟨rfl,rfl⟩
 ·have h:(iX l g).2=0:=by omega
  unfold iX at h ⊢;split at h;·exact absurd h (by simp)
  ·next c=>
   rw[bJ c];split at h;·exact absurd h (by simp)
   ·next a=>
    rw[bJ a];split at h;·exact absurd h (by simp)
    ·next d=>
     rw[bJ d];have hl:ds l g=true:=by
      cases hl:ds l g with
      |true=>rfl
      |false=>exact absurd hl a
     obtain⟨n,rfl,x,hx,_⟩:=iW.1 hl;have b:=(cZ.1 hx).1;refine⟨?_,by simp⟩;rw[dA,hx,hG];apply hg;intro i;rw[hd];split;·next e=>subst e;rw[ei,bK b,eC,hx];rfl
     ·rfl
end Go.Kc
namespace Go.Mp
open Go Go.Vc Go.Sp Go.Proofs Go.Kc
variable{E:Env}{L:ct}{w:bI}{A:At}{S:Cs}
def aI2(a b:Nat)(w:bI):Sem.run P (Instr.index HX (.agg #[Pb a,Pb b]) (Iv 0)) w=.ok (Pb a) w:=by kernel_rfl
def aHs(a b:Nat)(w:bI):Sem.run P (Instr.index HX (.agg #[Pb a,Pb b]) (Iv 1)) w=.ok (Pb b) w:=by kernel_rfl
def aB0(T:TS)(l:bS)(x o:Int):T.dv (l++[x]) o=((T.dv l o).own x o).1:=by
 unfold TS.dv;rw[y1];rfl
def aEx{g:Int}(U:Kc.Inv S)(h:Sep E (cd A S++L) w):Calls P Ig #[Pb A.c,Iv g] w
  (cW E (Iv (S.remove g).2) (cd A (S.remove g).1++L)):=by
 apply VD;unfold Kq qC qD qJ qO qQ qW qZ;obtain⟨up,I⟩:∃up,Kt.pa S.tree g=up:=⟨_,rfl⟩
 obtain⟨r,hr⟩:∃r,Kt.iX S.tree g=r:=⟨_,rfl⟩
 refine⟨_,rfl,ld h 0 rfl rfl rfl (use (aGv h (q:=1) rfl) ?_)⟩;rintro _ _ ⟨rfl,rfl⟩;rw[I];refine⟨_,rfl,_,rfl,ld h 0 rfl rfl rfl (use (Go.Mp.nH U.wf (h.fr 1 rfl)) ?_)⟩;rintro _ ab ⟨rfl,h1⟩;have h1:=h1.put (q:=1) rfl;rw[hr]at h1 ⊢;refine⟨_,rfl,hJ (λhf=>?_) (λhe=>?_)⟩
 ·have e:S.remove g=(S,r.2):=by unfold Cs.remove;rw[hr];dsimp only;rw[bJ hf]
  have C:r.1=S.tree:=by rw[<- hr]at hf ⊢;exact Rf hf
  rw[C]at h1;rw[e];exact⟨rfl,h1⟩
 have B:=aFI S.tree g;rw[hr]at B;have h1:Sep E (cd A {S with tree:=r.1} ++L) ab:=by
  have e:ju A.us r.1=ju A.us S.tree:=by unfold ju;rw[B.1,B.2]
  unfold cd;simp only;rw[e];exact h1
 have e:S.remove g=({S with tree:=r.1,bt:=S.bt.dv (S.bt.eo g) up,bP:=(mV S.bP g up).1,fr:={S.fr with used:=(gj S.fr.used [g] (cT S.fr.used g)).1},sl:={S.sl with used:=(gj S.sl.used [g] (cT S.sl.used g)).1}},0):=by
  unfold Cs.remove;rw[hr,I];dsimp only;rw[bK he]
 rw[e];have u:Tp.fk S.bt 16777216:=λk hk=>by
  obtain⟨p,hp⟩:=kX.1 hk;have:=U.cH.ids _ _ hp;have:=U.ids;omega
 refine⟨_,rfl,ld h1 0 rfl rfl rfl (use (Tp.aIh g u bN (h1.fr 11 rfl)) ?_)⟩;rintro _ w2 ⟨s,ids,rfl,m,C,h2⟩;have H:(ids.filter λx=> !Tp.rr S.bt g x)=S.bt.eo g:=by
  refine Gp.Eu (r:=(· < · :Int->Int->Prop)) (λx=>Int.lt_irrefl x) (λx y z=>Int.lt_trans) (m.cX.filter _) aDN (λk=>?_);rw[gG,m.mem,A4 U.cH];unfold Tp.rr;cases S.bt.pg k with
  |none=>simp
  |some p=>simp[bne]
 rw[H]at C h2;have h2:=h2.ir (q:=11) rfl;have h2:Sep E (cd A {S with tree:=r.1} ++bw s 1 (bD (S.bt.eo g))::L) w2:=Sep.e9 (Q:=cd A {S with tree:=r.1}) h2;have hlen:(S.bt.eo g).length<=16777216:=by
  rw[<- H];exact mK (l2 _ _) (m.le u)
 obtain⟨O,aa⟩:∃O,S.bt.eo g=O:=⟨_,rfl⟩
 rw[aa]at C h2 hlen ⊢;refine⟨s,rfl,λx w'=>∃k:Nat,x=k/\k<=O.length/\Sep E (cd A {S with tree:=r.1,bt:=S.bt.dv (O.take k) up} ++bw s 1 (bD O)::L) w',λx _=>(O.length-x).toNat,⟨0,rfl,fj _,h2⟩,?_⟩;rintro _ _ ag ⟨k,rfl,hk,i⟩;refine cU (λaf=>?_) (λae=>?_)
 ·have G:k<O.length:=by omega
  obtain⟨x,hx⟩:∃x,O[k]?=some x:=⟨_,dO G⟩
  refine(Ints.at_ (q:=16) rfl C).el i k rfl hx ⟨_,rfl,ld i 0 rfl rfl rfl (use (Tp.Qq x up (i.fr 11 rfl)) ?_)⟩;rintro _ Y ⟨rfl,f⟩;have f:=f.put (q:=11) rfl;rw[dc];refine⟨_,rfl,⟨k+1,rfl,G,by rw[fL hx,aB0];exact f⟩,?_⟩;show(((O.length:Nat):Int)-((k+1:Nat):Int)).toNat<(((O.length:Nat):Int)-(k:Int)).toNat;omega
 have X:k=O.length:=by omega
 subst X;rw[gf]at i;have i:=i.cut;refine⟨_,rfl,ld i 0 rfl rfl rfl (use (Gp.aJs U.ep g up (by have:=gD U.ep;omega) (i.fr 9 rfl)) ?_)⟩;rintro _ Y ⟨rfl,f⟩;have f:=f.put (q:=9) rfl;obtain⟨T,D⟩:∃T:Cs,T= {S with tree:=r.1,bt:=S.bt.dv O up,bP:=(mV S.bP g up).1} :=⟨_,rfl⟩
 have f:Sep E (cd A T++L) Y:=by rw[D];exact f
 have V:T.fr.used=S.fr.used:=by rw[D]
 have W:T.sl.used=S.sl.used:=by rw[D]
 obtain⟨d,t⟩:∃d:Cs,d= {T with fr:={T.fr with used:=(gj S.fr.used [g] (cT S.fr.used g)).1}} :=⟨_,rfl⟩
 obtain⟨o,F⟩:∃o:Cs,o= {d with sl:={d.sl with used:=(gj S.sl.used [g] (cT S.sl.used g)).1}} :=⟨_,rfl⟩
 refine⟨_,rfl,Dr.i f (λah J=>⟨_,rfl,ld J 0 rfl rfl rfl ⟨_,rfl,ld J 0 rfl rfl rfl ?_⟩⟩)⟩;refine⟨λx w'=>(x=0/\Sep E (cd A T++L) w')\/(x=1/\Sep E (cd A d++L) w')\/(x=2/\Sep E (cd A o++L) w'),λx _=>(2-x).toNat,.inl ⟨rfl,J⟩,?_⟩;rintro _ x Z (⟨rfl,n⟩|⟨rfl,n⟩|⟨rfl,n⟩)
 ·refine bT bN ⟨some ⟨A.fu,0,none⟩,Z,aI2 _ _ _,Al.i n (λq N j=>?_)⟩;have j:Sep E (cd A T++bC q (bD [g])::L) N:=Sep.e9 j;refine use (yn j (q:=4) rfl g) ?_;rintro _ ad ⟨rfl,K⟩;refine⟨_,rfl,use (yo (s:=⟨some ⟨q,0,none⟩,1,1⟩) (l:=[g]) ((Ints.jr (L:=bC q (bD [g])::L) (b:=q) (c:=1) (gs:=[g]) (q:=0) rfl).er (A:=A) (S:=T) (q:=4) bN) (by simp) _ (K.fr 4 rfl)) ?_⟩;rintro _ R ⟨rfl,a⟩;have a:=a.put (q:=4) rfl;have a:Sep E (cd A d++bC q (bD [g])::L) R:=by rw[t,<- V];exact a
  exact⟨_,rfl,.inr (.inl ⟨bN,a.cut⟩),show((2:Int)-i64.wrap (0+1)).toNat<((2:Int)-0).toNat by decide⟩
 ·refine bT bN ⟨some ⟨A.su,0,none⟩,Z,aHs _ _ _,Al.i n (λq N j=>?_)⟩;have j:Sep E (cd A d++bC q (bD [g])::L) N:=Sep.e9 j;refine use (yn j (q:=7) rfl g) ?_;rintro _ ad ⟨rfl,K⟩;refine⟨_,rfl,use (yo (s:=⟨some ⟨q,0,none⟩,1,1⟩) (l:=[g]) ((Ints.jr (L:=bC q (bD [g])::L) (b:=q) (c:=1) (gs:=[g]) (q:=0) rfl).er (A:=A) (S:=d) (q:=7) bN) (by simp) _ (K.fr 7 rfl)) ?_⟩;rintro _ R ⟨rfl,a⟩;have a:=a.put (q:=7) rfl;have M:d.sl.used=S.sl.used:=by rw[t];exact W
  have a:Sep E (cd A o++bC q (bD [g])::L) R:=by rw[F,<- M];exact a
  exact⟨_,rfl,.inr (.inr ⟨bN,a.cut⟩),show((2:Int)-i64.wrap (1+1)).toNat<((2:Int)-1).toNat by decide⟩
 ·refine bF bN ⟨rfl,?_⟩;have:o= {S with tree:=r.1,bt:=S.bt.dv O up,bP:=(mV S.bP g up).1,fr:={S.fr with used:=(gj S.fr.used [g] (cT S.fr.used g)).1},sl:={S.sl with used:=(gj S.sl.used [g] (cT S.sl.used g)).1}} :=by
   rw[F,t,D]
  rw[this]at n;exact n
end Go.Mp
namespace Go.Kc
open Go Go.Kt
variable{S:Cs}
def Rh(t:Int)(gs:bS):∀(n:Nat) (S:Cs),da t gs (n+1) S=(((da t gs n S).1.cM t gs false).1,(da t gs n S).2+if((da t gs n S).1.cM t gs false).2 then 1 else 0)
 |0,S=>Prod.ext rfl ((Int.add_zero _).trans (zd _).symm)
 |n+1,S=>by
  have a:=Rh t gs n (S.cM t gs false).1;rw[da,a,da];rw[ot];exact⟨rfl,(Gn _ _ _).symm⟩
def Ex(t:Int)(gs:bS):∀(n:Nat) (S:Cs),0<=(da t gs n S).2/\(da t gs n S).2<=n
 |0,S=>by simp[da]
 |n+1,S=>by
  have:=Ex t gs n (S.cM t gs false).1;rw[da];dsimp only;split<;>omega
def Ri(t:Int):∀(l:bA (Int×Int)) (g k:Int) (S:Cs),cr t (l++[(g,k)]) S=((da t [g] k.toNat (cr t l S).1).1,(cr t l S).2+(da t [g] k.toNat (cr t l S).1).2)
 |[],g,k,S=>by simp[cr]
 |(x,y)::l,g,k,S=>by
  rw[o5,cr,Ri t l g k,cr];rw[ot];exact⟨rfl,(Gn _ _ _).symm⟩
def Rj(t:Int):∀(l:bA (Int×Int)) (S:Cs),(∀x∈l,0<=x.2/\x.2<=16777217)->0<=(cr t l S).2/\(cr t l S).2<=l.length*16777217
 |[],S,_=>by simp[cr]
 |(x,y)::l,S,h=>by
  have h1:=h _ (fE ..);have h2:=Rj t l (da t [x] y.toNat S).1 (λz a=>h z (fY _ a));have b:=Ex t [x] y.toNat S;rw[cr];simp only[hM]at h1 ⊢;omega
def aEZ{n:Int}{l:bS}(hr:iy n l=true){i:Nat}{x:Int}(hx:l[i]?=some x):∃p,(jk n l)[i]?=some p/\0<=p/\p<=x:=by
 have a:=(s3 hr).2.2;have d:=(a x (eI hx)).1;by_cases h:n<=0\/cj l=0
 ·have b:=(cZ.1 hx).1;refine⟨0,?_,g2 _,d⟩;rw[D2 hr h,om,bK b]
 ·have c:0<cj l:=by have:=oc (l:=l) (λy g=>(a y g).1);omega
  obtain⟨p,_,h2,e,f⟩:=rp hr c hx;exact⟨_,by rw[<- D1 hr c bu];exact h2,e,f⟩
def aDs{n:Int}{l:bS}(hr:iy n l=true):(jk n l).length=l.length:=by
 unfold jk;rw[bJ (by rw[hr];decide)];split;·simp
 ·split;·rfl
  ·exact acl hr
def aFc(G:Good S.bP)(g:Int):0<=oH S.bP g/\oH S.bP g<=16777217:=by
 have h1:=Go.Mp.gD G;have h2:0<=oH S.bP g/\oH S.bP g<=(S.bP.length:Nat):=by
  unfold oH;refine⟨bu,?_⟩;have:=l2 (λe:dw=>e.group==g) S.bP;omega
 omega
end Go.Kc
namespace Go.Mp
open Go Go.Vc Go.Sp Go.Proofs Go.Kc
variable{E:Env}{L:ct}{w:bI}{A:At}{S:Cs}
def aDb{l:bA Kt.G}{t g:Int}(h:g∈Kt.ic l t):Kt.ds l g=true:=by
 unfold Kt.ic at h;split at h
 ·unfold Kt.nS at h;obtain⟨i,a,rfl⟩:=fA.1 h;rw[gG,dy]at a;exact a.2.1
 ·cases h
def Ints.one{s:Sl}{gs:bS}{q k:Nat}{g:Int}(e:L[q]?=some (bw s 1 (bD gs)))(hn:s.n=gs.length)(a:gs[k]?=some g)(n c:Nat)(h1:n=1):Ints E L ⟨gi s.p k s.c 1,n,c⟩ [g]:=by
 subst h1;refine⟨rfl,λw h i x hx=>?_⟩;have hk:=(cZ.1 a).1
 match i,hx with
 |0,hx=>
  simp at hx;subst hx;obtain⟨b,spare,hp,h1,h2,f,d⟩:=bw.im (h.fr q e) bu;have hl:(bD gs).length=gs.length:=by simp
  refine⟨⟨b,k,none⟩,?_,?_⟩
  ·unfold gi;rw[cD,hp];show some _=some _;congr 1;show(⟨b,0,none⟩:Addr).add (k*1)=_;rw[cf];congr 1;omega
  ·rw[cf,lK,bw.cell d bu,x3,a];rfl
 |i+1,hx=>simp at hx
def aGw{t n:Int}(J:Kc.Inv S)(h:Sep E (cd A S++L) w):Calls P Ik #[Pb A.c,Iv t,Iv n] w
  (cW E (Iv (S.shrink t n).2) (cd A (S.shrink t n).1++L)):=by
 apply VG;unfold Ku qD qF qI qJ qO qQ qW qZ qg qh qm;have ad:S.guards.length<=64:=by rw[J.gl];exact J.wf.fk
 have ai:(S.live t=false\/n<1\/1000<n)->S.shrink t n=(S,0):=by intro aF;unfold Cs.shrink;rw[bK aF]
 refine⟨λw'=>S.live t=true/\1<=n/\n<=1000/\Sep E (cd A S++L) w',⟨_,rfl,ld h 0 rfl rfl rfl (use (kC h (q:=1) rfl) ?_)⟩,?_⟩
 ·rintro _ _ ⟨rfl,rfl⟩;refine⟨_,rfl,cv (λaH=>?_) (λB=>?_)⟩
  ·have aH:Kt.ds S.tree t=false:=by simpa using aH
   rw[ai (.inl aH)];exact⟨rfl,h⟩
  ·have B:Kt.ds S.tree t=true:=by simpa using B
   refine cU (λaJ=>?_) (λaJ=>fZ (λd=>?_) (λd=>⟨B,bu,bu,h⟩));·rw[ai (.inr (.inl aJ))];exact⟨rfl,h⟩
   ·rw[ai (.inr (.inr d))];exact⟨rfl,h⟩
 rintro _ bf ⟨B,bc,bd,h1⟩;obtain⟨In,hIn⟩:∃In,Kt.ic S.tree t=In:=⟨_,rfl⟩
 obtain⟨mn,ah⟩:∃mn,S.held t eD.min=mn:=⟨_,rfl⟩
 obtain⟨lw,ag⟩:∃lw,S.held t eD.low=lw:=⟨_,rfl⟩
 have bb:mn.length=S.guards.length:=by rw[<- ah];exact vp _ _
 have ba:lw.length=S.guards.length:=by rw[<- ag];exact vp _ _
 have a5:In.length<=64:=by rw[<- hIn];exact yC J.wf t
 have aA:∀g∈In,0<=g/\g<S.guards.length:=λg e=>by rw[J.gl];exact Ev (aDb (by rw[hIn];exact e))
 refine⟨_,rfl,ld h1 0 rfl rfl rfl (use (u3 J.wf (h1.fr 1 rfl)) ?_)⟩;rintro _ w2 ⟨a,rfl,N,h2⟩;rw[hIn]at N h2;have h2:=h2.ir (q:=1) rfl;have h2:Sep E (cd A S++bw a 1 (bD In)::L) w2:=Sep.e9 (Q:=cd A S) h2;refine⟨a,rfl,use (yw QM J.gl ad J.jW h2) ?_⟩;rintro _ bg ⟨I,rfl,aw,aK⟩;rw[ah]at aw aK;refine⟨I,rfl,use (yw QN J.gl ad J.jW aK) ?_⟩;rintro _ bh ⟨sl,rfl,av,aL⟩;rw[ag]at av aL;refine⟨sl,rfl,s0 (n:=a.n) bu aL (λO a4 ax R=>?_)⟩;rw[N]at ax R;have R:Sep E (cd A S++bw O 1 (bD (List.replicate In.length 0))::bw sl 1 (ea lw)::bw I 1 (ea mn)::bw a 1 (bD In)::L) a4:=Sep.e9 (Q:=cd A S) R;obtain⟨W,aD⟩:∃W,S.weights t=W:=⟨_,rfl⟩
 have K:W.length=In.length:=by rw[<- aD,<- hIn];simp[Cs.weights]
 have H:∀(k:Nat) (g:Int),In[k]?=some g->W[k]?=some (if hA mn g=false/\hA lw g=false then oH S.bP g else 0):=by
  intro k g e;rw[<- aD];unfold Cs.weights;rw[hIn,eC,e,ah,ag];rfl
 have X:∀x∈W,0<=x/\x<=16777217:=by
  intro x hx;obtain⟨k,hk⟩:=pW.1 hx;have M:=(cZ.1 hk).1;obtain⟨g,e⟩:∃g,In[k]?=some g:=⟨_,dP⟩
  rw[H k g e]at hk;cases hk;have:=aFc J.ep g;split<;>omega
 obtain⟨Z,Y⟩:∃Z:Nat->bS,Z= λk=>W.take k++List.replicate (In.length-k) 0:=⟨_,rfl⟩
 have an:∀k,k<=In.length->(Z k).length=In.length:=λk hk=>by rw[Y];simp[K];omega
 have aR:Z 0=List.replicate In.length 0:=by rw[Y];simp
 have aS:Z In.length=W:=by rw[Y];simp only;rw[iV,<- K,gf];simp
 have aT:∀(k:Nat) (x:Int),W[k]?=some x->k<In.length->(Z k).set k x=Z (k+1):=by
  intro k x hx hk;rw[Y];simp only;rw[fL hx,jx k _ (by simp;omega),dj];congr 1;rw[hF,K,o6 bu,iV,show In.length-k=(In.length-(k+1))+1 by omega,oo];rfl
 have aE:∀k:Nat,W[k]?=some 0->k<In.length->Z k=Z (k+1):=by
  intro k hx hk;rw[Y];simp only;rw[fL hx,dj];congr 1;rw[show In.length-k=(In.length-(k+1))+1 by omega,oo];rfl
 rw[<- aR]at R;refine⟨λx w'=>∃k:Nat,x=k/\k<=In.length/\Sep E (cd A S++bw O 1 (bD (Z k))::bw sl 1 (ea lw)::bw I 1 (ea mn)::bw a 1 (bD In)::L) w',λx _=>(In.length-x).toNat,⟨0,rfl,fj _,R⟩,?_⟩;rintro _ _ bi ⟨k,rfl,hk,G⟩;refine cU (λM=>?_) (λaq=>?_)
 ·have l:k<In.length:=by omega
  obtain⟨g,e⟩:∃g,In[k]?=some g:=⟨_,dO l⟩
  have ap:=aA g (eI e);have o:(((In.length:Nat):Int)-((k+1:Nat):Int)).toNat<(((In.length:Nat):Int)-(k:Int)).toNat:=by omega
  refine(Ints.at_ (q:=19) rfl N).el G k rfl e ?_;refine⟨λb w'=>(b=true↔(hA mn g=false/\hA lw g=false))/\Sep E (cd A S++bw O 1 (bD (Z k))::bw sl 1 (ea lw)::bw I 1 (ea mn)::bw a 1 (bD In)::L) w',
   vo 18 G rfl aw ap.1 bu (cv (λhb=>vo 17 G rfl av ap.1 bu ⟨?_,G⟩) (λhb=>⟨?_,G⟩)),?_⟩
  ·have hb:hA mn g=false:=by simpa using hb
   simp[hb]
  ·have hb:hA mn g=true:=by simpa using hb
   simp[hb]
  rintro _ b aI ⟨hb,f⟩;refine cv (λaV=>?_) (λaU=>?_)
  ·refine⟨_,rfl,ld f 0 rfl rfl rfl (use (Gp.aH9 J.ep g (by have:=gD J.ep;omega) (f.fr 9 rfl)) ?_)⟩;rintro _ aZ ⟨rfl,i⟩;have i:=i.put (q:=9) rfl;have i:Sep E (cd A S++bw O 1 (bD (Z k))::bw sl 1 (ea lw)::bw I 1 (ea mn)::bw a 1 (bD In)::L) aZ:=i;have hx:=H k g e;rw[bK (hb.1 aV)]at hx;refine⟨_,rfl,kE (i.fr 16 rfl) (by rw[an k hk];exact ax) bu (by rw[an k hk];omega) (λa0 d=>?_)⟩;rw[dA,aT k _ hx l]at d;have d:=d.put (q:=16) rfl;rw[dc];exact⟨⟨k+1,rfl,l,d⟩,o⟩
  ·have hx:=H k g e;rw[bJ (by rw[<- hb,aU];decide)]at hx;rw[aE k hx l]at f;rw[dc];exact⟨⟨k+1,rfl,l,f⟩,o⟩
 have af:k=In.length:=by omega
 subst af;rw[aS]at G;have D:iy n W=true:=by
  unfold iy;rw[dF (show 0<=n by omega),dF (show n<=1048576 by omega),dF (show W.length<=64 by omega)];refine fQ.2 (λx hx=>?_);have:=X x hx;have:=ob;rw[dF (show 0<=x by omega),dF (show x<=top by omega)];rfl
 refine use (aGq bu bu (G.fr 16 rfl)) ?_;rintro _ aI ⟨am,rfl,au,f⟩;have f:=f.ir (q:=16) rfl;have f:Sep E (cd A S++bw am 1 (bD (jk n W))::bw O 1 (bD W)::bw sl 1 (ea lw)::bw I 1 (ea mn)::bw a 1 (bD In)::L) aI:=Sep.e9 (Q:=cd A S) f;obtain⟨C,ak⟩:∃C,jk n W=C:=⟨_,rfl⟩
 have aM:C.length=In.length:=by rw[<- ak,aDs D,K]
 have V:∀(k:Nat) (p:Int),C[k]?=some p->0<=p/\p<=16777217:=by
  intro k p hp;have M:=(cZ.1 hp).1;obtain⟨x,hx⟩:∃x,W[k]?=some x:=⟨_,dP⟩
  obtain⟨p',ar,i,d⟩:=aEZ D hx;rw[ak,hp]at ar;cases ar;have:=X x (eI hx);omega
 rw[ak]at f au;obtain⟨r,s⟩:∃r,r=bw am 1 (bD C)::bw O 1 (bD W)::bw sl 1 (ea lw)::bw I 1 (ea mn)::bw a 1 (bD In)::L:=⟨_,rfl⟩
 have aO:Ints E r am C:=by rw[s];exact Ints.row au
 have ab:∀ {T:Cs} {w:bI},Sep E (cd A T++r) w->Sep E (cd A T++L) w:=λaj=>by rw[s]at aj;exact aj.cut.cut.cut.cut.cut
 have aG:∀ {T:Cs} {w:bI},Sep E (cd A T++r) w->a.n<=a.c:=λaj=>by rw[s]at aj;exact bw.cap (aj.fr 20 rfl)
 have aP:∀(k:Nat) (g:Int) (m c:Nat),In[k]?=some g->m=1->Ints E r ⟨gi a.p k a.c 1,m,c⟩ [g]:=λk g m c e hm=>Ints.one (q:=4) (by rw[s];rfl) N e m c hm;have f:Sep E (cd A S++r) aI:=by rw[s];exact f
 clear s;obtain⟨Q,al⟩:∃Q,In.zip C=Q:=⟨_,rfl⟩
 have a6:Q.length=In.length:=by rw[<- al,List.length_zip,aM,Nat.min_self]
 have aB:∀x∈Q,0<=x.2/\x.2<=16777217:=by
  intro x hx;rw[<- al]at hx;obtain⟨k,hk⟩:=pW.1 (List.of_mem_zip hx).2;exact V k _ hk
 have az:S.shrink t n=((dB t (n-(cr t Q S).2).toNat (cr t Q S).1).1,(cr t Q S).2+(dB t (n-(cr t Q S).2).toNat (cr t Q S).1).2):=by
  unfold Cs.shrink;rw[bJ (by rw[B];simp;omega),hIn,aD,ak,al]
 rw[az];have aa:=λk=>Rj t (Q.take k) S (λx hx=>aB x (nP hx));refine⟨am,rfl,λdM x w'=>∃k:Nat,x=k/\k<=C.length/\dM=(cr t (Q.take k) S).2/\Sep E (cd A (cr t (Q.take k) S).1++r) w',λ_ x _=>(C.length-x).toNat,⟨0,rfl,fj _,rfl,f⟩,?_⟩;rintro _ _ _ aZ ⟨k,rfl,hk,rfl,i⟩;refine cU (λM=>?_) (λaq=>?_)
 ·have l:k<C.length:=by omega
  obtain⟨p,hp⟩:∃p,C[k]?=some p:=⟨_,dO l⟩
  obtain⟨g,e⟩:∃g,In[k]?=some g:=⟨_,dP⟩
  have a3:=V k p hp;have aX:Q[k]?=some (g,p):=by rw[<- al,List.getElem?_zip_eq_some];exact⟨e,hp⟩
  have F:=Ri t (Q.take k) g p S;rw[<- fL aX]at F;have z:Kc.Inv (cr t (Q.take k) S).1:=Inv.cr _ J;have aF:=aa k;have a8:(Q.take k).length<=64:=by rw[hF];omega
  obtain⟨T,aC⟩:∃T,cr t (Q.take k) S=T:=⟨_,rfl⟩
  rw[aC]at F z i aF ⊢;refine aO.pre.el i k rfl hp ?_;refine⟨λdM x w'=>∃j:Nat,x=j/\(j:Int)<=p/\dM=T.2+(da t [g] j T.1).2/\Sep E (cd A (da t [g] j T.1).1++r) w',λ_ x _=>(p-x).toNat,⟨0,rfl,bu,(Int.add_zero _).symm,i⟩,?_⟩;rintro _ _ _ a0 ⟨j,rfl,be,rfl,d⟩;have a7:=Ex t [g] j T.1;refine cU (λae=>?_) (λae=>?_)
  ·have a9:=aG d;have aN:Kc.Inv (da t [g] j T.1).1:=Inv.da _ z;rw[dc (k:=k) bu];refine⟨⟨bu,bu⟩,⟨bu,bu⟩,use (Q3 aN (t:=t) (all:=false) (sg:=⟨gi a.p ((k:Nat):Int).toNat a.c 1,(((k+1:Nat):Int)).toNat-((k:Nat):Int).toNat,a.c-((k:Nat):Int).toNat⟩) (gs:=[g]) ?_ (by simp) d) ?_⟩
   ·rw[dA];exact aP k g _ _ e bu
   rintro _ aY ⟨rfl,y⟩;have u:=Rh t [g] j T.1;have o:(p-((j+1:Nat):Int)).toNat<(p-(j:Int)).toNat:=by omega
   refine⟨_,rfl,cv (λhr=>?_) (λhr=>?_)⟩
   ·rw[hr,bK rfl]at u;rw[dc,cP bu bu];exact⟨⟨j+1,rfl,bu,by rw[u,Gn],by rw[u];exact y⟩,o⟩
   ·rw[hr]at u;rw[dc];exact⟨⟨j+1,rfl,bu,by rw[u];simp,by rw[u];exact y⟩,o⟩
  ·have ae:p.toNat=j:=by omega
   rw[ae]at F;rw[dc];refine⟨⟨k+1,rfl,l,by rw[F],by rw[F];exact d⟩,?_⟩;show(((C.length:Nat):Int)-((k+1:Nat):Int)).toNat<(((C.length:Nat):Int)-(k:Int)).toNat;omega
 have af:k=Q.length:=by omega
 have ao:=aa k;rw[af,gf]at i ao ⊢;have z:Kc.Inv (cr t Q S).1:=Inv.cr _ J;obtain⟨T,aC⟩:∃T,cr t Q S=T:=⟨_,rfl⟩
 rw[aC]at i z ao ⊢;refine⟨λdM w'=>∃U:Cs,Kc.Inv U/\T.2<=dM/\(T.2<dM->dM<=n)/\dB t (n-T.2).toNat T.1=((dB t (n-dM).toNat U).1,(dM-T.2)+(dB t (n-dM).toNat U).2)/\Sep E (cd A U++r) w',λdM _=>(n-dM).toNat,⟨T.1,z,g2 _,λa1=>absurd a1 bu,Prod.ext rfl (by simp),i⟩,?_⟩;rintro _ dM a0 ⟨U,aQ,hle,a2,he,d⟩;refine cU (λM=>?_) (λaq=>?_)
 ·obtain⟨m,hm⟩:∃m,(n-dM).toNat=m+1:=⟨(n-dM).toNat-1,bu⟩
  rw[hm]at he;have aW:(n-(dM+1)).toNat=m:=by omega
  refine use (Q4 aQ (t:=t) d) ?_;rintro _ aY ⟨rfl,y⟩;refine⟨_,rfl,cv (λhr=>?_) (λhr=>?_)⟩
  ·have ay:dB t (m+1) U=((dB t m (U.c1 t).1).1,1+(dB t m (U.c1 t).1).2):=by rw[dB];rw[bK hr]
   rw[cP bu bu];refine⟨⟨(U.c1 t).1,aQ.c1 t,bu,λ_=>bu,?_,y⟩,by show(n-(dM+1)).toNat<(n-dM).toNat;omega⟩;rw[he,aW,ay];refine Prod.ext rfl ?_;show dM-T.2+(1+_)=dM+1-T.2+_;omega
  ·have ay:dB t (m+1) U=((U.c1 t).1,0):=by rw[dB];rw[bJ (by rw[hr];decide)]
   rw[he,ay];exact⟨by show Value.int .i64 dM=Value.int .i64 (T.2+(dM-T.2+0));congr 1;omega,ab y⟩
 ·have hm:(n-dM).toNat=0:=by omega
  rw[hm]at he;rw[he];exact⟨by show Value.int .i64 dM=Value.int .i64 (T.2+(dM-T.2+0));congr 1;omega,ab d⟩
end Go.Mp
namespace Go.Mp
open Go Go.Vc Go.Sp Go.Proofs
variable{E:Env}{L:ct}{w W:bI}
noncomputable def gZ:cb Oper:=((f34.body.bind (vq 1)).getD #[])
def aKv:Oper:={dst:=none,op:=.assign (.const (.pointer none)),type:=0,pos:= "",after:= #[],guard:=none}
noncomputable def Ey(i:Nat):Oper:=(gZ[i]?).getD aKv
def ru:dQ:={fork:=λr=>Nat.beq r 1}
noncomputable def T0C(fr sl:Int)(sz:Sl):Tr:=(ji [Iv fr,Iv sl,Sv sz] 0 .nil).put (some 6) (.pointer none)
def Rk(K:bf9):Exit->Tr->bf8:=mP (vc P fG gM cx ru 998 .ret (oB P fG [.tmp 6] K (λ_ _=>False))) (oB P fG [.tmp 6] K (λ_ _=>False))
def aI7{P:cN}{τ:cc->K1}{ρ:cc->Kd}{cx:bg5->Bool}{A:dQ}{n i j:Nat}{a ops:cb Oper}{Q:Exit->Tr->bf8}{T:Tr}{w:bI}(h1:A.join j=none)(h2:A.sig j=none)(f:A.fork j=true):
  vc P τ ρ cx A (n+3) (.seq (.region i a false) (.seq (.region j ops true) .ret)) Q T w=
   k4 P τ ρ cx A a (mP (λT w=>Dr (λw'=>gS P τ ρ cx A ops (mP (vc P τ ρ cx A (n+1) .ret Q) Q) ops.size (Array.replicate ops.size false) T w') w) Q) a.toList T w:=by
 have b:tX A (.seq (.region j ops true) .ret)=none:=by simp[tX,l9,h1]
 have c:tX A .ret=none:=rfl;have d:∀T w,vc P τ ρ cx A (n+2) (.seq (.region j ops true) .ret) Q T w=Dr (λw'=>gS P τ ρ cx A ops (mP (vc P τ ρ cx A (n+1) .ret Q) Q) ops.size (Array.replicate ops.size false) T w') w:=by
  intro T w;rw[vc];simp only[c];rw[vc];unfold tW;simp only[h2,f,hH]
 rw[vc];simp only[b];rw[vc];unfold tW;dsimp only;have e:vc P τ ρ cx A (n+2) (.seq (.region j ops true) .ret) Q= λT w=>Dr (λw'=>gS P τ ρ cx A ops (mP (vc P τ ρ cx A (n+1) .ret Q) Q) ops.size (Array.replicate ops.size false) T w') w:=by
  funext T w;exact d T w
 rw[e]
noncomputable def Ez:cb Oper:=((f34.body.bind (vq 0)).getD #[])
def azc:f34.body=some (.seq (.region 0 Ez false) (.seq (.region 1 gZ true) .ret)):=by kernel_rfl
def aA9:f34.results= #[.tmp 6]:=by kernel_rfl
def ayj(next:Tr->bf8)(Q:Exit->Tr->bf8)(T:Tr)(w:bI):k4 P fG gM cx ru Ez (mP next Q) Ez.toList T w=next (T.put (some 6) (.pointer none)) w:=by kernel_rfl
def aB8(fr sl:Int)(sz:Sl)(K:bf9)(w:bI):
  kp P fG gM cx ru f34 #[Iv fr,Iv sl,Sv sz] K (λ_ _=>False) w=Dr (λw'=>gS P fG gM cx ru gZ (Rk K) gZ.size (Array.replicate gZ.size false) (T0C fr sl sz) w') w:=by
 unfold kp;rw[azc,aA9];dsimp only;rw[show(1000:Nat)=997+3 from rfl,aI7 rfl rfl rfl,ayj];rfl
def aBZ:k7 P ru f34 3=true:=by kernel_rfl
def aA2:ee gZ=true:=by decide+kernel
def vu:gZ.size=16:=by kernel_rfl
def aAv(K:bf9)(T:Tr)(w:bI):Rk K .normal T w=K (T.get 6) w:=by kernel_rfl
variable(T:Tr)(next:Tr->bf8)(Q:Exit->Tr->bf8)
abbrev g0(i:Nat):=ng P fG gM cx ru (Ey i) T w next Q
def EA:g0 (w:=w) T next Q 0=Calls P Bo #[] w λe w'=>∃p:ch,e=.returned (.pointer p)/\next (T.put (some 7) (.pointer p)) w':=by kernel_rfl
def EB:g0 (w:=w) T next Q 1=next (T.put (some 8) (T.get 0)) w:=by kernel_rfl
def EC:g0 (w:=w) T next Q 2=Calls P uB #[T.get 8] w λe w'=>∃a b c:ch,e=.returned (.agg #[.pointer a,.pointer b,.pointer c])/\next (T.put (some 9) (.agg #[.pointer a,.pointer b,.pointer c])) w':=by kernel_rfl
def ED:g0 (w:=w) T next Q 3=next (T.put (some 10) (T.get 1)) w:=by kernel_rfl
def EE:g0 (w:=w) T next Q 4=Calls P uB #[T.get 10] w λe w'=>∃a b c:ch,e=.returned (.agg #[.pointer a,.pointer b,.pointer c])/\next (T.put (some 11) (.agg #[.pointer a,.pointer b,.pointer c])) w':=by kernel_rfl
def EF:g0 (w:=w) T next Q 5=next (T.put (some 12) (T.get 2)) w:=by kernel_rfl
def EG:g0 (w:=w) T next Q 6=Calls P Bp #[T.get 12] w λe w'=>∃p:ch,e=.returned (.pointer p)/\next (T.put (some 13) (.pointer p)) w':=by kernel_rfl
def EH:g0 (w:=w) T next Q 7=Calls P Bq #[] w λe w'=>∃p:ch,e=.returned (.pointer p)/\next (T.put (some 14) (.pointer p)) w':=by kernel_rfl
def EI:g0 (w:=w) T next Q 8=Calls P Br #[] w λe w'=>∃p:ch,e=.returned (.pointer p)/\next (T.put (some 15) (.pointer p)) w':=by kernel_rfl
def EJ:g0 (w:=w) T next Q 9=Calls P Bs #[] w λe w'=>∃p:ch,e=.returned (.pointer p)/\next (T.put (some 16) (.pointer p)) w':=by kernel_rfl
def aKp:g0 (w:=w) T next Q 10=mL (λq=>next (T.put (some 17) (.map (some q)))) w:=by kernel_rfl
def aKq:g0 (w:=w) T next Q 11=∃x:Sl,∃w',Sem.run P (Instr.makeSlice se (Iv 1) (Iv 1)) w=.ok (Sv x) w'/\next (T.put (some 18) (Sv x)) w':=by kernel_rfl
def aKr:g0 (w:=w) T next Q 12=Al (.cells #[Iv (-1)] 3) (λq=>next (T.put (some 19) (.slice (some q) 1 1))) w:=by kernel_rfl
def aKt:g0 (w:=w) T next Q 14=Al (.cells (T.get 20).cells Bg) (λq=>next (T.put (some 21) (.pointer (some q)))) w:=by kernel_rfl
def aKu:g0 (w:=w) T next Q 15=next (T.put (some 6) (T.get 21)) w:=by kernel_rfl
end Go.Mp
namespace Go.Mp
open Go Go.Vc Go.Sp Go.Proofs
variable{E:Env}{L:ct}{w W:bI}
def vv(t a b1 c b b2 d f g lg pg:ch)(m:bV Nat)(gs up:Sl):bA bE:=
 [.pointer t,.pointer a,.pointer b1,.pointer c,.pointer b,.pointer b2,.pointer d,.pointer f,.pointer g,.pointer lg,.pointer pg,.map m,Sv gs,Sv up]
def aKs(T:Tr)(next:Tr->bf8)(Q:Exit->Tr->bf8):g0 (w:=w) T next Q 13=tP P Bg #[(0,T.get 7),(1,T.get 9),(2,T.get 11),(3,T.get 13),(4,T.get 14),(5,T.get 15),(6,T.get 16),(7,T.get 17),(8,T.get 18),(9,T.get 19)] (λv=>next (T.put (some 20) v) w):=by kernel_rfl
def aE4(t a b1 c b b2 d f g lg pg:ch)(m:bV Nat)(gs up:Sl)(F:bE->Prop):
  tP P Bg #[(0,.pointer t),(1,.agg #[.pointer a,.pointer b1,.pointer c]),(2,.agg #[.pointer b,.pointer b2,.pointer d]),(3,.pointer f),(4,.pointer g),(5,.pointer lg),(6,.pointer pg),(7,.map m),(8,Sv gs),(9,Sv up)] F
   =F (.agg (vv t a b1 c b b2 d f g lg pg m gs up).toArray):=by kernel_rfl
def lA:bA Nat:=[7,8,9,10,11,12,13,14,15,16,17,18,19,20,21,6]
def aAo:(List.range 16).map (e5 gZ)=lA:=by decide+kernel
def EK{i:Nat}(h:i<16):some (e5 gZ i)=lA[i]? :=by
 rw[<- aAo,eC,na h];rfl
def kV{i d:Nat}(h:lA[i]?=some d):e5 gZ i=d:=by
 have a:i<16:=(cZ.1 h).1;have:=EK a;rw[h]at this;exact cR this
def yF(ops:cb Oper)(i j:Nat):Bool:=match ops[i]? with
 |some o=>o.after.toList.any λe=>Region.binds .any e&&Nat.beq e.on j
 |none=>false
def Rl{ops:cb Oper}{i j:Nat}(h:yF ops i j=true):waits ops i j:=by
 unfold yF at h;split at h
 ·next o ho=>
  obtain⟨e,he,h2⟩:=tA.1 h;rw[dy]at h2;exact⟨o,ho,e,he,h2.1,m9 h2.2⟩
 ·cases h
def oV:bA (bA Nat):=[[7],[8],[9],[10],[11],[12],[13],[14],[15],[16],[17],[18],[19],[20,7,9,11,13,14,15,16,17,18,19],[21,20],[6,21]]
def aBr:((List.range 16).all λi=>(List.range 16).all λj=>Nat.beq i j||yF gZ i j|| !((oV.getD i []).contains (lA.getD j 0)))=true:=by decide+kernel
def Rm{i j:Nat}{T:Tr}{v:bE}(h:i<16)(c:j<16)(g:i≠j)(hw:¬ waits gZ i j):∀s∈oV.getD i [],(T.put (some (e5 gZ j)) v).get s=T.get s:=by
 intro s k;have h1:=fQ.1 (fQ.1 aBr i (gn.2 h)) j (gn.2 c);simp only[jI,ib]at h1;have a:=EK c;have b:lA.getD j 0=e5 gZ j:=by rw[dJ,<- a];rfl
 rw[b]at h1;have f:e5 gZ j<8000:=by
  have:∀d∈lA,d<8000:=by decide
  exact this _ (eI a.symm)
 rw[Tr.dK _ _ _ _ f];split
 ·next e=>
  subst e;rcases h1 with(h1|h1)|h1;·exact absurd (m9 h1) g
  ·exact absurd (Rl h1) hw
  ·have:=kZ.2 k;rw[h1]at this;cases this
 ·rfl
def vw(v c:bE):Asn:=fa λb=>cG (v=Pb b) (bC b c.cells.toList)
def od(v:bE):Prop:=∃p:ch,v=.pointer p
def vx(v:bE):Prop:=∃a b c:ch,v=.agg #[.pointer a,.pointer b,.pointer c]
noncomputable def FC(fr sl:Int)(sz:Sl):Nat->Tr->Prop
 |1,T=>T.get 8=Iv fr
 |2,T=>vx (T.get 9)
 |3,T=>T.get 10=Iv sl
 |4,T=>vx (T.get 11)
 |5,T=>T.get 12=Sv sz
 |0,T=>od (T.get 7)
 |6,T=>od (T.get 13)
 |7,T=>od (T.get 14)
 |8,T=>od (T.get 15)
 |9,T=>od (T.get 16)
 |10,T=>∃m:bV Nat,T.get 17=.map m
 |11,T=>∃s:Sl,T.get 18=Sv s
 |12,T=>∃s:Sl,T.get 19=Sv s
 |13,T=>∃t a b1 d c b2 e f g lg pg m gs up,T.get 7=.pointer t/\T.get 9=.agg #[.pointer a,.pointer b1,.pointer d]/\T.get 11=.agg #[.pointer c,.pointer b2,.pointer e]/\T.get 13=.pointer f/\T.get 14=.pointer g/\
   T.get 15=.pointer lg/\T.get 16=.pointer pg/\T.get 17=.map m/\T.get 18=Sv gs/\T.get 19=Sv up/\T.get 20=.agg (vv t a b1 d c b2 e f g lg pg m gs up).toArray
 |14,T=>∃b,T.get 21=Pb b
 |15,T=>T.get 6=T.get 21
 |_,_=>False
noncomputable def OC(O:Nat->bE->ct):Nat->Tr->ct
 |0,T=>O 0 (T.get 7)
 |2,T=>O 1 (T.get 9)
 |4,T=>O 2 (T.get 11)
 |6,T=>O 3 (T.get 13)
 |7,T=>O 4 (T.get 14)
 |8,T=>O 5 (T.get 15)
 |9,T=>O 6 (T.get 16)
 |10,T=>O 7 (T.get 17)
 |11,T=>O 8 (T.get 18)
 |12,T=>O 9 (T.get 19)
 |14,T=>[vw (T.get 21) (T.get 20)]
 |_,_=>[]
def aKa{fr sl:Int}{sz:Sl}{i:Nat}{T T':Tr}(a:i<16)(h:∀s∈oV.getD i [],T'.get s=T.get s):FC fr sl sz i T->FC fr sl sz i T':=by
 match i,a with
 |0,_=>simp only[FC];rw[h 7 bN];exact id
 |1,_=>simp only[FC];rw[h 8 bN];exact id
 |2,_=>simp only[FC];rw[h 9 bN];exact id
 |3,_=>simp only[FC];rw[h 10 bN];exact id
 |4,_=>simp only[FC];rw[h 11 bN];exact id
 |5,_=>simp only[FC];rw[h 12 bN];exact id
 |6,_=>simp only[FC];rw[h 13 bN];exact id
 |7,_=>simp only[FC];rw[h 14 bN];exact id
 |8,_=>simp only[FC];rw[h 15 bN];exact id
 |9,_=>simp only[FC];rw[h 16 bN];exact id
 |10,_=>simp only[FC];rw[h 17 bN];exact id
 |11,_=>simp only[FC];rw[h 18 bN];exact id
 |12,_=>simp only[FC];rw[h 19 bN];exact id
 |13,_=>simp only[FC];rw[h 7 bN,h 9 bN,h 11 bN,h 13 bN,h 14 bN,h 15 bN,h 16 bN,h 17 bN,h 18 bN,h 19 bN,h 20 bN];exact id
 |14,_=>simp only[FC];rw[h 21 bN];exact id
 |15,_=>simp only[FC];rw[h 6 bN,h 21 bN];exact id
 |n+16,a=>exact absurd a bu
def aKb{O:Nat->bE->ct}{i:Nat}{T T':Tr}(a:i<16)(h:∀s∈oV.getD i [],T'.get s=T.get s):OC O i T'=OC O i T:=by
 match i,a with
 |0,_=>simp only[OC];rw[h 7 bN]
 |1,_=>rfl
 |2,_=>simp only[OC];rw[h 9 bN]
 |3,_=>rfl
 |4,_=>simp only[OC];rw[h 11 bN]
 |5,_=>rfl
 |6,_=>simp only[OC];rw[h 13 bN]
 |7,_=>simp only[OC];rw[h 14 bN]
 |8,_=>simp only[OC];rw[h 15 bN]
 |9,_=>simp only[OC];rw[h 16 bN]
 |10,_=>simp only[OC];rw[h 17 bN]
 |11,_=>simp only[OC];rw[h 18 bN]
 |12,_=>simp only[OC];rw[h 19 bN]
 |13,_=>rfl
 |14,_=>simp only[OC];rw[h 21 bN,h 20 bN]
 |15,_=>rfl
 |n+16,a=>exact absurd a bu
structure pO(E:Env)(L0:ct)(fr sl:Int)(sz:Sl)(O:Nat->bE->ct):Prop where
 tree:∀ {L w},Sep E L w->Calls P Bo #[] w (cz λv w'=>od v/\Sep E (O 0 v++L) w')
 cC:∀ {L w},Sep E L w->Calls P uB #[Iv fr] w (cz λv w'=>vx v/\Sep E (O 1 v++L) w')
 cV:∀ {L w},Sep E L w->Calls P uB #[Iv sl] w (cz λv w'=>vx v/\Sep E (O 2 v++L) w')
 files:∀ {R w},Sep E (R++L0) w->Calls P Bp #[Sv sz] w (cz λv w'=>od v/\Sep E (O 3 v++(R++L0)) w')
 bP:∀ {L w},Sep E L w->Calls P Bq #[] w (cz λv w'=>od v/\Sep E (O 4 v++L) w')
 log:∀ {L w},Sep E L w->Calls P Br #[] w (cz λv w'=>od v/\Sep E (O 5 v++L) w')
 bt:∀ {L w},Sep E L w->Calls P Bs #[] w (cz λv w'=>od v/\Sep E (O 6 v++L) w')
 kept:∀ {L w b},Sep E (cE b (Value.int .i64) (λ_=>none)::L) w->Sep E (O 7 (.map (some b))++L) w
 guards:∀ {L w b},Sep E (bC b [Iv 0,Iv 0,.bool false]::L) w->Sep E (O 8 (.slice (some ⟨b,0,none⟩) 1 1)++L) w
 up:∀ {L w b},Sep E (bC b [Iv (-1)]::L) w->Sep E (O 9 (.slice (some ⟨b,0,none⟩) 1 1)++L) w
def hT(T:Tr)(d:Nat)(v:bE)(h:d<8000):(T.put (some d) v).get d=v:=by rw[Tr.dK _ _ _ _ h,bK rfl]
def lB(T:Tr){d s:Nat}(v:bE)(h:d<8000)(a:s≠d):(T.put (some d) v).get s=T.get s:=by rw[Tr.dK _ _ _ _ h,bJ a]
def aFA{α:Type _}(A L:bA α)(x:α):((A++[x])++L).Perm (x::(A++L)):=by
 rw[dj];exact jf
def aDl{fr sl:Int}{sz:Sl}{O:Nat->bE->ct}(H:pO E L fr sl sz O)(h:Sep E L w):Calls P Bl #[Iv fr,Iv sl,Sv sz] w (cz λv w'=>
  ∃b t G b1 J I b2 K f g lg pg m gs up,v=Pb b/\Sep E (bC b (vv t G b1 J I b2 K f g lg pg m gs up)::
   (O 0 (.pointer t)++(O 1 (.agg #[.pointer G,.pointer b1,.pointer J])++(O 2 (.agg #[.pointer I,.pointer b2,.pointer K])++(O 3 (.pointer f)++(O 4 (.pointer g)++(O 5 (.pointer lg)++(O 6 (.pointer pg)++(O 7 (.map m)++
    (O 8 (Sv gs)++(O 9 (Sv up)++L))))))))))) w'):=by
 refine AG (τ:=fG) (ρ:=gM) (cx:=cx) (A:=ru) mixed func34 aBZ ?_;rw[aB8];refine Dr.i h (λan h1=>?_);refine aHy (λT=>T.get 0=Iv fr/\T.get 1=Iv sl/\T.get 2=Sv sz) (FC fr sl sz) (OC O) aA2 ?_ ?_ ?_ ?_ ?_ ?_ h1
 ·rintro T i v r ⟨e0,ae,af⟩;rw[vu]at r;have ai:=EK r;have:∀d∈lA,d<8000/\0≠d/\1≠d/\2≠d:=by decide
  obtain⟨k,k0,aj,ak⟩:=this _ (eI ai.symm);rw[lB _ _ k k0,lB _ _ k aj,lB _ _ k ak];exact⟨e0,ae,af⟩
 ·intro i j T v r s N hw;rw[vu]at r s;exact aKa r (Rm r s N hw)
 ·intro i j T v r s N hw;rw[vu]at r s;exact aKb r (Rm r s N hw)
 ·intro T w i o R hx ho Y q next hn
  have r:i<16:=by rw[<- vu];exact(o1.1 ho).1
  have ad:Ey i=o:=by unfold Ey;rw[ho];rfl
  have l:∀j,yF gZ i j=true->FC fr sl sz j T:=by
   intro j s;obtain⟨am,W,e,he,hb,rfl⟩:=Rl s;rw[ho]at W;cases W;exact Y e he hb
  subst ad
  match i,r with
  |0,_=>
   rw[kV (d:=7) rfl]at hn;refine(EA T next _).mpr ?_;refine use (H.tree q) ?_;rintro _ w2 ⟨⟨p,rfl⟩,h2⟩;refine⟨p,rfl,hn _ _ ?_ ?_⟩;·simp only[FC];rw[hT _ _ _ bN];exact⟨p,rfl⟩
   ·simp only[OC];rw[hT _ _ _ bN];exact h2
  |1,_=>
   rw[kV (d:=8) rfl]at hn;refine(EB T next _).mpr ?_;refine hn _ _ ?_ q;simp only[FC];rw[hT _ _ _ bN];exact hx.1
  |2,_=>
   rw[kV (d:=9) rfl]at hn;have e:T.get 8=Iv fr:=l 1 (by decide+kernel);refine(EC T next _).mpr ?_;rw[e];refine use (H.cC q) ?_;rintro _ w2 ⟨⟨a,b,c,rfl⟩,h2⟩;refine⟨a,b,c,rfl,hn _ _ ?_ ?_⟩;·simp only[FC];rw[hT _ _ _ bN];exact⟨a,b,c,rfl⟩
   ·simp only[OC];rw[hT _ _ _ bN];exact h2
  |3,_=>
   rw[kV (d:=10) rfl]at hn;refine(ED T next _).mpr ?_;refine hn _ _ ?_ q;simp only[FC];rw[hT _ _ _ bN];exact hx.2.1
  |4,_=>
   rw[kV (d:=11) rfl]at hn;have e:T.get 10=Iv sl:=l 3 (by decide+kernel);refine(EE T next _).mpr ?_;rw[e];refine use (H.cV q) ?_;rintro _ w2 ⟨⟨a,b,c,rfl⟩,h2⟩;refine⟨a,b,c,rfl,hn _ _ ?_ ?_⟩;·simp only[FC];rw[hT _ _ _ bN];exact⟨a,b,c,rfl⟩
   ·simp only[OC];rw[hT _ _ _ bN];exact h2
  |5,_=>
   rw[kV (d:=12) rfl]at hn;refine(EF T next _).mpr ?_;refine hn _ _ ?_ q;simp only[FC];rw[hT _ _ _ bN];exact hx.2.2
  |6,_=>
   rw[kV (d:=13) rfl]at hn;have e:T.get 12=Sv sz:=l 5 (by decide+kernel);refine(EG T next _).mpr ?_;rw[e];refine use (H.files q) ?_;rintro _ w2 ⟨⟨p,rfl⟩,h2⟩;refine⟨p,rfl,hn _ _ ?_ ?_⟩;·simp only[FC];rw[hT _ _ _ bN];exact⟨p,rfl⟩
   ·simp only[OC];rw[hT _ _ _ bN];exact h2
  |7,_=>
   rw[kV (d:=14) rfl]at hn;refine(EH T next _).mpr ?_;refine use (H.bP q) ?_;rintro _ w2 ⟨⟨p,rfl⟩,h2⟩;refine⟨p,rfl,hn _ _ ?_ ?_⟩;·simp only[FC];rw[hT _ _ _ bN];exact⟨p,rfl⟩
   ·simp only[OC];rw[hT _ _ _ bN];exact h2
  |8,_=>
   rw[kV (d:=15) rfl]at hn;refine(EI T next _).mpr ?_;refine use (H.log q) ?_;rintro _ w2 ⟨⟨p,rfl⟩,h2⟩;refine⟨p,rfl,hn _ _ ?_ ?_⟩;·simp only[FC];rw[hT _ _ _ bN];exact⟨p,rfl⟩
   ·simp only[OC];rw[hT _ _ _ bN];exact h2
  |9,_=>
   rw[kV (d:=16) rfl]at hn;refine(EJ T next _).mpr ?_;refine use (H.bt q) ?_;rintro _ w2 ⟨⟨p,rfl⟩,h2⟩;refine⟨p,rfl,hn _ _ ?_ ?_⟩;·simp only[FC];rw[hT _ _ _ bN];exact⟨p,rfl⟩
   ·simp only[OC];rw[hT _ _ _ bN];exact h2
  |10,_=>
   rw[kV (d:=17) rfl]at hn;refine(aKp T next _).mpr ?_;refine cE.new (enc:=Value.int .i64) q (λb w2 h2=>hn _ _ ?_ ?_);·simp only[FC];rw[hT _ _ _ bN];exact⟨some b,rfl⟩
   ·simp only[OC];rw[hT _ _ _ bN];exact H.kept h2
  |11,_=>
   rw[kV (d:=18) rfl]at hn;refine(aKq T next _).mpr ?_;refine makeSlice.i q (by kernel_rfl:hi P se=some (24,3,[Iv 0,Iv 0,.bool false])) bN (g2 _) bN bN (λb w2 h2=>hn _ _ ?_ ?_);·simp only[FC];rw[hT _ _ _ bN];exact⟨⟨some ⟨b,0,none⟩,1,1⟩,rfl⟩
   ·simp only[OC];rw[hT _ _ _ bN];exact H.guards h2
  |12,_=>
   rw[kV (d:=19) rfl]at hn;refine(aKr T next _).mpr ?_;refine Al.i q (λb w2 h2=>hn _ _ ?_ ?_);·simp only[FC];rw[hT _ _ _ bN];exact⟨⟨some ⟨b,0,none⟩,1,1⟩,rfl⟩
   ·simp only[OC];rw[hT _ _ _ bN];exact H.up h2
  |13,_=>
   rw[kV (d:=20) rfl]at hn;obtain⟨t,Q⟩:=l 0 (by decide+kernel);obtain⟨G,b1,J,S⟩:=l 2 (by decide+kernel);obtain⟨I,b2,K,u⟩:=l 4 (by decide+kernel);obtain⟨f,x⟩:=l 6 (by decide+kernel);obtain⟨g,y⟩:=l 7 (by decide+kernel);obtain⟨lg,z⟩:=l 8 (by decide+kernel);obtain⟨pg,B⟩:=l 9 (by decide+kernel);obtain⟨m,C⟩:=l 10 (by decide+kernel);obtain⟨gs,D⟩:=l 11 (by decide+kernel);obtain⟨up,F⟩:=l 12 (by decide+kernel);refine(aKs T next _).mpr ?_;rw[Q,S,u,x,y,z,B,C,D,F,aE4];refine hn _ _ ?_ q;simp only[FC];rw[hT _ _ _ bN];have k:(20:Nat)<8000:=by decide
   rw[lB _ _ k bN,lB _ _ k bN,lB _ _ k bN,lB _ _ k bN,lB _ _ k bN,lB _ _ k bN,lB _ _ k bN,lB _ _ k bN,lB _ _ k bN,lB _ _ k bN];exact⟨t,G,b1,J,I,b2,K,f,g,lg,pg,m,gs,up,Q,S,u,x,y,z,B,C,D,F,rfl⟩
  |14,_=>
   rw[kV (d:=21) rfl]at hn;refine(aKt T next _).mpr ?_;refine Al.i q (λb w2 h2=>hn _ _ ?_ ?_);·simp only[FC];rw[hT _ _ _ bN];exact⟨b,rfl⟩
   ·simp only[OC];rw[hT _ _ _ bN,lB _ _ bN bN];exact Sep.ex.2 ⟨b,Sep.cG.2 ⟨rfl,h2⟩⟩
  |15,_=>
   rw[kV (d:=6) rfl]at hn;refine(aKu T next _).mpr ?_;refine hn _ _ ?_ q;simp only[FC];rw[hT _ _ _ bN,lB _ _ bN bN]
  |n+16,r=>exact absurd r bu
 ·intro T w2 M hx U ah hp;rw[aAv];rw[vu]at U hp;obtain⟨t,G,b1,J,I,b2,K,f,g,lg,pg,m,gs,up,Q,S,u,x,y,z,B,C,D,F,Z⟩:=U 13 bN;obtain⟨b,V⟩:=U 14 bN;have ag:T.get 6=T.get 21:=U 15 bN;rw[ag,V];refine⟨b,t,G,b1,J,I,b2,K,f,g,lg,pg,m,gs,up,rfl,?_⟩;have aa:=ah.perm (rE L hp);have e:((List.range 16).flatMap λi=>OC O i T)=(O 0 (T.get 7)++(O 1 (T.get 9)++(O 2 (T.get 11)++(O 3 (T.get 13)++(O 4 (T.get 14)++(O 5 (T.get 15)++(O 6 (T.get 16)++(O 7 (T.get 17)++(O 8 (T.get 18)++O 9 (T.get 19))))))))))++[vw (T.get 21) (T.get 20)]:=by
   rw[show List.range 16= [0,1,2,3,4,5,6,7,8,9,10,11,12,13,14,15]from rfl];simp only[nQ,List.flatMap_nil,hv,lJ,OC,dj]
  rw[e,Q,S,u,x,y,z,B,C,D,F,Z,V]at aa;have ab:=aa.perm (aFA _ _ _);simp only[dj]at ab;obtain⟨al,X⟩:=Sep.ex.1 ab;obtain⟨hb,X⟩:=Sep.cG.1 X;cases hb;exact X
 ·refine⟨by kernel_rfl,by kernel_rfl,by kernel_rfl⟩
end Go.Mp
namespace Go.Mp
open Go Go.Vc Go.Sp Go.Proofs Go.Kc
variable{E:Env}{L:ct}{w:bI}{A:At}{S:Cs}
def aES(h:Sep E L w):Calls P Bo #[] w (cz λv w'=>∃t,v=Pb t/\Sep E (dT t Kt.new::L) w'):=by
 apply Vl;unfold J7;refine Al.i h (λa e h1=>Al.i h1 (λb w2 h2=>⟨b,rfl,dT.mk (s:=⟨some ⟨a,0,none⟩,1,1⟩) rfl ?_⟩));have d:Sep E (bC a ([Iv (-1),.bool true]++[])::bC b [.slice (some ⟨a,0,none⟩) 1 1]::L) w2:=h2.swap;exact(bw.make (spare:=[]) (n:=1) (c:=1) (m:=2) d rfl rfl (ek _)).swap
def oW(v:bE)(s:eY):Asn:=fa λp:Nat=>fa λb:Nat=>fa λu:Nat=>cG (v=.agg #[Pb p,Pb b,Pb u]) (star (gA p s.bY) (star (gb b s.bY.length s.c9) (c7 u s.used)))
def Rn(n:Int)(h:Sep E L w):Calls P uB #[Iv n] w (cz λv w'=>vx v/\Sep E (oW v (gy n)::L) w'):=by
 apply Vn;unfold J8 qP qR qU;refine Al.i h (λq j h1=>use (YQ n h1) ?_);rintro _ w2 ⟨p,rfl,h2⟩;refine⟨_,rfl,use (aBK n h2) ?_⟩;rintro _ k ⟨b,rfl,d⟩;refine⟨_,rfl,use (az7 d) ?_⟩;rintro _ l ⟨u,rfl,f⟩;refine⟨_,rfl,et (vs:=[Pb p,Pb b,Pb u]) _ (f.fr 3 rfl) rfl (λc a=>?_)⟩;refine ld a 0 rfl rfl rfl (ld a 0 rfl rfl rfl (ld a 0 rfl rfl rfl ⟨⟨_,_,_,rfl⟩,?_⟩));have g:Sep E (gA p (k8 n)::gb b (min (max n 0).toNat 1024) (List.replicate (16*min (max n 0).toNat 1024) 0)::c7 u mg::L) c:=a.tail.ro 3 [2,1,0] rfl;refine Sep.ex.2 ⟨p,Sep.ex.2 ⟨b,Sep.ex.2 ⟨u,Sep.cG.2 ⟨rfl,Sep.star.2 ?_⟩⟩⟩⟩;have e:(k8 n).length=min (max n 0).toNat 1024:=by simp[k8]
 have i:Sep E (star (gb b (min (max n 0).toNat 1024) (List.replicate (16*min (max n 0).toNat 1024) 0)) (c7 u mg)::gA p (k8 n)::L) c:=Sep.star.2 (g.ro 3 [1,2,0] rfl);rw[show(gy n).bY.length=min (max n 0).toNat 1024 from e];exact i.swap
def gE(f:Nat->Asn)(v:bE):Asn:=fa λb:Nat=>cG (v=Pb b) (f b)
def EL(fr sl:Int)(l:bS):Nat->bE->ct
 |0,v=>[gE (λt=>dT t Kt.new) v]
 |1,v=>[oW v (gy fr)]
 |2,v=>[oW v (gy sl)]
 |3,v=>[gE (λb=>iC b (gU l)) v]
 |4,v=>[gE (λb=>Gp.fl b []) v]
 |5,v=>[gE (λb=>fH b (List.replicate 64 0)) v]
 |6,v=>[gE (λb=>Tp.c2 b TS.zero) v]
 |7,v=>[fa λm:Nat=>cG (v=.map (some m)) (nK m (λ_=>none))]
 |8,v=>[fa λs:Sl=>cG (v=Sv s) (iN s [⟨0,0,false⟩])]
 |9,v=>[fa λs:Sl=>cG (v=Sv s) (ju s Kt.new)]
 |_,_=>[]
def parts{fr sl:Int}{sz:Sl}{l:bS}(d:Ints E L sz l)(a:sz.n<=sz.c):pO E L fr sl sz (EL fr sl l) where
 tree:=λh=>use (aES h) (by rintro _ w' ⟨t,rfl,h'⟩;exact⟨_,rfl,⟨_,rfl⟩,Sep.ex.2 ⟨t,Sep.cG.2 ⟨rfl,h'⟩⟩⟩)
 cC:=λh=>Rn fr h
 cV:=λh=>Rn sl h
 files:=λ{R w} h=>use (aDm (d.of (λ_ f=>Sep.right (Q:=R) f)) a h) (by rintro _ w' ⟨t,rfl,h'⟩;exact⟨_,rfl,⟨_,rfl⟩,Sep.ex.2 ⟨t,Sep.cG.2 ⟨rfl,h'⟩⟩⟩)
 bP:=λh=>use (Gp.vk h) (by rintro _ w' ⟨t,rfl,h'⟩;exact⟨_,rfl,⟨_,rfl⟩,Sep.ex.2 ⟨t,Sep.cG.2 ⟨rfl,h'⟩⟩⟩)
 log:=λh=>use (aBM h) (by rintro _ w' ⟨t,rfl,h'⟩;exact⟨_,rfl,⟨_,rfl⟩,Sep.ex.2 ⟨t,Sep.cG.2 ⟨rfl,h'⟩⟩⟩)
 bt:=λh=>use (Tp.vk h) (by rintro _ w' ⟨t,rfl,h'⟩;exact⟨_,rfl,⟨_,rfl⟩,Sep.ex.2 ⟨t,Sep.cG.2 ⟨rfl,h'⟩⟩⟩)
 kept:=λ{L w b} h=>Sep.ex.2 ⟨b,Sep.cG.2 ⟨rfl,Sep.cG.2 ⟨λ_ _ e=>(by cases e),h⟩⟩⟩
 guards:=λ{L w b} h=>Sep.ex.2 ⟨⟨some ⟨b,0,none⟩,1,1⟩,Sep.cG.2 ⟨rfl,Sep.cG.2 ⟨rfl,bw.make (spare:=[]) (n:=1) (c:=1) (m:=3) h rfl rfl (ek _)⟩⟩⟩
 up:=λ{L w b} h=>Sep.ex.2 ⟨⟨some ⟨b,0,none⟩,1,1⟩,Sep.cG.2 ⟨rfl,Sep.cG.2 ⟨rfl,bw.make (spare:=[]) (n:=1) (c:=1) (m:=1) h rfl rfl (ek _)⟩⟩⟩
def gE.open{f:Nat->Asn}{v:bE}(h:Sep E (gE f v::L) w):∃b,v=Pb b/\Sep E (f b::L) w:=by
 obtain⟨b,h⟩:=Sep.ex.1 h;obtain⟨a,h⟩:=Sep.cG.1 h;exact⟨b,a,h⟩
def oW.open{s:eY}{v:bE}(h:Sep E (oW v s::L) w):∃p b u,v=.agg #[Pb p,Pb b,Pb u]/\Sep E (gA p s.bY::gb b s.bY.length s.c9::c7 u s.used::L) w:=by
 obtain⟨p,h⟩:=Sep.ex.1 h;obtain⟨b,h⟩:=Sep.ex.1 h;obtain⟨u,h⟩:=Sep.ex.1 h;obtain⟨a,h⟩:=Sep.cG.1 h;have h1:=Sep.star.1 h;have h2:=Sep.star.1 (h1.fr 1 rfl);exact⟨p,b,u,a,h2.ro 3 [2,0,1] rfl⟩
def Ro{s s':Sl}(h:Value.slice s.p s.n s.c=.slice s'.p s'.n s'.c):s=s':=by
 obtain⟨a,b,c⟩:=s;obtain⟨d,e,f⟩:=s';injection h with h1 h2 g
 simp only at h1 h2 g;rw[h1,h2,g]
def vk{fr sl:Int}{sz:Sl}{l:bS}{o:cb Obj}(T:Ints E (dY o::L) sz l)(q:sz.n<=sz.c)(h:Sep E (dY o::L) w):Calls P Bl #[Iv fr,Iv sl,Sv sz] w
  (cz λv w'=>∃A:At,v=Pb A.c/\A.o=o/\Sep E (cd A (Kc.new fr sl l)++L) w'):=by
 refine use (aDl (parts T q) h) ?_;rintro _ K ⟨b,t,B,b1,D,C,b2,F,f,g,lg,pg,m,gs,up,rfl,h1⟩;have h1:Sep E (bC b (vv t B b1 D C b2 F f g lg pg m gs up)::gE (λt=>dT t Kt.new) (.pointer t)::oW (.agg #[.pointer B,.pointer b1,.pointer D]) (gy fr)::oW (.agg #[.pointer C,.pointer b2,.pointer F]) (gy sl)::
  gE (λb=>iC b (gU l)) (.pointer f)::gE (λb=>Gp.fl b []) (.pointer g)::gE (λb=>fH b (List.replicate 64 0)) (.pointer lg)::gE (λb=>Tp.c2 b TS.zero) (.pointer pg)::
  (fa λc:Nat=>cG ((.map m:bE)=.map (some c)) (nK c (λ_=>none)))::(fa λs:Sl=>cG ((Sv gs:bE)=Sv s) (iN s [⟨0,0,false⟩]))::(fa λs:Sl=>cG ((Sv up:bE)=Sv s) (ju s Kt.new))::dY o::L) K:=h1
 obtain⟨x,V,h2⟩:=gE.open (h1.fr 1 rfl);obtain⟨r,u,y,G,M⟩:=oW.open (h2.fr 2 rfl);obtain⟨p2,q2,z,H,N⟩:=oW.open (M.fr 5 rfl);obtain⟨f',hf,O⟩:=gE.open (N.fr 8 rfl);obtain⟨n,U,Q⟩:=gE.open (O.fr 9 rfl);obtain⟨j,I,R⟩:=gE.open (Q.fr 10 rfl);obtain⟨k,J,S⟩:=gE.open (R.fr 11 rfl);obtain⟨c,p⟩:=Sep.ex.1 (S.fr 12 rfl);obtain⟨hm,p⟩:=Sep.cG.1 p;obtain⟨W,d⟩:=Sep.ex.1 (p.fr 13 rfl);obtain⟨e,d⟩:=Sep.cG.1 d;obtain⟨X,a⟩:=Sep.ex.1 (d.fr 14 rfl);obtain⟨i,a⟩:=Sep.cG.1 a;have e:=Ro e;have i:=Ro i;cases V;cases hf;cases U;cases I;cases J;cases hm;simp only[Value.agg.injEq,Array.mk.injEq,List.cons.injEq,Value.pointer.injEq,and_true]at G H;obtain⟨rfl,rfl,rfl⟩:=G;obtain⟨rfl,rfl,rfl⟩:=H;subst e i;refine⟨_,rfl,⟨b,x,r,u,y,p2,q2,z,f',n,j,k,c,gs,up,o⟩,rfl,rfl,?_⟩;have a:Sep E (ju up Kt.new::iN gs [⟨0,0,false⟩]::nK c (λ_=>none)::Tp.c2 k TS.zero::fH j (List.replicate 64 0)::Gp.fl n []::iC f' (gU l)::gA p2 (gy sl).bY::gb q2 (gy sl).bY.length (gy sl).c9::c7 z (gy sl).used::
  gA r (gy fr).bY::gb u (gy fr).bY.length (gy fr).c9::c7 y (gy fr).used::dT x Kt.new::bC b (vv (some ⟨x,0,none⟩) (some ⟨r,0,none⟩) (some ⟨u,0,none⟩) (some ⟨y,0,none⟩) (some ⟨p2,0,none⟩) (some ⟨q2,0,none⟩) (some ⟨z,0,none⟩) (some ⟨f',0,none⟩) (some ⟨n,0,none⟩) (some ⟨j,0,none⟩) (some ⟨k,0,none⟩) (some c) gs up)::dY o::L) K:=a
 exact a.ro 16 [14,13,10,11,12,7,8,9,6,5,4,3,2,1,0,15] rfl
end Go.Mp
namespace Go.Mp
open Go Go.Vc Go.Proofs
variable{K:bf9}{w:bI}
variable(K w)
def Rp(cC cV:Int)(bW l:Sl)(pid s:Int):=
 qF H2 #[] w λr C=>dN r (K aN2 C) (qF HZ #[Iv cC,Iv cV,Sv bW,Sv l] C λaG H=>cond aG (K (.bool r) H) (qR uy #[Iv cC,Iv cV,Sv bW] H λn aF=>qO 0 aF λu i14 p=>fD i14 l.n (qW l i14 5 λx=>zL p x λP Q R S T=>zx n2 #[Pv n,.agg #[Iv P,Iv Q,Iv R,Iv S,Iv T]] p λaH aI aJ D=>(u (i64.wrap (i14+1)) D)) (qJ si #[Pv n] p λg E=>zx n2 #[Pv n,.agg #[Iv 10,Iv pid,Iv 0,Iv 0,Iv 0]] E λU V W F=>zW F λd G=>qU [Iv U,Iv V,Sv W] d G λk=>qh (λo=>cond (decide (pid≥0)) (fD pid g.n (qW g pid 3 λa41=>qy k a41 2 λX=>o X k) (o false k)) (o false k)) λe b=>qL b d 0 λY=>cond (Y !=0) (cond r (qL b d 0 λZ=>cond (Z==2) (dN e (K aN3 b) (qL b d 0 λaa=>cond (aa==3) (cond e (K (.bool (decide (((g.n:Nat):Int)≥64))) b) (K aN2 b)) (K aN2 b))) (qL b d 0 λab=>cond (ab==3) (cond e (K (.bool (decide (((g.n:Nat):Int)≥64))) b) (K aN2 b)) (K aN2 b))) (K aN2 b)) (qJ si #[Pv n] b λm I=>qg (λv=>Dr (λa=>dN e (K aN2 a) (cond (((m.n:Nat):Int) !=(i64.wrap (((g.n:Nat):Int)+1))) (K aN2 a) (qL a d 1 λad=>cond (ad !=((g.n:Nat):Int)) (K aN2 a) (qL a d 1 λae=>qW m ae 3 λy=>qL a y 0 λaf=>qW g pid 3 λz=>qL a z 0 λag=>cond (af !=ag) (K aN2 a) (qL a d 1 λah=>qW m ah 3 λA=>qL a A 1 λai=>qW g pid 3 λa63=>qL a a63 1 λaj=>cond (ai !=aj) (K aN2 a) (qL a d 1 λak=>qW m ak 3 λB=>qy a B 2 λal=>dN al (K aN2 a) (v a))))))) I) λJ=>zx n2 #[Pv n,.agg #[Iv 8,Iv pid,Iv s,Iv 0,Iv 0]] J λam an ao L=>zW L λi M=>qU [Iv am,Iv an,Sv ao] i M λt=>qL t d 1 λap=>zx n2 #[Pv n,.agg #[Iv 8,Iv ap,Iv s,Iv 0,Iv 0]] t λaq ar au N=>zW N λj O=>qU [Iv aq,Iv ar,Sv au] j O λc=>qh (λh=>qL c i 0 λav=>cond (av==12) (h true c) (qL c i 0 λaw=>cond (aw==13) (h true c) (qL c j 0 λax=>cond (ax==12) (h true c) (qL c j 0 λay=>cond (ay==13) (h true c) (qK c i 2 λaz=>cond (decide (((az.n:Nat):Int)>0)) (h true c) (qK c j 2 λaA=>h (decide (((aA.n:Nat):Int)>0)) c)))))) λq f=>cond r (cond q (K aN3 f) (qL f i 0 λaB=>qL f j 0 λaC=>cond (aB==aC) (qL f i 1 λaD=>qL f j 1 λaE=>K (.bool (aD==aE)) f) (K aN2 f))) (K aN2 f)))))
def Rq(cC cV:Int)(bW l:Sl):=
 cond (decide (cC>24)) (K aN3 w) (cond (decide (cV>24)) (K aN3 w) (cond (decide (((bW.n:Nat):Int)>40)) (K aN3 w) (K (.bool (decide (((l.n:Nat):Int)>40))) w)))
def Rr:=
 zw w λm w2=>qJ H4 #[Iv 4,Iv 4,aN8,.slice (some m) 5 5] w2 λc L=>qR uy #[Iv 4,Iv 4,aN8] L λb i=>qg (λJ=>cond b.isNone (K aN2 i) (cond (((c.n:Nat):Int) !=5) (K aN2 i) (J i))) λe=>cK (some m) 5 0 5 λj=>zL e j λr s t u v=>zx n2 #[Pv b,.agg #[Iv r,Iv s,Iv t,Iv u,Iv v]] e λx y z n=>zW n λd o=>qU [Iv x,Iv y,Sv z] d o λp=>qJ si #[Pv b] p λh a=>qW c 2 3 λa29=>qL a a29 0 λA=>cond (A==0) (qW c 3 3 λk=>qL a k 1 λB=>cond (B==7) (qW c 4 3 λa33=>qL a a33 1 λC=>cond (C==0) (qW c 4 3 λa35=>qL a a35 0 λD=>cond (D==0) (qL a d 0 λE=>cond (E==0) (cond (((h.n:Nat):Int)==1) (qW h 0 3 λl=>qy a l 2 λF=>cond F (qR uz #[Pv b,Iv 0] a λG f=>cond (!G.isNone) (qR uz #[Pv b,Iv 1] f λH g=>cond H.isNone (qR Bi #[Pv b] g λI q=>K (.bool (!I.isNone)) q) (K aN2 g)) (K aN2 f)) (K aN2 a)) (K aN2 a)) (K aN2 a)) (K aN2 a)) (K aN2 a)) (K aN2 a)) (K aN2 a)
variable{K w}
def amq(cC cV bW l pid a)(h:Rp K w cC cV bW l pid a):=bM {(z8 [38,39,41,55,59,60,71,76,84,90,91,101,103,104,105,111,112,126,140,164,168,173,178,183,184,189,190,200,206] [] [(8,[(15,jZ)])] [(14,[(18,.bool)]),(19,[]),(22,[(22,.bool)])]:dQ)with head:=λr=>(bif r==17 then 54 else 0)} #[Iv cC,Iv cV,Sv bW,Sv l,Iv pid,Iv a] K w func9 h
def aoH(cC cV bW l)(h:Rq K w cC cV bW l):=bM (z8 [10,13,17,18,22,23]) #[Iv cC,Iv cV,Sv bW,Sv l] K w func16 h
def an8(h:Rr K w):=bM (z8 [16,19,20,33,39,46,53,58,62,63,74,79,84] [] [] [(6,[])]) #[] K w func22 h
end Go.Mp
namespace Go.Mp
open Go Go.Vc Go.Sp Go.Proofs Go.Kc
variable{E:Env}{L:ct}{w:bI}{A:At}{S:Cs}
def Rs:hi P lT=some (1,1,[.bool false]):=by kernel_rfl
def aEp{s:Sl}{q:Nat}{l:bA Bool}{x:Bool}(hn:s.n=l.length)(hb:l.length<1000000)(h:Sep E (bC q [.bool x]::bw s 1 (ea l)::L) w){G:Sl->bf8}(g:∀s' a,s'.n=l.length+1->Sep E (bw s' 1 (ea (l++[x]))::L) a->G s' a):
  ∃d:Sl,∃a,Sem.run P (Builtin.append_ #[lT,lT] lT #[Sv s,.slice (some ⟨q,0,none⟩) 1 1]) w=.ok (Sv d) a/\G d a:=by
 have f:=Src.bC (n:=1) (c:=1) h (i:=0) rfl Rs rfl (λu hu=>by simp at hu;rw[hu];rfl);have e:ea (l++[x])=ea l++[.bool x]:=by simp[ea]
 refine bw.append h.swap Rs rfl f bu (by rw[hn];omega) (λs' a b h1=>?_);refine g s' a (by rw[b,hn]) ?_;rw[e];exact(h1.fr 0 rfl).ro 2 [0] rfl
def aIi(p:Kc.Inv S)(h:Sep E (cd A S++L) w):Calls P Jn #[Pb A.c] w
  (cz λv w'=>∃s:Sl,v=Sv s/\s.n=S.guards.length/\Sep E (cd A S++bw s 1 (ea (S.guards.map eD.whole))::L) w'):=by
 have n:S.guards.length<=64:=by rw[p.gl];exact p.wf.fk
 apply XO;unfold Mc qK qU qW qa qf qx qy;have g:=(iN.open (h.fr 13 rfl)).1;refine⟨_,rfl,A.gs,h.cellAt 0 rfl 12,?_⟩;refine⟨λs i w'=>∃k:Nat,i=k/\k<=S.guards.length/\s.n=k/\Sep E (cd A S++bw s 1 (ea ((S.guards.take k).map eD.whole))::L) w',λ_ i _=>(S.guards.length-i).toNat,⟨0,rfl,fj _,rfl,Sep.e9 (bw.none_ h)⟩,?_⟩;rintro _ s _ y ⟨k,rfl,hk,l,h1⟩;refine cU (λt=>?_) (λr=>?_)
 ·have a:k<S.guards.length:=by omega
  obtain⟨x,hx⟩:∃x,S.guards[k]?=some x:=⟨_,dO a⟩
  refine lV eD.mx 0 (iN.open (h1.fr 13 rfl)).2 rfl g rfl hx (λb _ d=>⟨x.min,by rw[cf];exact d 0 _ rfl,x.low,by rw[cf];exact d 1 _ rfl,x.whole,by rw[cf];exact d 2 _ rfl,?_⟩);refine Al.i h1 (λu w2 h2=>et (vs:=eD.vs x) _ h2 rfl (λz f=>ld f 0 rfl rfl rfl (Al.i f.tail (λq o c=>?_))));have c:Sep E (bC q [.bool x.whole]::bw s 1 (ea ((S.guards.take k).map eD.whole))::(cd A S++L)) o:=(c.fr 17 rfl).swap;refine aEp (by simp;omega) (by simp;omega) c (λs' B j m=>?_);have e:(S.guards.take (k+1)).map eD.whole=(S.guards.take k).map eD.whole++[x.whole]:=by rw[fL hx,k3];rfl
  rw[dc];refine⟨⟨k+1,rfl,a,by rw[j];simp;omega,by rw[e];exact Sep.e9 (Q:=cd A S) m⟩,?_⟩;show(((S.guards.length:Nat):Int)-((k+1:Nat):Int)).toNat<(((S.guards.length:Nat):Int)-(k:Int)).toNat;omega
 ·have:k=S.guards.length:=by omega
  subst this;rw[gf]at h1;exact⟨s,rfl,l,h1⟩
end Go.Mp
namespace Go.Kw
def Pr.vs(x:Pr):bA bE:=[Iv x.g,Iv x.size,.bool x.live]
def Pr.mx(x:Pr):x.vs.length=3:=rfl
def EM(v:Int):∀l:bS,kv v l<=l.length
 |[]=>ek _
 |x::r=>by unfold kv;have:=EM v r;split<;>simp;omega
def Rt{v:Int}:∀ {l:bS} {k:Nat},l[k]?=some v->(∀j y,j<k->l[j]?=some y->v≠y)->kv v l=k
 |y::r,0,h,_=>by simp at h;subst h;unfold kv;rw[bK rfl]
 |y::r,k+1,h,a=>by
  unfold kv;rw[bJ (a 0 y bu rfl),Rt (l:=r) (k:=k) (by simpa using h) λj z c b=>a (j+1) z bu (by simpa using b)]
def Ru{v:Int}:∀ {l:bS},(∀(j:Nat) y,l[j]?=some y->v≠y)->kv v l=l.length
 |[],_=>rfl
 |y::r,h=>by
  unfold kv;rw[bJ (h 0 y rfl),Ru (l:=r) λj z a=>h (j+1) z (by simpa using a)];rfl
end Go.Kw
namespace Go.Mp
open Go Go.Vc Go.Sp Go.Proofs Go.Kc Go.Kv Go.Kw Go.Kt
variable{E:Env}{L:ct}{w W:bI}
def Rv{s:Sl}{l:bS}(c:Ints E L s l)(hb:l.length<1000000)(v:Int)(h:Sep E L w):Calls P uK #[Sv s,Iv v] w (cW E (Iv (if kv v l<l.length then(kv v l:Int)else -1)) L):=by
 have hn:=c.1;apply C6;unfold x0 qD qO qW;refine⟨λi w'=>∃k:Nat,i=k/\k<=l.length/\(∀j y,j<k->l[j]?=some y->v≠y)/\Sep E L w',λi _=>(l.length-i).toNat,⟨0,rfl,fj _,λj y d=>absurd d bu,h⟩,?_⟩;rintro _ _ o ⟨k,rfl,hk,a,h1⟩;refine cU (λn=>?_) (λm=>?_)
 ·obtain⟨x,hx⟩:∃x,l[k]?=some x:=⟨_,dP⟩
  refine c.el h1 k rfl hx (eQ (λhe=>⟨?_,h1⟩) (λg=>⟨⟨k+1,dc,bu,λj y d b=>?_,h1⟩,?_⟩))
  ·subst he;rw[Rt hx a,eK]
  ·rcases hN j k with e|e;·exact a j y e b
   ·have:j=k:=by omega
    subst this;rw[hx]at b;cases b;exact g
  ·rw[dc];dsimp only;omega
 ·have f:k=l.length:=by omega
  subst f;refine⟨?_,h1⟩;rw[Ru λj y b=>a j y (cZ.1 b).1 b,cD]
def EN{s:Sl}{l:bS}(a:Ints E L s l)(hb:l.length<1000000)(v:Int)(h:Sep E L w):Calls P py #[Sv s,Iv v] w (cW E (.bool (l.contains v)) L):=by
 apply C0;unfold xZ qQ;refine use (Rv a hb v h) ?_;rintro _ d ⟨rfl,h1⟩;refine⟨_,rfl,?_,h1⟩;have hle:=EM v l;have key:∀l:bS,(kv v l<l.length)↔v∈l:=by
  intro l;induction l with
  |nil=>simp[kv]
  |cons x r c=>
   unfold kv;by_cases e:v=x;·simp[e]
   ·simp[e,c]
 by_cases hm:v∈l
 ·rw[bK ((key l).2 hm),kZ.2 hm];exact eJ Value.bool (dF bu)
 ·rw[bJ λe=>hm ((key l).1 e)];have:l.contains v=false:=by cases b:l.contains v with|false=>rfl|true=>exact absurd (kZ.1 b) hm
  rw[this];rfl
def hU(s:Sl)(l:bA Pr):Asn:=bw s 3 (bQ Pr.vs l)
def vy{s:Sl}{l:bA Pr}{i:Int}{k:Nat}{x:Pr}{F:Addr->Int->Int->Bool->Prop}(q:Nat)(h:Sep E L w)(j:L[q]?=some (hU s l))(hn:s.n=l.length)(g:i=k)(hx:l[k]?=some x)(m:∀a,F a x.g x.size x.live):
  cK s.p s.n i 3 λa=>∃d:Int,w.cell? (a.add 0)=some (Iv d)/\∃e:Int,w.cell? (a.add 1)=some (Iv e)/\∃f:Bool,w.cell? (a.add 2)=some (.bool f)/\F a d e f:=
 lV Pr.mx q h j hn g hx (λb _ c=>⟨_,by rw[cf];exact c 0 _ rfl,_,by rw[cf];exact c 1 _ rfl,_,by rw[cf];exact c 2 _ rfl,m _⟩)
def aJu{s i:Sl}{l:bA Pr}{ins:bS}{q:Nat}(F:L[q]?=some (hU s l))(hn:s.n=l.length)(hb:l.length<1000000)(C:Ints E L i ins)(t:ins.length<1000000)(h:Sep E L w):
  Calls P Jv #[Sv s,Sv i] w (cW E (Iv (pick l ins)) L):=by
 apply ax0;unfold N5 qC qF qI qL qU qW qa zz;refine Al.i h (λd N h1=>Al.i h1 (λf w2 h2=>St.i h2 (by show 0<1;decide) (λG o=>?_)));have o:Sep E (bC f [Iv 0]::bC d [Sv i]::L) G:=o;refine⟨λa x w'=>∃(k:Nat) (m:Int),x=k/\k<=l.length/\mX ins k (a,m) (l.drop k)=mX ins 0 (-1,0) l/\Sep E (bC f [Iv m]::bC d [Sv i]::L) w',λ_ x _=>(l.length-x).toNat,⟨0,0,rfl,fj _,rfl,o⟩,?_⟩;rintro _ a _ O ⟨k,m,rfl,hk,he,p⟩;refine cU (λM=>?_) (λJ=>?_)
 ·obtain⟨x,hx⟩:∃x,l[k]?=some x:=⟨_,dP⟩
  have D:l.drop k=x::l.drop (k+1):=by
   have n:=(cZ.1 hx).1;rw[lG n];rw[dO n]at hx;rw[cR hx]
  rw[D]at he;simp only[mX]at he;refine vy (q+2) p F hn rfl hx (λ_=>Al.i p (λr Q A=>et _ A rfl (λH c=>?_)));have c:Sep E (bC r x.vs::bC f [Iv m]::bC d [Sv i]::L) H:=c;refine ld c 0 rfl rfl rfl (ld c 0 rfl rfl rfl (ld c 0 rfl rfl rfl (use (K:=λv w'=>v=.bool (decide (x.live=true/\m<x.size/\ins.contains x.g=true))/\Sep E (bC r x.vs::bC f [Iv m]::bC d [Sv i]::L) w') ?_ ?_)))
  ·apply avt;unfold Od qD qF qL qc qy;refine Al.i c (λz y b=>?_);have b:Sep E (bC z x.vs::bC r x.vs::bC f [Iv m]::bC d [Sv i]::L) y:=b;refine ld b 0 rfl rfl rfl (cv (λhl=>ld b 0 rfl rfl rfl (ld b 2 rfl rfl rfl (fZ (λu=>⟨i,b.cellAt 3 rfl 0,ld b 0 rfl rfl rfl (use (EN C.cons.cons.cons.cons t x.g b) ?_)⟩) (λu=>⟨?_,b.tail⟩)))) (λhl=>⟨?_,b.tail⟩))
   ·rintro _ I ⟨rfl,g⟩;refine⟨_,rfl,?_,g.tail⟩;congr 1;cases j:ins.contains x.g with
    |true=>rw[dF ⟨hl,u,rfl⟩]
    |false=>rw[dg λe=>by cases e.2.2]
   ·rw[dg λe=>bu]
   ·rw[dg λe=>by rw[hl]at e;cases e.1]
  ·rintro _ y ⟨rfl,b⟩;refine⟨_,rfl,cv (λj=>Dr.i b (λI g=>ld g 0 rfl rfl rfl ?_)) (λj=>⟨⟨k+1,m,dc,bu,?_,b.tail⟩,?_⟩)⟩
   ·refine St.i (g.ro 3 [1,0,2] rfl) (by show 0<1;decide) (λR B=>⟨⟨k+1,x.size,dc,bu,?_,B.ro 3 [0,2] rfl⟩,?_⟩);·rw[bK (mH j)]at he;exact he
    ·rw[dc];dsimp only;omega
   ·rw[bJ (kg j)]at he;exact he
   ·rw[dc];dsimp only;omega
 ·have:k=l.length:=by omega
  subst this;rw[wc]at he;refine⟨?_,p.tail.tail⟩;unfold pick;rw[<- he];rfl
def aGy{s wl:Sl}{a:bS}{wh:bA Bool}{q:Nat}(o:Ints E L s a)(hb:a.length<1000000)(z:L[q]?=some (bw wl 1 (ea wh)))(hn:wl.n=wh.length)(t:Int)(h:Sep E L w):
  Calls P Jw #[Sv s,Iv t,Sv wl] w (cW E (Iv (whole a t wh)) L):=by
 apply awT;unfold Oc qD qF qO qQ qW;refine Al.i h (λp C h1=>use (Rv o.cons hb t h1) ?_);rintro _ w2 ⟨rfl,h2⟩;refine⟨_,rfl,λx w'=>∃k:Nat,x=(k:Int)-1/\k<=a.length/\wT a wh k=whole a t wh/\Sep E (bC p [Sv wl]::L) w',λx _=>(x+1).toNat,?_,?_⟩
 ·have hle:=EM t a;by_cases i:kv t a<a.length;·exact⟨kv t a+1,by rw[bK i];omega,bu,by unfold whole;rw[bK i],h2⟩
  ·exact⟨0,by rw[bJ i];rfl,bu,by unfold whole;rw[bJ i];rfl,h2⟩
 rintro _ _ D ⟨k,rfl,hk,he,d⟩;refine hs (λA=>?_) (λB=>?_)
 ·obtain⟨j,rfl⟩:∃j,k=j+1:=⟨k-1,bu⟩
  have y:((j+1:Nat):Int)-1=(j:Int):=by omega
  rw[y];obtain⟨g,r⟩:∃g,a[j]?=some g:=⟨_,dP⟩
  have u:a.getD j 0=g:=by rw[dJ,r];rfl
  simp only[wT,u]at he;refine o.cons.el d j rfl r (use (K:=λv w'=>v=.bool (decide (0<=g/\wh.getD g.toNat false=true))/\Sep E (bC p [Sv wl]::L) w') ?_ ?_)
  ·apply aua;unfold Oe qW qc qm;refine h6 (λm=>⟨wl,d.cell 0,cU (λh1=>⟨wl,d.cell 0,?_⟩) (λh1=>⟨?_,d⟩)⟩) (λm=>⟨?_,d⟩)
   ·obtain⟨b,l⟩:∃b,wh[g.toNat]?=some b:=⟨_,dP⟩
    refine bw.el (q+1) d z m h1 (λc _ f=>⟨b,?_,?_,d⟩)
    ·have:=f 0 bu;rw[lK]at this;rw[this,fR];simp[ea,l]
    ·rw[dJ,l];cases b with
     |true=>rw[dF ⟨m,rfl⟩]
     |false=>rw[dg λe=>by cases e.2]
   ·rw[dg λe=>by
     have:=e.2;rw[dJ,gQ bu]at this;cases this]
   ·rw[dg λe=>bu]
  ·rintro _ F ⟨rfl,n⟩;refine⟨_,rfl,cv (λf=>o.cons.el n j rfl r ⟨?_,n.tail⟩) (λf=>⟨⟨j,?_,bu,?_,n⟩,?_⟩)⟩;·rw[bK (mH f)]at he;rw[he]
   ·exact cP bu bu
   ·rw[bJ (kg f)]at he;exact he
   ·rw[cP bu bu];dsimp only;omega
 ·have:k=0:=by omega
  subst this;exact⟨by rw[<- he];rfl,d.tail⟩
end Go.Mp
namespace Go.Kw
def EO:∀ {l:bA Pr} {ins:bS} {i a m:Int},(mX ins i (a,m) l).1=a\/(i<=(mX ins i (a,m) l).1/\(mX ins i (a,m) l).1<i+l.length)
 |[],_,_,_,_=>.inl rfl
 |p::r,ins,i,a,m=>by
  unfold mX;split
  ·rcases EO (l:=r) (ins:=ins) (i:=i+1) (a:=i) (m:=p.size)with h|h;·right;simp only[hM];omega
   ·right;simp only[hM];omega
  ·rcases EO (l:=r) (ins:=ins) (i:=i+1) (a:=a) (m:=m)with h|h;·exact .inl h
   ·right;simp only[hM];omega
def aIT{l:bA Pr}{ins:bS}(h:0<=pick l ins):pick l ins<l.length:=by
 unfold pick at h ⊢;rcases EO (l:=l) (ins:=ins) (i:=0) (a:= -1) (m:=0)with e|e<;>omega
def Rw(ins:bS):∀(l r:bA Pr) (i:Int),ij ins i (l++r)=ij ins i l++ij ins (i+l.length) r
 |[],r,i=>by simp[ij]
 |p::l,r,i=>by
  have:=Rw ins l r (i+1);rw[o5,ij,ij,this];have e:i+1+(l.length:Int)=i+((p::l).length:Int):=by simp only[hM];omega
  rw[e];split<;>simp
def yG(ins:bS):∀(l:bA Pr) (i:Int),(ij ins i l).length<=l.length
 |[],_=>ek _
 |p::l,i=>by
  have:=yG ins l (i+1);unfold ij;split<;>simp<;>omega
end Go.Kw
namespace Go.Mp
open Go Go.Vc Go.Sp Go.Proofs Go.Kc Go.Kv Go.Kw Go.Kt
variable{E:Env}{L:ct}{w W:bI}
def aGr{b:Nat}{T:bA G}{s wl:Sl}{l:bA Pr}{wh:bA Bool}{q q2:Nat}{t:Int}(hw:WF T)(J:L[q]?=some (hU s l))(hn:s.n=l.length)(hb:l.length<1000000)(Y:L[q2]?=some (bw wl 1 (ea wh)))(W:wl.n=wh.length)(h:Sep E (dT b T::L) w):
  Calls P Jm #[Pb b,Sv s,Iv t,Sv wl] w (cz λv w'=>∃o:Sl,v=Sv o/\o.n=(ml T l t wh).length/\Sep E (bw o 1 (bD (ml T l t wh))::dT b T::L) w'):=by
 have D:∀g,(ic T g).length<1000000:=λg=>by
  have h1:=yC hw g;omega
 have R:∀g,(dk T g).length<1000000:=λg=>by have:=pG hw g;omega
 apply avs;unfold N3 qC qF qJ qL qQ qU qW qa qf qh qy zz;refine use (u3 hw h) ?_;rintro _ an ⟨i1,rfl,V,h1⟩;refine⟨i1,rfl,use (aJu (q:=q+2) (s:=s) (i:=i1) (l:=l) J hn hb (Ints.row V) (D t) h1) ?_⟩;rintro _ w2 ⟨rfl,h2⟩;obtain⟨v,K⟩:∃v,pick l (ic T t)=v:=⟨_,rfl⟩
 have d:ml T l t wh=if v<0 then[]else let w:=whole (dk T (l.getD v.toNat ⟨0,0,false⟩).g) t wh;if w<0 then[v]else ij (ic T w) 0 l:=by unfold ml;rw[K]
 rw[K];refine⟨_,rfl,cU (λj=>⟨⟨none,0,0⟩,rfl,?_⟩) (λS=>?_)⟩
 ·rw[d,bK j];exact⟨rfl,bw.none_ h2.tail⟩
 rw[cD]at d;have ak:v<l.length:=by rw[<- K];exact aIT bu
 obtain⟨x,hx⟩:∃x,l[v.toNat]?=some x:=⟨_,dP⟩
 have ae:(l.getD v.toNat ⟨0,0,false⟩).g=x.g:=by rw[dJ,hx];rfl
 rw[ae]at d;refine lV Pr.mx (q+2) h2 J hn (show v=((v.toNat:Nat):Int) by omega) hx (λc _ f=>⟨x.g,by rw[cf];exact f 0 _ rfl,use (sS hw h2.tail) ?_⟩);rintro _ ao ⟨H,rfl,Q,aa⟩;refine⟨H,rfl,use (aGy (L:=bw H 1 (bD (dk T x.g))::dT b T::L) (q:=q2+2) (s:=H) (wl:=wl) (wh:=wh) (Ints.row Q) (R _) Y W t aa) ?_⟩;rintro _ ap ⟨rfl,O⟩;obtain⟨g,U⟩:∃g,whole (dk T x.g) t wh=g:=⟨_,rfl⟩
 rw[U]at d ⊢;dsimp only at d;refine⟨_,rfl,cU (λj=>Al.i O (λp ag n=>⟨⟨some ⟨p,0,none⟩,1,1⟩,rfl,?_⟩)) (λaf=>use (u3 hw O.tail) ?_)⟩
 ·rw[d,bK j];exact⟨rfl,bw.make (vs:=bD [v]) (spare:=[]) (n.fr 0 rfl |>.ro 2 [0] rfl) rfl rfl (ek 1)⟩
 rintro _ ag ⟨i2,rfl,F,n⟩;rw[cD]at d;obtain⟨ins,I⟩:∃ins,ic T g=ins:=⟨_,rfl⟩
 have C:=D g;rw[I]at F n d C;rw[d];refine⟨i2,rfl,λo y w'=>∃k:Nat,y=k/\k<=l.length/\o.n=(ij ins 0 (l.take k)).length/\Sep E (bw o 1 (bD (ij ins 0 (l.take k)))::bw i2 1 (bD ins)::dT b T::L) w',λ_ y _=>(l.length-y).toNat,⟨0,rfl,fj _,rfl,bw.none_ n⟩,?_⟩;rintro _ o _ aq ⟨k,rfl,hk,ho,A⟩;refine cU (λj=>?_) (λS=>?_)
 ·obtain⟨z,Z⟩:∃z,l[k]?=some z:=⟨_,dP⟩
  have aj:(ij ins 0 (l.take k)).length<=k:=by have:=yG ins (l.take k) 0;rw[hF]at this;omega
  have a:ij ins 0 (l.take (k+1))=ij ins 0 (l.take k)++(if z.live=true/\ins.contains z.g=true then[(k:Int)]else[]):=by
   rw[fL Z,Rw,hF,show min k l.length=k by omega,zd];congr 1
  refine vy (q+3) A J hn rfl Z (λ_=>Al.i A (λr ar ab=>et _ ab rfl (λah m=>?_)));have m:Sep E (bC r z.vs::bw o 1 (bD (ij ins 0 (l.take k)))::bw i2 1 (bD ins)::dT b T::L) ah:=m;have ad:Ints E (bC r z.vs::bw o 1 (bD (ij ins 0 (l.take k)))::bw i2 1 (bD ins)::dT b T::L) i2 ins:=(Ints.row F).cons.cons;refine⟨λc w'=>c=decide (z.live=true/\ins.contains z.g=true)/\Sep E (bw o 1 (bD (ij ins 0 (l.take k)))::bw i2 1 (bD ins)::dT b T::L) w',ld m 0 rfl rfl rfl (cv (λhl=>ld m 0 rfl rfl rfl (use (EN ad C z.g m) ?_)) (λhl=>⟨?_,m.tail⟩)),?_⟩
  ·rintro _ ai ⟨rfl,B⟩;refine⟨_,rfl,?_,B.tail⟩;cases f:ins.contains z.g with
   |true=>rw[dF ⟨hl,rfl⟩]
   |false=>rw[dg λe=>by cases e.2]
  ·rw[dg λe=>by rw[hl]at e;cases e.1]
  ·rintro _ c ai ⟨rfl,B⟩;refine cv (λf=>Al.i B (λu al M=>sR ho bu M (λo' am X N=>⟨⟨k+1,dc,bu,?_,?_⟩,?_⟩))) (λf=>⟨⟨k+1,dc,bu,?_,?_⟩,?_⟩);·rw[a,bK (mH f)];exact X
   ·rw[a,bK (mH f)];exact N
   ·rw[dc];dsimp only;omega
   ·rw[a,bJ (kg f),hv];exact ho
   ·rw[a,bJ (kg f),hv];exact B
   ·rw[dc];dsimp only;omega
 ·have:k=l.length:=by omega
  subst this;rw[gf]at ho A;exact⟨o,rfl,ho,A.ro 3 [0,2] rfl⟩
end Go.Mp
namespace Go.Kc
open Go Go.Kt
variable{S T:Cs}
def grow(x:Act):Nat:=if x.k.tmod 12=3\/x.k.tmod 12=4\/x.k.tmod 12=6 then 1 else 0
def Rx(h:Inv S)(x:Act)(hx:grow x=0):(S.act x).1.bt.next=S.bt.next:=by
 have a:¬ (x.k.tmod 12=3\/x.k.tmod 12=4\/x.k.tmod 12=6):=λe=>by unfold grow at hx;rw[bK e]at hx;cases hx
 refine w5 (P:=λr=>r.1.bt.next=S.bt.next) S x (λ_=>?_) (λ_=>?_) (λ_=>?_) (λe=>absurd (.inl e) a) (λe=>absurd (.inr (.inl e)) a) (λ_=>w6 h.toInv0 h.anon _ _) (λe=>absurd (.inr (.inr e)) a) (λ_=>?_) (λ_=>?_) (λ_=>?_) (λ_=>rfl) (λ_=>((A5 h _ _).kept h).next);·unfold Cs.cn;dsimp only;split<;>rfl
 ·unfold Cs.remove;dsimp only;split;·exact(q5 _ _ _).1
  ·rfl
 ·unfold Cs.cB Cs.iL;repeat' split
  all_goals rfl
 ·unfold Cs.put;dsimp only;split;·rfl
  ·split;·exact(q3 _ _ _).1
   ·rfl
 ·unfold Cs.get;dsimp only;split;·rfl
  ·dsimp only;split<;>rfl
 ·rcases nY h x.b x.c with⟨_,he⟩|⟨p,hp,⟨_,he⟩|⟨_,_,he⟩|⟨_,_,_,_,he,_⟩⟩
  ·rw[he]
  ·rw[he]
  ·rw[he];rfl
  ·exact he
inductive cq:Nat->Cs->Cs->Prop
 |nil (n:Nat) (S:Cs):cq n S S
 |act {n:Nat} {S T:Cs} (x:Act):cq n S T->cq (n+grow x) S (T.act x).1
def cq.up{n m:Nat}(h:cq n S T)(k:n<=m):cq m S T:=by
 induction h generalizing m with
 |nil=>exact .nil m _
 |act x h a=>
  obtain⟨j,rfl⟩:∃j,m=j+grow x:=⟨m-grow x,bu⟩
  exact .act x (a bu)
def cq.trans{n m:Nat}{U:Cs}(h:cq n S T)(k:cq m T U):cq (n+m) S U:=by
 induction k with
 |nil m=>exact h.up (Nat.le_add_right _ _)
 |act x k a=>rw[<- tF];exact .act x (a h)
def cq.inv{n:Nat}(h:cq n S T)(g:Inv S)(hn:S.bt.next+n<=16777216):Inv T/\S.bt.next<=T.bt.next/\T.bt.next<=S.bt.next+n:=by
 induction h with
 |nil n=>exact⟨g,g2 _,bu⟩
 | @act n S T x h f=>
  obtain⟨h1,h2,i⟩:=f g bu;by_cases hx:grow x=0
  ·rw[hx];refine⟨?_,by rw[Rx h1 x hx];omega,by rw[Rx h1 x hx];omega⟩;by_cases d:T.bt.next<16777216;·exact h1.act d x
   ·have b:¬ (x.k.tmod 12=3\/x.k.tmod 12=4\/x.k.tmod 12=6):=λe=>by unfold grow at hx;rw[bK e]at hx;cases hx
    exact w5 (P:=λr=>Inv r.1) T x (λ_=>h1.cn _) (λ_=>h1.remove _) (λ_=>h1.cB _ _ _) (λe=>absurd (.inl e) b) (λe=>absurd (.inr (.inl e)) b) (λ_=>h1.bX _ _) (λe=>absurd (.inr (.inr e)) b) (λ_=>h1.put _ _ _) (λ_=>h1.get _ _) (λ_=>h1.bO _ _) (λ_=>h1.dt _) (λ_=>h1.shrink _ _)
  ·have c:grow x=1:=by unfold grow at hx ⊢;split at hx<;>first|omega|simp_all
   rw[c]at hn ⊢;have a:T.bt.next<16777216:=by omega
   have:=gz h1 a x;exact⟨h1.act a x,bu,bu⟩
def cq.one(x:Act):cq (grow x) S (S.act x).1:=by
 have:=cq.act x (cq.nil 0 S);rwa[fx]at this
def cq.fresh(g:Int):cq 1 S (S.fresh g).1:=cq.one ⟨3,g,0,0,0,0⟩
def cq.cA(k:Int×Int)(g:Int):cq 1 S (S.cA k g).1:=cq.one ⟨4,g,0,0,k.1,k.2⟩
def cq.bX(id g:Int):cq 0 S (S.bX id g).1:=cq.one ⟨5,g,id,0,0,0⟩
def cq.copy(id g:Int):cq 1 S (S.copy id g).1:=cq.one ⟨6,g,id,0,0,0⟩
def cq.get(id a:Int):cq 0 S (S.get id a).1:=cq.one ⟨8,a,id,0,0,0⟩
def cq.bO(id n:Int):cq 0 S (S.bO id n).1:=cq.one ⟨9,0,id,n,0,0⟩
def cq.dt(t:Int):cq 0 S (S.dt t).1:=cq.one ⟨10,t,0,0,0,0⟩
def cq.shrink(t n:Int):cq 0 S (S.shrink t n).1:=cq.one ⟨11,t,0,n,0,0⟩
def cq.cn(p:Int):cq 0 S (S.cn p).1:=cq.one ⟨0,p,0,0,0,0⟩
def cq.remove(g:Int):cq 0 S (S.remove g).1:=cq.one ⟨1,g,0,0,0,0⟩
def cq.cB(g a n:Int):cq 0 S (S.cB g a n).1:=cq.one ⟨2,g,a,n,0,0⟩
def cq.put(id a:Int)(b:UInt8):cq 0 S (S.put id a b).1:=by
 have h:=cq.one (S:=S) ⟨7,a,id,(b.toNat:Int),0,0⟩;have e:(S.act ⟨7,a,id,(b.toNat:Int),0,0⟩).1=(S.put id a (mh (b.toNat:Int))).1:=rfl;have c:mh (b.toNat:Int)=b:=by
  unfold mh;have:=b.toNat_lt;rw[show((b.toNat:Int)%256).toNat=b.toNat by omega];exact UInt8.ofNat_toNat
 rw[e,c]at h;exact h
end Go.Kc
namespace Go.Kw
open Go Go.Kc Go.Kt
abbrev PP:=Int×bV Sp
def jb(l:bA PP):Nat:=l.countP λp=>p.2.isSome
structure Vok(V:Vs):Prop where
 inv:Inv V.core
 sp:∀(i:Nat) g s,V.procs[i]?=some (g,some s)->fC s
 fk:V.procs.length<=64
structure gk(V V':Vs):Prop where
 len:V'.procs.length=V.procs.length
 at_:∀i:Nat,V'.procs[i]?=V.procs[i]? \/∃g s,V.procs[i]?=some (g,some s)/\V'.procs[i]?=some (g,none)
def gk.refl(V:Vs):gk V V:=⟨rfl,λ_=>.inl rfl⟩
def gk.trans{U V W:Vs}(h:gk U V)(k:gk V W):gk U W:=by
 refine⟨k.len.trans h.len,λi=>?_⟩;rcases k.at_ i with e|⟨g,s,a,b⟩
 ·rw[e];exact h.at_ i
 ·rcases h.at_ i with f|⟨c,s',f1,f2⟩
  ·exact .inr ⟨g,s,f▸a,b⟩
  ·rw[f2]at a;cases a
def gk.core{V:Vs}(S:Cs):gk V {V with core:=S} :=⟨rfl,λ_=>.inl rfl⟩
def iu{V:Vs}{pid:Int}{s:Sp}(h:V.space pid=some s):0<=pid/\V.procs[pid.toNat]?=some (V.group pid,some s):=by
 unfold Vs.space at h;split at h
 ·next a=>
  refine⟨a,?_⟩;cases hp:V.procs[pid.toNat]? with
  |none=>rw[hp]at h;cases h
  |some p=>
   rw[hp]at h;have h:p.2=some s:=h;unfold Vs.group;rw[dJ,hp,<- h];rfl
 ·cases h
def jw{V:Vs}{i:Nat}{g:Int}{s:bV Sp}(h:V.procs[i]?=some (g,s)):V.space (i:Int)=s/\V.group (i:Int)=g:=by
 unfold Vs.space Vs.group;rw[eK,dA,h,dJ,h];exact⟨rfl,rfl⟩
def vz:∀(ids:bS) (S:Cs),cq 0 S (ed ids S)
 |[],S=>.nil 0 S
 |x::r,S=>by
  have h:=(cq.bO (S:=S) x (-1)).trans (vz r (S.bO x (-1)).1);exact h
def Ry:∀(ids:bS) (S:Cs),cq 0 S (dD ids S)
 |[],S=>.nil 0 S
 |x::r,S=>by
  have h:=(cq.bO (S:=S) x 1).trans (Ry r (S.bO x 1).1);exact h
def vA{V:Vs}{pid:Int}{s:Sp}(h:V.space pid=some s):V.exit pid=⟨ed (s.ids 0 65536) V.core,V.procs.set pid.toNat (V.group pid,none)⟩:=by
 unfold Vs.exit;rw[h];rfl
def EP{V:Vs}{pid:Int}(h:V.space pid=none):V.exit pid=V:=by unfold Vs.exit;rw[h]
def Rz(V:Vs)(pid:Int):cq 0 V.core (V.exit pid).core/\gk V (V.exit pid)/\jb (V.exit pid).procs<=jb V.procs/\((V.space pid).isSome->jb (V.exit pid).procs<jb V.procs)/\∀i:Nat,(i:Int)≠pid->(V.exit pid).procs[i]?=V.procs[i]? :=by
 cases h:V.space pid with
 |none=>rw[EP h];exact⟨.nil 0 _,gk.refl V,ek _,(λe=>by cases e),λ_ _=>rfl⟩
 |some s=>
  rw[vA h];obtain⟨d,hp⟩:=iu h;have a:=(cZ.1 hp).1;have b:V.procs[pid.toNat]=(V.group pid,some s):=by rw[dO a]at hp;exact cR hp
  have c:jb (V.procs.set pid.toNat (V.group pid,none))<jb V.procs:=by
   unfold jb;rw[List.countP_set a,b];have:0<V.procs.countP (λp=>p.2.isSome):=List.countP_pos_iff.2 ⟨_,eI hp,rfl⟩;exact Nat.sub_lt this Nat.one_pos
  refine⟨vz _ _,⟨by simp,λi=>?_⟩,by dsimp only;omega,λ_=>c,λi f=>?_⟩
  ·show(V.procs.set pid.toNat (V.group pid,none))[i]?=_\/_;by_cases e:pid.toNat=i
   ·subst e;refine .inr ⟨_,_,hp,?_⟩;show(V.procs.set pid.toNat (V.group pid,none))[pid.toNat]?=_;rw[jd a]
   ·exact .inl (iE e)
  ·exact iE bu
def te:∀(l:bS) (V:Vs),cq 0 V.core (V.de l).core/\gk V (V.de l)/\jb (V.de l).procs<=jb V.procs/\∀i:Nat,(i:Int)∉l->(V.de l).procs[i]?=V.procs[i]?
 |[],V=>⟨.nil 0 _,gk.refl V,ek _,λ_ _=>rfl⟩
 |x::r,V=>by
  obtain⟨b,c,a3,_,a5⟩:=Rz V x;obtain⟨b1,b2,b3,b4⟩:=te r (V.exit x);refine⟨b.trans b1,c.trans b2,mK b3 a3,λi a=>?_⟩;rw[ew,o9]at a;exact(b4 i a.2).trans (a5 i a.1)
def RA{x:Int}{r:bS}{V:Vs}(h:(V.space x).isSome=true):jb (V.de (x::r)).procs<jb V.procs:=
 yZ (te r (V.exit x)).2.2.1 ((Rz V x).2.2.2.1 h)
def ER:∀ {l:bA Pr} {ins:bS} {i a m:Int},(mX ins i (a,m) l).1=a\/∃(j:Nat) (p:Pr),(mX ins i (a,m) l).1=i+j/\l[j]?=some p/\p.live=true
 |[],_,_,_,_=>.inl rfl
 |p::r,ins,i,a,m=>by
  unfold mX;split
  ·next c=>
   rcases ER (l:=r) (ins:=ins) (i:=i+1) (a:=i) (m:=p.size)with h|⟨j,q,h1,h2,b⟩
   ·exact .inr ⟨0,p,bu,rfl,c.1⟩
   ·exact .inr ⟨j+1,q,bu,by simpa using h2,b⟩
  ·rcases ER (l:=r) (ins:=ins) (i:=i+1) (a:=a) (m:=m)with h|⟨j,q,h1,h2,b⟩
   ·exact .inl h
   ·exact .inr ⟨j+1,q,bu,by simpa using h2,b⟩
def ES{ins:bS}:∀ {l:bA Pr} {i x:Int},x∈ij ins i l->∃(j:Nat) (p:Pr),x=i+j/\l[j]?=some p/\p.live=true
 |p::r,i,x,h=>by
  unfold ij at h;split at h
  ·next b=>
   rcases ew.1 h with rfl|h;·exact⟨0,p,bu,rfl,b.1⟩
   ·obtain⟨j,q,h1,h2,a⟩:=ES h;exact⟨j+1,q,bu,by simpa using h2,a⟩
  ·obtain⟨j,q,h1,h2,a⟩:=ES h;exact⟨j+1,q,bu,by simpa using h2,a⟩
def RB{V:Vs}{j:Nat}{p:Pr}(h:V.pr[j]?=some p)(hl:p.live=true):∃s,V.space (j:Int)=some s:=by
 unfold Vs.pr at h;rw[eC]at h;cases hp:V.procs[j]? with
 |none=>rw[hp]at h;cases h
 |some q=>
  obtain⟨g,o⟩:=q;rw[hp]at h;cases o with
  |none=>cases h;cases hl
  |some s=>exact⟨s,(jw hp).1⟩
def ET{V:Vs}{T:bA G}{t x:Int}{wh:bA Bool}(h:x∈ml T V.pr t wh):∃s,V.space x=some s:=by
 unfold ml at h;dsimp only at h;split at h;·cases h
 ·next c=>
  split at h
  ·rw[ia]at h;subst h;unfold pick at c ⊢;rcases ER (l:=V.pr) (ins:=ic T t) (i:=0) (a:= -1) (m:=0)with e|⟨j,p,e,h2,b⟩
   ·omega
   ·rw[e,zd];exact RB h2 b
  ·obtain⟨j,p,e,h2,b⟩:=ES h;rw[e,zd];exact RB h2 b
def dead(V:Vs)(t:Int):bS:=ml V.core.tree V.pr t (mY V.core)
def nM(f:Cs->Int->Cs×Int×Int×Int)(pid:Int)(n:Nat)(V:Vs)(o:cF):fy f pid (n+1) V o=
    (let r:=f V.core (V.group pid)
     let V1:Vs:={V with core:=r.1}
     if r.2.2.2=0 then(V1,o,some r.2.1)else if r.2.2.2≠12 then(V1, {o with err:=r.2.2.2},none)else
     let d:=dead V1 r.2.2.1;let a:=V1.de d;let b:cF:={o with bH:=o.bH++d}
     if d= []then(a, {b with err:=12},none)else if pid∈d then(a, {b with err:=13},none)else fy f pid n a b):=rfl
def vB{f:Cs->Int->Cs×Int×Int×Int}{pid:Int}(hf:∀S g,cq 1 S (f S g).1):∀(n:Nat) (V:Vs) (o:cF),cq n V.core (fy f pid n V o).1.core/\gk V (fy f pid n V o).1/\((fy f pid n V o).2.2.isSome=true->(fy f pid n V o).1.procs[pid.toNat]?=V.procs[pid.toNat]? \/pid<0)
 |0,V,o=>⟨.nil 0 _,gk.refl V,λh=>by cases h⟩
 |n+1,V,o=>by
  rw[nM];dsimp only;have h1:=hf V.core (V.group pid);have a:cq (n+1) V.core (f V.core (V.group pid)).1:=h1.up bu;generalize f V.core (V.group pid)=r at h1 a;split;·exact⟨a,gk.core _,λ_=>.inl rfl⟩
  split;·exact⟨a,gk.core _,λh=>by cases h⟩
  generalize dead {V with core:=r.1} r.2.2.1=d;obtain⟨b1,b2,b3,b4⟩:=te d {V with core:=r.1};have h2:cq (n+1) V.core (Vs.de {V with core:=r.1} d).core:=(h1.trans b1).up bu;have b:gk V (Vs.de {V with core:=r.1} d):=(gk.core _).trans b2;split;·exact⟨h2,b,λh=>by cases h⟩
  split;·exact⟨h2,b,λh=>by cases h⟩
  next ef=>
  obtain⟨c,i,j⟩:=vB hf n (Vs.de {V with core:=r.1} d) {o with bH:=o.bH++d};refine⟨((h1.trans b1).trans c).up bu,b.trans i,λh=>?_⟩;rcases j h with e|e
  ·by_cases k:pid<0;·exact .inr k
   ·refine .inl (e.trans (b4 pid.toNat ?_));rw[show((pid.toNat:Nat):Int)=pid by omega];exact ef
  ·exact .inr e
end Go.Kw
namespace Go.Mp
open Go Go.Vc Go.Sp Go.Proofs Go.Kc
variable{E:Env}{L:ct}{w:bI}{A:At}{S:Cs}
def vC{W:bI}{q:Nat}{a:Addr}{v:bE}(h:Sep E L w)(b:L[q]?=some (dY W.heap))(c:W.cell? a=some v):w.cell? a=some v:=
 (dY.open (h.fr q b)).2.oL (i:=0) rfl c
end Go.Mp
namespace Go.Mp
open Go Go.Vc Go.Sp Go.Proofs Go.Kc Go.Kw Go.Kt
variable{E:Env}{L:ct}{w W:bI}{A:At}{S:Cs}{v:Nat}{r:Sl}
abbrev PS:=bA (Int×bV (Nat×Kw.Sp))
def h8(p:Int×bV (Nat×Kw.Sp)):bA bE:=[Iv p.1,.pointer (p.2.map λq=>⟨q.1,0,none⟩)]
def rv(p:Int×bV (Nat×Kw.Sp)):(h8 p).length=2:=rfl
def iP(p:Int×bV (Nat×Kw.Sp)):Asn:=match p.2 with|some q=>dX q.1 q.2|none=>emp
def plain(ps:PS):bA PP:=ps.map λp=>(p.1,p.2.map Prod.snd)
def Vm(A:At)(v:Nat)(r:Sl)(S:Cs)(ps:PS)(L:ct):ct:=
 cd A S++(bC v [Pb A.c,Sv r]::bw r 2 (bQ h8 ps)::(ps.map iP++L))
variable{ps:PS}
def RC(A:At)(v:Nat)(r:Sl)(S:Cs)(B:Asn):ct:=cd A S++[bC v [Pb A.c,Sv r],B]
def tf(B:Asn):(RC A v r S B).length=18:=rfl
def yH(B:Asn)(M:ct):cd A S++(bC v [Pb A.c,Sv r]::B::M)=RC A v r S B++M:=rfl
def jc{i:Nat}{p:Int×bV (Nat×Kw.Sp)}(h:ps[i]?=some p):(plain ps)[i]?=some (p.1,p.2.map Prod.snd):=by unfold plain;rw[eC,h];rfl
def kc(ps:PS):(plain ps).length=ps.length:=ei _
def RD{i:Nat}{g:Int}{s:Kw.Sp}(h:(plain ps)[i]?=some (g,some s)):∃a,ps[i]?=some (g,some (a,s)):=by
 unfold plain at h;rw[eC]at h;cases hp:ps[i]? with
 |none=>rw[hp]at h;cases h
 |some p=>
  obtain⟨b,o⟩:=p;rw[hp]at h;cases o with
  |none=>cases h
  |some q=>cases h;exact⟨q.1,rfl⟩
def vD(k:Nat):(Vm A v r S ps L)[18+ps.length+k]?=L[k]? :=by
 unfold Vm;rw[yH,fM (by rw[tf];omega),tf,fM (by simp;omega)];congr 1;simp;omega
def RE{i a:Nat}{g:Int}{s:Kw.Sp}(h:ps[i]?=some (g,some (a,s)))(B:Asn):(cd A S++(bC v [Pb A.c,Sv r]::B::(ps.map iP++L)))[18+i]?=some (dX a s):=by
 have b:=(cZ.1 h).1;rw[yH,fM (by rw[tf];omega),tf,tp,eM (by simpa using b),eC,h];rfl
def EU{i a:Nat}{g:Int}{s:Kw.Sp}(h:ps[i]?=some (g,some (a,s))):(Vm A v r S ps L)[18+i]?=some (dX a s):=RE h _
def aIU{i a:Nat}{g:Int}{s s':Kw.Sp}(h:ps[i]?=some (g,some (a,s))):bQ h8 (ps.set i (g,some (a,s')))=bQ h8 ps:=by
 unfold bQ;congr 1;apply hg;intro j;rw[eC,eC,hd];split
 ·next e=>
  subst e;have b:=(cZ.1 h).1;rw[bK b,h];rfl
 ·rfl
def RF{i:Nat}(a:i<ps.length)(B X:Asn)(p:Int×bV (Nat×Kw.Sp))(hp:iP p=X):(cd A S++(bC v [Pb A.c,Sv r]::B::(ps.map iP++L))).set (18+i) X=cd A S++(bC v [Pb A.c,Sv r]::B::((ps.set i p).map iP++L)):=by
 rw[yH,yH,jx _ _ (by rw[tf];omega),tf,tp,rF _ _ (by simpa using a),hG,hp]
def RG{i a:Nat}{g:Int}{s s':Kw.Sp}(h:ps[i]?=some (g,some (a,s))):(Vm A v r S ps L).set (18+i) (dX a s')=Vm A v r S (ps.set i (g,some (a,s'))) L:=by
 unfold Vm;rw[aIU h];exact RF (cZ.1 h).1 _ _ _ rfl
def Vm.op{i a:Nat}{g:Int}{s:Kw.Sp}(b:ps[i]?=some (g,some (a,s)))(h:Sep E (Vm A v r S ps L) w):Sep E (dX a s::(Vm A v r S ps L).eraseIdx (18+i)) w:=h.fr _ (EU b)
def Vm.sh{i a:Nat}{g:Int}{s s':Kw.Sp}(b:ps[i]?=some (g,some (a,s)))(h:Sep E (dX a s'::(Vm A v r S ps L).eraseIdx (18+i)) w):Sep E (Vm A v r S (ps.set i (g,some (a,s'))) L) w:=RG b▸Sep.put (EU b) h
def tg{α:Type}{l:bA α}{i:Nat}{x:α}(h:l[i]?=some x):l.set i x=l:=by
 apply hg;intro j;rw[hd];split;·next e=>subst e;rw[bK (cZ.1 h).1,h]
 ·rfl
def Vm.bk{i a:Nat}{g:Int}{s:Kw.Sp}(b:ps[i]?=some (g,some (a,s)))(h:Sep E (dX a s::(Vm A v r S ps L).eraseIdx (18+i)) w):Sep E (Vm A v r S ps L) w:=by
 have:=Vm.sh b h;rwa[tg b]at this
def Vm.e9{B:Asn}(h:Sep E (B::Vm A v r S ps L) w):Sep E (Vm A v r S ps (B::L)) w:=by
 refine h.perm ?_;unfold Vm;refine jf.symm.trans (pV _ ?_);have h1:(B::(ps.map iP++L)).Perm (ps.map iP++B::L):=jf.symm;exact((List.Perm.swap _ _ _).trans (List.Perm.cons _ (List.Perm.swap _ _ _))).trans (List.Perm.cons _ (List.Perm.cons _ h1))
def Vm.out{B:Asn}(h:Sep E (Vm A v r S ps (B::L)) w):Sep E (B::Vm A v r S ps L) w:=by
 refine h.perm (List.Perm.symm ?_);unfold Vm;refine jf.symm.trans (pV _ ?_);have h1:(B::(ps.map iP++L)).Perm (ps.map iP++B::L):=jf.symm;exact((List.Perm.swap _ _ _).trans (List.Perm.cons _ (List.Perm.swap _ _ _))).trans (List.Perm.cons _ (List.Perm.cons _ h1))
def yI(M:ct):Vm A v r S ps M=(cd A S++(bC v [Pb A.c,Sv r]::bw r 2 (bQ h8 ps)::ps.map iP))++M:=by unfold Vm;simp
def Vm.hE(F:ct)(h:Sep E (F++Vm A v r S ps L) w):Sep E (Vm A v r S ps (F++L)) w:=by
 rw[yI]at h ⊢;exact h.perm (pU _ _ _)
def Vm.fh(F:ct)(h:Sep E (Vm A v r S ps (F++L)) w):Sep E (F++Vm A v r S ps L) w:=by
 rw[yI]at h ⊢;exact h.perm (pU _ _ _)
def Vm.EV{i a:Nat}{g:Int}{s s':Kw.Sp}{B:Asn}(b:ps[i]?=some (g,some (a,s)))(h:Sep E (B::dX a s'::(Vm A v r S ps L).eraseIdx (18+i)) w):Sep E (Vm A v r S (ps.set i (g,some (a,s'))) (B::L)) w:=
 Vm.e9 (RG b▸Sep.ir (EU b) h)
def Vm.bk1{i a:Nat}{g:Int}{s:Kw.Sp}{B:Asn}(b:ps[i]?=some (g,some (a,s)))(h:Sep E (B::dX a s::(Vm A v r S ps L).eraseIdx (18+i)) w):Sep E (Vm A v r S ps (B::L)) w:=by
 have:=Vm.EV b h;rwa[tg b]at this
def Vm.pL{L':ct}(hp:L.Perm L')(h:Sep E (Vm A v r S ps L) w):Sep E (Vm A v r S ps L') w:=by
 refine h.perm ?_;unfold Vm;exact pV _ (List.Perm.cons _ (List.Perm.cons _ (pV _ hp)))
def Vm.el{i:Nat}{p:Int×bV (Nat×Kw.Sp)}{F:Addr->Prop}{x:Int}(hn:r.n=ps.length)(h:Sep E (Vm A v r S ps L) w)(hx:x=i)(a:ps[i]?=some p)(k:∀b,r.p=some ⟨b,0,none⟩->(∀j u,(h8 p)[j]?=some u->w.cell? ⟨b,i*2+j,none⟩=some u)->F ⟨b,i*2,none⟩):cK r.p r.n x 2 F:=
 lV rv 17 h rfl hn hx a k
def RH{pid:Int}(hn:r.n=ps.length)(h:Sep E (Vm A v r S ps L) w):Calls P uz #[Pb v,Iv pid] w
  (cz λx w'=>((∃(i a:Nat) (g:Int) (s:Kw.Sp),pid=i/\ps[i]?=some (g,some (a,s))/\x=Pb a)\/(Vs.space ⟨S,plain ps⟩ pid=none/\x=.pointer none))/\w'=w):=by
 apply YZ;unfold MY qK qW qZ qg;refine⟨λw'=>(0<=pid/\pid<ps.length)/\w'=w,cU (λe=>⟨.inr ⟨?_,rfl⟩,rfl⟩) (λc=>⟨_,rfl,r,h.cellAt 16 rfl 1,hs (λe=>⟨.inr ⟨?_,rfl⟩,rfl⟩) (λh1=>⟨⟨c,bu⟩,rfl⟩)⟩),?_⟩;·unfold Vs.space;rw[cD]
 ·unfold Vs.space;rw[bK c];show((plain ps)[pid.toNat]?).bind Prod.snd=none;rw[gQ (by rw[kc];omega)];rfl
 rintro _ _ ⟨⟨c,h1⟩,rfl⟩;obtain⟨p,hp⟩:∃p,ps[pid.toNat]?=some p:=⟨_,dP⟩
 refine⟨_,rfl,r,h.cellAt 16 rfl 1,Vm.el hn h (show pid=((pid.toNat:Nat):Int) by omega) hp (λb _ d=>⟨_,by rw[cf];exact d 1 _ rfl,?_,rfl⟩)⟩;obtain⟨g,o⟩:=p;cases o with
 |some q=>exact .inl ⟨pid.toNat,q.1,g,q.2,bu,hp,rfl⟩
 |none=>
  refine .inr ⟨?_,rfl⟩;unfold Vs.space;rw[bK c];show((plain ps)[pid.toNat]?).bind Prod.snd=none;rw[jc hp];rfl
def RI{s:Sl}{ids:bS}(c:∀S',Ints E (Vm A v r S' ps L) s ids)(hb:ids.length<1000000)(g:Kc.Inv S)(h:Sep E (Vm A v r S ps L) w):
  Calls P BA #[Pb v,Sv s] w (cW E (.tuple #[]) (Vm A v r (ed ids S) ps L)):=by
 have hlen:=(c S).1;apply Zx;unfold Nr qD qO qQ qW qZ;refine⟨λx w'=>∃(k:Nat) (S':Cs),x=k/\k<=ids.length/\Kc.Inv S'/\ed (ids.drop k) S'=ed ids S/\Sep E (Vm A v r S' ps L) w',λx _=>(ids.length-x).toNat,⟨0,S,rfl,fj _,g,rfl,h⟩,?_⟩;rintro _ _ i ⟨k,S',rfl,hk,b,he,h1⟩;refine cU (λf=>?_) (λe=>?_)
 ·obtain⟨x,hx⟩:∃x,ids[k]?=some x:=⟨_,dP⟩
  have d:ids.drop k=x::ids.drop (k+1):=by
   have a:=(cZ.1 hx).1;rw[lG a];rw[dO a]at hx;rw[cR hx]
  rw[d]at he;refine(c S').el h1 k rfl hx ⟨_,rfl,_,h1.cellAt 16 rfl 0,use (yD (id:=x) (n:= -1) b h1) ?_⟩;rintro _ w2 ⟨rfl,h2⟩;exact⟨_,rfl,⟨k+1,_,dc,bu,b.bO x (-1),he,h2⟩,by rw[dc];dsimp only;omega⟩
 ·have:k=ids.length:=by omega
  subst this;rw[wc]at he;exact⟨rfl,he▸h1⟩
structure iQ(ps cI:PS):Prop where
 len:cI.length=ps.length
 at_:∀i:Nat,cI[i]?=ps[i]? \/∃g q,ps[i]?=some (g,some q)/\cI[i]?=some (g,none)
def iQ.refl(ps:PS):iQ ps ps:=⟨rfl,λ_=>.inl rfl⟩
def iQ.trans{a b c:PS}(h:iQ a b)(k:iQ b c):iQ a c:=by
 refine⟨k.len.trans h.len,λi=>?_⟩;rcases k.at_ i with e|⟨g,q,d,j⟩
 ·rw[e];exact h.at_ i
 ·rcases h.at_ i with f|⟨l,m,f1,f2⟩
  ·exact .inr ⟨g,q,f▸d,j⟩
  ·rw[f2]at d;cases d
def iQ.die{i:Nat}{g:Int}{q:Nat×Kw.Sp}(h:ps[i]?=some (g,some q)):iQ ps (ps.set i (g,none)):=by
 refine⟨by simp,λj=>?_⟩;by_cases e:i=j;·subst e;exact .inr ⟨g,q,h,jd (cZ.1 h).1⟩
 ·exact .inl (iE e)
def RJ{i a:Nat}{g:Int}{s:Kw.Sp}(f:ps[i]?=some (g,some (a,s)))(p:fC s)(hn:r.n=ps.length)(D:Kc.Inv S)(h:Sep E (Vm A v r S ps L) w):
  Calls P Bx #[Pb v,Iv (i:Nat)] w (cW E (.tuple #[]) (Vm A v r (ed (s.ids 0 65536) S) (ps.set i (g,none)) L)):=by
 have m:=(cZ.1 f).1;apply Zt;unfold Nn qE qJ qK qW qZ;refine⟨_,rfl,r,h.cellAt 16 rfl 1,Vm.el hn h rfl f (λb _ z=>⟨_,by rw[cf];exact z 1 _ rfl,use (Ph (a:=0) (b:=65536) bu bu p (Vm.op f h)) ?_⟩)⟩;rintro _ F ⟨q,rfl,o,h1⟩;have h2:=Vm.EV f h1;have k:(s.cut 0 65536).2=s.ids 0 65536:=rfl;rw[k]at o h2;have c:(ps.set i (g,some (a,(s.cut 0 65536).1)))[i]?=some (g,some (a,(s.cut 0 65536).1)):=jd m;have y:∀S',Ints E (Vm A v r S' (ps.set i (g,some (a,(s.cut 0 65536).1))) (bw q 1 (bD (s.ids 0 65536))::L)) q (s.ids 0 65536):=λS'=>(Ints.row o).of λ_ B=>Vm.out B;refine⟨q,rfl,use (RI y (by have:=yf p 0 65536;omega) D h2) ?_⟩;rintro _ w2 ⟨rfl,d⟩;have d:=(Vm.out d).tail;have n:r.n=(ps.set i (g,some (a,(s.cut 0 65536).1))).length:=by rw[dW];exact hn
 refine⟨rfl,_,rfl,r,d.cellAt 16 rfl 1,Vm.el n d rfl c (λb hb _=>?_)⟩;rw[cf];refine sJ rv (a':=(g,none)) (d.fr 17 rfl) hb c bN rfl (λC u=>⟨rfl,?_⟩);have e:=Sep.put (L:=Vm A v r (ed (s.ids 0 65536) S) (ps.set i (g,some (a,(s.cut 0 65536).1))) L) (q:=17) (A':=bw r 2 (bQ h8 ((ps.set i (g,some (a,(s.cut 0 65536).1))).set i (g,none)))) rfl u;have t:(ps.set i (g,some (a,(s.cut 0 65536).1))).set i (g,none)=ps.set i (g,none):=List.set_set ..;have hx:=RF (A:=A) (S:=ed (s.ids 0 65536) S) (v:=v) (r:=r) (L:=L) (cZ.1 c).1 (bw r 2 (bQ h8 (ps.set i (g,none)))) emp (g,none) rfl;rw[t]at e hx;have e:Sep E (cd A (ed (s.ids 0 65536) S)++(bC v [Pb A.c,Sv r]::bw r 2 (bQ h8 (ps.set i (g,none)))::((ps.set i (g,some (a,(s.cut 0 65536).1))).map iP++L))) C:=e;have j:(cd A (ed (s.ids 0 65536) S)++(bC v [Pb A.c,Sv r]::bw r 2 (bQ h8 (ps.set i (g,none)))::((ps.set i (g,some (a,(s.cut 0 65536).1))).map iP++L)))[18+i]?=some (dX a (s.cut 0 65536).1):=RE c _;have l:=Sep.put (A':=emp) j (Sep.emp.2 (e.fr _ j).tail);rw[hx]at l;exact l
end Go.Mp
namespace Go.Kw
def fw(p:PP):Pr:=match p.2 with|some s=>⟨p.1,s.cH.length,true⟩|none=>⟨p.1,0,false⟩
def vF(V:Vs):V.pr=V.procs.map fw:=rfl
end Go.Kw
namespace Go.Mp
open Go Go.Vc Go.Sp Go.Proofs Go.Kc Go.Kw Go.Kt
variable{E:Env}{L:ct}{w W:bI}{A:At}{S:Cs}{v:Nat}{r:Sl}{ps:PS}
def dE(ps:PS):Prop:=∀(i:Nat) g a s,ps[i]?=some (g,some (a,s))->fC s
def dE.less{cI:PS}(h:dE ps)(k:iQ ps cI):dE cI:=by
 intro i g a s c;rcases k.at_ i with e|⟨d,q,_,b⟩
 ·exact h i g a s (e▸c)
 ·rw[c]at b;cases b
def vG:hi P U2=some (24,3,[Iv 0,Iv 0,.bool false]):=by kernel_rfl
def aJY(x:Pr):∀u∈x.vs,u.oneCell'=true:=by
 intro u hu;simp only[Pr.vs,ew,tC,tI]at hu;rcases hu with rfl|rfl|rfl<;>rfl
def RK(N:dE ps)(hn:r.n=ps.length)(hb:ps.length<=1000)(h:Sep E (Vm A v r S ps L) w):Calls P si #[Pb v] w
  (cz λx w'=>∃l:Sl,x=Sv l/\l.n=((plain ps).map fw).length/\Sep E (Vm A v r S ps (hU l ((plain ps).map fw)::L)) w'):=by
 obtain⟨Q,C⟩:∃Q,(plain ps).map fw=Q:=⟨_,rfl⟩
 have R:Q.length=ps.length:=by rw[<- C,ei,kc]
 rw[C];apply YY;unfold MX qK qQ qU qW qZ qa qf qg qy zq zz;refine⟨_,rfl,r,h.cellAt 16 rfl 1,λl x w'=>∃k:Nat,x=k/\k<=ps.length/\l.n=(Q.take k).length/\Sep E (Vm A v r S ps (hU l (Q.take k)::L)) w',λ_ x _=>(ps.length-x).toNat,⟨0,rfl,fj _,rfl,Vm.e9 (bw.none_ h)⟩,?_⟩;rintro _ l _ W ⟨k,rfl,hk,hl,h1⟩;refine cU (λV=>?_) (λT=>?_)
 ·obtain⟨p,hp⟩:∃p,ps[k]?=some p:=⟨_,dP⟩
  obtain⟨g,o⟩:=p;have M:Q[k]?=some (fw (g,o.map Prod.snd)):=by rw[<- C,eC,jc hp];rfl
  have t:Q.take (k+1)=Q.take k++[fw (g,o.map Prod.snd)]:=fL M;obtain⟨x,hx⟩:∃x,fw (g,o.map Prod.snd)=x:=⟨_,rfl⟩
  rw[hx]at t;have U:l.n=k:=by rw[hl,hF];omega
  refine Vm.el hn h1 rfl hp (λb _ D=>⟨g,by rw[cf];exact D 0 _ rfl,o.map (λq=>(⟨q.1,0,none⟩:Addr)),by rw[cf];exact D 1 _ rfl,Al.i h1 (λu w2 h2=>et _ h2 rfl (λX B=>?_))⟩);refine ld B 0 rfl rfl rfl (ld B 0 rfl rfl rfl (Al.i B (λp2 Y K=>et _ K rfl (λJ d=>?_))));have d:Sep E (bC p2 [Iv g,Iv 0,.bool (!(o.map λq=>(⟨q.1,0,none⟩:Addr)).isNone)]::bC u (h8 (g,o))::Vm A v r S ps (hU l (Q.take k)::L)) J:=d;refine⟨λw'=>Sep E (bC p2 x.vs::bC u (h8 (g,o))::Vm A v r S ps (hU l (Q.take k)::L)) w',ld d 0 rfl rfl rfl ?_,?_⟩
  ·cases o with
   |none=>
    refine bF rfl ?_;rw[<- hx];exact d
   |some q=>
    obtain⟨a,s⟩:=q;have H:=N k g a s hp;refine bT rfl (ld d 1 rfl rfl (x:=some ⟨a,0,none⟩) rfl ?_);have e:Sep E (Vm A v r S ps (bC p2 [Iv g,Iv 0,.bool true]::bC u (h8 (g,some (a,s)))::hU l (Q.take k)::L)) J:=Vm.hE [_,_] d;refine use (aGG H (Vm.op hp e)) ?_;rintro _ O ⟨rfl,j⟩;have m:=Vm.fh [_,_] (Vm.bk hp j);refine⟨_,rfl,St.i m (by show 1<3;decide) (λz f=>?_)⟩;rw[<- hx];exact f
  ·rintro _ O y;refine ld y 0 rfl rfl rfl (ld y 0 rfl rfl rfl (ld y 0 rfl rfl rfl (Al.i y (λI z e=>?_))));have e:Sep E (bC I x.vs::bC p2 x.vs::bC u (h8 (g,o))::Vm A v r S ps (hU l (Q.take k)::L)) z:=e;have G:=Src.bC (n:=1) (c:=1) e (i:=0) rfl vG rfl (aJY x);have j:=Vm.hE [_,_,_] e;have j:Sep E (Vm A v r S ps ([bC I x.vs,bC p2 x.vs,bC u (h8 (g,o)),hU l (Q.take k)]++L)) z:=j;have m:=(Vm.fh [_,_,_,_] j).ro 4 [3] rfl;have m:Sep E (hU l (Q.take k)::Vm A v r S ps L) z:=m;refine bw.append m vG rfl G bu bu (λl' Z F f=>⟨⟨k+1,dc,bu,?_,Vm.e9 ?_⟩,?_⟩);·rw[F,t,dd,hl];rfl
   ·unfold hU;rw[t,m6,oM];exact f
   ·rw[dc];dsimp only;omega
 ·have:k=ps.length:=by omega
  subst this;rw[iw bu]at hl h1;exact⟨l,rfl,hl,h1⟩
end Go.Mp
namespace Go.Kw
open Go Go.Kc Go.Kt
def RL(ins:bS):∀(l:bA Pr) (i:Int),(ij ins i l).Pairwise (· < ·)/\∀x∈ij ins i l,i<=x
 |[],_=>⟨List.Pairwise.nil,λ_ h=>by cases h⟩
 |p::r,i=>by
  obtain⟨h1,h2⟩:=RL ins r (i+1);unfold ij;split
  ·refine⟨g7.2 ⟨λx hx=>by have:=h2 x hx;omega,h1⟩,λx hx=>?_⟩;rcases ew.1 hx with rfl|hx;·exact g2 _
   ·have:=h2 x hx;omega
  ·exact⟨h1,λx hx=>by have:=h2 x hx;omega⟩
def RM(T:bA G)(l:bA Pr)(t:Int)(wh:bA Bool):(ml T l t wh).Nodup:=by
 unfold ml;dsimp only;split;·exact List.nodup_nil
 ·split;·simp
  ·exact(RL _ l 0).1.imp λh=>bu
def aAr(a b:bS)(V:Vs):V.de (a++b)=(V.de a).de b:=y1
def cF.dV(o:cF)(pid:Int)(d:bS):cF:={o with bH:=o.bH++d,err:=if d= []then 12 else if pid∈d then 13 else o.err}
end Go.Kw
namespace Go.Mp
open Go Go.Vc Go.Sp Go.Proofs Go.Kc Go.Kw Go.Kt
variable{E:Env}{L:ct}{w W:bI}{A:At}{S:Cs}{v:Nat}{r:Sl}{ps:PS}
def c6(o:dx)(v sp:Nat)(out:cF)(a:Sl):bA bE:=[Iv o.kind,Iv o.a,Iv o.b,Iv o.c,Iv o.d,Pb v,Pb sp,Iv out.err,Iv out.n,Sv a]
def Vm.cell{b:Nat}{C:bA bE}(h:Sep E (Vm A v r S ps L) w)(k:Nat)(hk:L[k]?=some (bC b C))(o:Nat):w.cell? ⟨b,o,none⟩=C[o]? :=h.cellAt (18+ps.length+k) ((vD k).trans hk) o
def Vm.ints{q:Sl}{l:bS}(hn:q.n=l.length):Ints E (Vm A v r S ps (bw q 1 (bD l)::L)) q l:=(Ints.row hn).of λ_ a=>Vm.out a
def RN{i:Nat}{g:Int}:plain (ps.set i (g,none))=(plain ps).set i (g,none):=by unfold plain;rw[hG];rfl
def aJC{c sp:Nat}{o:dx}{out:cF}{f:Sl}{t:Int}(aF:dE ps)(hn:r.n=ps.length)(hb:ps.length<=64)(aL:Kc.Inv S)(hk:f.n=out.bH.length)(aT:out.bH.length<=100000)(h:Sep E (Vm A v r S ps (bC c (c6 o v sp out f)::bw f 1 (bD out.bH)::L)) w):Calls P xK #[Pb c,Iv t] w
  (cz λx w'=>x=.bool (decide (dead ⟨S,plain ps⟩ t≠ []/\o.a∉dead ⟨S,plain ps⟩ t))/\∃(cI:PS) (g:Sl),iQ ps cI/\plain cI=(Vs.de ⟨S,plain ps⟩ (dead ⟨S,plain ps⟩ t)).procs/\g.n=(out.dV o.a (dead ⟨S,plain ps⟩ t)).bH.length/\
   Sep E (Vm A v r (Vs.de ⟨S,plain ps⟩ (dead ⟨S,plain ps⟩ t)).core cI (bC c (c6 o v sp (out.dV o.a (dead ⟨S,plain ps⟩ t)) g)::bw g 1 (bD (out.dV o.a (dead ⟨S,plain ps⟩ t)).bH)::L)) w'):=by
 obtain⟨V,al⟩:∃V:Vs,V=⟨S,plain ps⟩:=⟨_,rfl⟩
 obtain⟨d,aw⟩:∃d,dead ⟨S,plain ps⟩ t=d:=⟨_,rfl⟩
 have K:ml S.tree ((plain ps).map fw) t (mY S)=d:=aw;have ax:(mY S).length=S.guards.length:=by unfold mY;rw[ei]
 rw[aw,<- al];apply awY;unfold NZ qD qE qF qG qJ qK qL qO qR qW qZ;refine Dr.i h (λaX h1=>⟨_,rfl,some ⟨v,0,none⟩,Vm.cell h1 0 rfl 5,_,rfl,some ⟨A.c,0,none⟩,h1.cellAt 16 rfl 0,_,rfl,some ⟨v,0,none⟩,Vm.cell h1 0 rfl 5,_,rfl,some ⟨v,0,none⟩,Vm.cell h1 0 rfl 5,_,rfl,some ⟨A.c,0,none⟩,h1.cellAt 16 rfl 0,use (yE h1) ?_⟩);rintro _ w2 ⟨rfl,h2⟩;have h2:Sep E (Vm A v r S ps (bC c (c6 o v sp out f)::bw f 1 (bD out.bH)::L)) w2:=h2;refine⟨_,rfl,_,h2.cellAt 16 rfl 0,rfl,_,Vm.cell h2 0 rfl 5,rfl,_,Vm.cell h2 0 rfl 5,rfl,use (RK aF hn bu h2) ?_⟩;rintro _ aY ⟨l,rfl,hl,O⟩;refine⟨l,rfl,_,O.cellAt 16 rfl 0,rfl,_,Vm.cell O 1 rfl 5,rfl,use (aIi aL O) ?_⟩;rintro _ aN ⟨wl,rfl,aI,U⟩;have Z:=Vm.e9 (Sep.mB (Q:=cd A S) U);have Z:Sep E (Vm A v r S ps (bw wl 1 (ea (mY S))::hU l ((plain ps).map fw)::bC c (c6 o v sp out f)::bw f 1 (bD out.bH)::L)) aN:=Z;have af:∀k,((Vm A v r S ps (bw wl 1 (ea (mY S))::hU l ((plain ps).map fw)::bC c (c6 o v sp out f)::bw f 1 (bD out.bH)::L)).eraseIdx 1)[17+ps.length+k]?=(bw wl 1 (ea (mY S))::hU l ((plain ps).map fw)::bC c (c6 o v sp out f)::bw f 1 (bD out.bH)::L)[k]? :=by
  intro k;rw[List.getElem?_eraseIdx_of_ge bu,show 17+ps.length+k+1=18+ps.length+k by omega];exact vD k
 have aE:((plain ps).map fw).length<=64:=by rw[ei,kc];exact hb
 refine⟨wl,rfl,use (aGr (q:=17+ps.length+1) (q2:=17+ps.length+0) (b:=A.t) (T:=S.tree) (s:=l) (wl:=wl) (l:=(plain ps).map fw) (wh:=mY S) (t:=t) aL.wf (af 1) hl bu (af 0) (by rw[ax];exact aI) (Z.fr 1 rfl)) ?_⟩;rintro _ aJ ⟨i,rfl,p,ak⟩;rw[K]at p ak;have ar:=Vm.e9 (Sep.ir (L:=Vm A v r S ps (bw wl 1 (ea (mY S))::hU l ((plain ps).map fw)::bC c (c6 o v sp out f)::bw f 1 (bD out.bH)::L)) (q:=1) (A':=dT A.t S.tree) rfl ak);have au:Sep E (Vm A v r S ps (bw i 1 (bD d)::bw wl 1 (ea (mY S))::hU l ((plain ps).map fw)::bC c (c6 o v sp out f)::bw f 1 (bD out.bH)::L)) aJ:=ar;have av:=Vm.pL (L':=bw i 1 (bD d)::bC c (c6 o v sp out f)::bw f 1 (bD out.bH)::bw wl 1 (ea (mY S))::hU l ((plain ps).map fw)::L) (List.Perm.cons _ ((pU [_,_] [_,_] L))) au;have ao:Sep E (Vm A v r S ps (bw i 1 (bD d)::bC c (c6 o v sp out f)::bw f 1 (bD out.bH)::L)) aJ:=by
  have:=Vm.fh [_,_,_,_,_] av;exact Vm.hE [_,_,_] (this.ro 5 [0,1,2] rfl)
 clear h1 h2 O U Z ak ar au av;have aQ:d.length<=64:=by
  rw[<- K];unfold ml;dsimp only;split;·simp
  ·split;·simp
   ·exact mK (yG _ _ _) aE
 have aC:d.Nodup:=K▸RM _ _ _ _;have ab:∀x∈d,∃s,V.space x=some s:=λx hx=>by rw[al];exact ET (V:=⟨S,plain ps⟩) (by rw[<- K]at hx;exact hx)
 refine⟨i,rfl,λx w'=>∃(k:Nat) (S':Cs) (cI:PS),x=k/\k<=d.length/\iQ ps cI/\Kc.Inv S'/\(⟨S',plain cI⟩:Vs)=V.de (d.take k)/\Sep E (Vm A v r S' cI (bw i 1 (bD d)::bC c (c6 o v sp out f)::bw f 1 (bD out.bH)::L)) w',λx _=>(d.length-x).toNat,⟨0,S,ps,rfl,fj _,iQ.refl _,aL,al.symm,ao⟩,?_⟩;rintro _ _ aZ ⟨k,S',cI,rfl,aU,M,ai,N,I⟩;have aB:r.n=cI.length:=by rw[M.len];exact hn
 refine cU (λaV=>?_) (λaR=>?_)
 ·obtain⟨x,hx⟩:∃x,d[k]?=some x:=⟨_,dP⟩
  obtain⟨s,aH⟩:=ab x (eI hx);obtain⟨aj,aD⟩:=iu aH;have an:x∉d.take k:=by
   intro hm;obtain⟨j,R⟩:=SZ hm;rw[o3]at R;split at R
   ·next aS=>
    have ag:=(cZ.1 hx).1;have ah:=(cZ.1 R).1;have:=(List.getElem_inj (h₀:=ah) (h₁:=ag) aC).1 (by rw[dO ah]at R;rw[dO ag]at hx;rw[cR R,cR hx]);omega
   ·cases R
  have X:(plain cI)[x.toNat]?=some (V.group x,some s):=by
   have U:=(te (d.take k) V).2.2.2 x.toNat (by rw[show((x.toNat:Nat):Int)=x by omega];exact an);rw[<- N]at U;exact U.trans aD
  obtain⟨a,am⟩:=RD X;refine(Vm.ints (L:=bC c (c6 o v sp out f)::bw f 1 (bD out.bH)::L) p).el I k rfl hx ⟨_,rfl,some ⟨v,0,none⟩,Vm.cell I 1 rfl 5,?_⟩;have Y:x=((x.toNat:Nat):Int):=by omega
  rw[Y];refine use (RJ am ((aF.less M) _ _ _ _ am) aB ai I) ?_;rintro _ aK ⟨rfl,n⟩;refine⟨rfl,⟨k+1,_,_,dc,bu,M.trans (iQ.die am),((vz (s.ids 0 65536) S').inv ai (by have:=ai.ids;omega)).1,?_,n⟩,by rw[dc];dsimp only;omega⟩;rw[fL hx,aAr,<- N];show _=Vs.exit ⟨S',plain cI⟩ x;have aG:Vs.space ⟨S',plain cI⟩ x=some s:=by
   have:=(jw (V:=⟨S',plain cI⟩) X).1;rwa[<- Y]at this
  have ay:Vs.group ⟨S',plain cI⟩ x=V.group x:=by
   have:=(jw (V:=⟨S',plain cI⟩) X).2;rwa[<- Y]at this
  rw[vA aG,RN,ay]
 ·have:k=d.length:=by omega
  subst this;rw[gf]at N;rw[<- N];have aa:(out.dV o.a d).bH=out.bH++d:=rfl;rw[aa];have n:=Vm.fh [_,_,_] I;have F:=Src.sub (l:=0) (n':=i.n) (c':=i.c) n (q:=0) rfl x9 bu (λu hu=>by obtain⟨z,_,rfl⟩:=fA.1 hu;rfl);rw[u7 (n.fr 0 rfl) i.c]at F;have ad:((bD d).drop (0*1)).take (i.n*1)=bD d:=by
   rw[ou,rI,fR,iw (by simp[bD,p])]
  rw[ad]at F;refine⟨_,rfl,f,n.cellAt 1 rfl 9,bw.app (n.ro 3 [2,0,1] rfl) x9 rfl F (by rw[hk];omega) (λg aK az ae=>⟨_,rfl,?_⟩)⟩;have aM:bD out.bH++bD d=bD (out.bH++d):=by simp[bD]
  rw[aM]at ae;have aA:g.n=(out.bH++d).length:=by rw[az,hk,dd,p]
  have ap:Sep E (bC c (c6 o v sp out f)::bw g 1 (bD (out.bH++d))::bw i 1 (bD d)::Vm A v r S' cI L) aK:=ae.ro 3 [2,0,1] rfl;refine St.i ap (by show 9<10;decide) (λaO y=>?_);obtain⟨C,B⟩:∃C:cF,C= {out with bH:=out.bH++d} :=⟨_,rfl⟩
  have y:Sep E (bC c (c6 o v sp C g)::bw g 1 (bD (out.bH++d))::bw i 1 (bD d)::Vm A v r S' cI L) aO:=by rw[B];exact y
  have fin:∀ {w:bI} {e:Int} {b:Bool},(out.dV o.a d)= {C with err:=e}->b=decide (d≠ []/\o.a∉d)->Sep E (bC c (c6 o v sp {C with err:=e} g)::bw g 1 (bD (out.bH++d))::bw i 1 (bD d)::Vm A v r S' cI L) w->
    Value.bool b=.bool (decide (d≠ []/\o.a∉d))/\∃(H:PS) (G:Sl),iQ ps H/\plain H=plain cI/\G.n=(out.bH++d).length/\Sep E (Vm A v r S' H (bC c (c6 o v sp (out.dV o.a d) G)::bw G 1 (bD (out.bH++d))::L)) w:=by
   intro w e b h1 h2 O;refine⟨by rw[h2],cI,g,M,rfl,aA,?_⟩;rw[h1];exact Vm.hE [_,_] (O.ro 3 [0,1] rfl)
  refine eQ (λaj=>⟨_,rfl,St.i y (by show 7<10;decide) (λaP J=>fin (e:=12) ?_ ?_ J)⟩) (λaj=>⟨_,rfl,o.a,y.cell 1,use (EN (l:=d) (L:=bC c (c6 o v sp C g)::bw g 1 (bD (out.bH++d))::bw i 1 (bD d)::Vm A v r S' cI L) (Ints.at_ (q:=2) rfl p) bu o.a y) ?_⟩)
  ·have m:d= []:=tn bu;rw[B];unfold cF.dV;rw[bK m]
  ·have m:d= []:=tn bu;exact(dg λe=>e.1 m).symm
  ·have m:d≠ []:=λe=>aj (by rw[p,e];rfl);rintro _ aP ⟨rfl,J⟩;refine⟨_,rfl,cv (λD=>⟨_,rfl,St.i J (by show 7<10;decide) (λaW aq=>fin (e:=13) ?_ ?_ aq)⟩) (λD=>fin (e:=out.err) ?_ ?_ ?_)⟩;·rw[B];unfold cF.dV;rw[bJ m,bK (kZ.1 D)]
   ·exact(dg λe=>e.2 (kZ.1 D)).symm
   ·have W:o.a∉d:=λe=>by rw[kZ.2 e]at D;cases D
    rw[B];unfold cF.dV;rw[bJ m,bJ W]
   ·have W:o.a∉d:=λe=>by rw[kZ.2 e]at D;cases D
    exact(dF ⟨m,W⟩).symm
   ·have:({C with err:=out.err} :cF)=C:=by rw[B]
    rw[this];exact J
def th(w:bI)(b:Nat):Nat->Nat
 |0=>0
 |k+1=>th w b k+(match w.cell? ⟨b,k*2+1,none⟩with|some (.pointer (some _))=>1|_=>0)
def EW{b:Nat}(hb:r.p=some ⟨b,0,none⟩)(hn:r.n=ps.length)(h:Sep E (Vm A v r S ps L) w):∀k,k<=ps.length->th w b k=jb ((plain ps).take k)
 |0,_=>rfl
 |k+1,hk=>by
  obtain⟨p,hp⟩:∃p,ps[k]?=some p:=⟨_,dP⟩
  have e:=EW hb hn h k bu;have c:w.cell? ⟨b,k*2+1,none⟩=some (.pointer (p.2.map λq=>⟨q.1,0,none⟩)):=by
   have:=Vm.el (F:=λa=>w.cell? (a.add 1)=some (.pointer (p.2.map λq=>⟨q.1,0,none⟩))) hn h rfl hp (λf _ c=>by rw[cf];exact c 1 _ rfl);obtain⟨a,d,_,hf⟩:=this;rw[hb]at d;cases d;rw[cf,cf]at hf;rw[<- hf];congr 2;omega
  unfold th jb;rw[fL (jc hp),List.countP_append,c,e];obtain⟨g,o⟩:=p;cases o with
  |none=>rfl
  |some q=>rfl
def oX(c:ch)(jo:bE)(K:bf9)(R:bf8)(w:bI):Prop:=
 Dr (λa=>NN c λa25=>∃g:ch,a.cell? (a25.add 5)=some (.pointer g)/\NN g λa27=>∃e:Sl,a.cell? (a27.add 1)=some (Sv e)/\NN c λa29=>∃h:Int,a.cell? ((a29.add 0).add 1)=some (Iv h)/\cK e.p e.n h 2 λm=>∃i:Int,a.cell? (m.add 0)=some (Iv i)/\e1 P jo #[(Iv i)] a λo d=>∃j:Int,∃k:Int,∃b:Int,o=.returned (.tuple #[(Iv j),(Iv k),(Iv b)])/\bif(b==0)then(K (.tuple #[(Iv j),(.bool true)]) d)else(bif(b !=12)then(NN c λn=>St ((n.add 7).add 0) (Iv b) (λq=>K (.tuple #[(Iv (-1)),(.bool false)]) q) d)else(Calls P xK #[(.pointer c),(Iv k)] d λp f=>∃l:Bool,p=.returned (.bool l)/\bif l then(R f)else(K (.tuple #[(Iv (-1)),(.bool false)]) f)))) w
def aI1(c:ch)(jo:bE)(K:bf9)(w:bI):N7 c jo K w=∃(a:bf8) (M2:bI->Nat),oX c jo K a w/\∀d:Nat->bE,∀b:bI,a b->oX c jo K (λw'=>a w'/\M2 w'<M2 b) b:=rfl
def RO(E:Env)(A:At)(v:Nat)(r:Sl)(c sp:Nat)(o:dx)(L:ct)(fv:bE)(f:Cs->Int->Cs×Int×Int×Int):Prop:=
 ∀(S:Cs) (ps:PS) (out:cF) (a:Sl) (g:Int) (w:bI),Kc.Inv S->S.bt.next<16777216->Sep E (Vm A v r S ps (bC c (c6 o v sp out a)::bw a 1 (bD out.bH)::L)) w->
  e1 P fv #[Iv g] w (cW E (.tuple #[Iv (f S g).2.1,Iv (f S g).2.2.1,Iv (f S g).2.2.2]) (Vm A v r (f S g).1 ps (bC c (c6 o v sp out a)::bw a 1 (bD out.bH)::L)))
def vH(x:bV Int):bE:=match x with
 |some id=>.tuple #[Iv id,.bool true]
 |none=>.tuple #[Iv (-1),.bool false]
def h9(E:Env)(A:At)(v:Nat)(r:Sl)(c sp:Nat)(o:dx)(L:ct)(ps:PS)(q:Vs×cF×bV Int)(x:bE)(w:bI):Prop:=
 x=vH q.2.2/\∃(cI:PS) (a:Sl),iQ ps cI/\plain cI=q.1.procs/\a.n=q.2.1.bH.length/\Sep E (Vm A v r q.1.core cI (bC c (c6 o v sp q.2.1 a)::bw a 1 (bD q.2.1.bH)::L)) w
def RP{c sp:Nat}{o:dx}{out:cF}{B:Sl}{fv:bE}{f:Cs->Int->Cs×Int×Int×Int}{n:Nat}{R:bf8}{ae:Nat×Kw.Sp}{F:PS}(y:iQ F ps)(hf:RO E A v r c sp o L fv f)(hr:∀S g,cq 1 S (f S g).1)(ad:dE ps)(hn:r.n=ps.length)(hb:ps.length<=64)(ag:Kc.Inv S)(T:S.bt.next<16777216)(hk:B.n=out.bH.length)(O:out.bH.length<=100000)(ai:0<=o.a){g:Int}(hp:ps[o.a.toNat]?=some (g,some ae))(h:Sep E (Vm A v r S ps (bC c (c6 o v sp out B)::bw B 1 (bD out.bH)::L)) w)(N:∀(S':Cs) (cI:PS) (out':cF) (j:Sl) (w':bI),fy f o.a n ⟨S',plain cI⟩ out'=fy f o.a (n+1) ⟨S,plain ps⟩ out->jb (plain cI)<jb (plain ps)->iQ F cI->cq 1 S S'->j.n=out'.bH.length->out'.bH.length<=out.bH.length+64->cI[o.a.toNat]?=ps[o.a.toNat]?->
   Sep E (Vm A v r S' cI (bC c (c6 o v sp out' j)::bw j 1 (bD out'.bH)::L)) w'->R w'):
  oX (some ⟨c,0,none⟩) fv (h9 E A v r c sp o L F (fy f o.a (n+1) ⟨S,plain ps⟩ out)) R w:=by
 obtain⟨Q,a⟩:∃Q,fy f o.a (n+1) ⟨S,plain ps⟩ out=Q:=⟨_,rfl⟩
 rw[a]at N ⊢;rw[nM]at a;have ab:Vs.group ⟨S,plain ps⟩ o.a=g:=by
  have:=(jw (V:=⟨S,plain ps⟩) (jc hp)).2;rwa[show((o.a.toNat:Nat):Int)=o.a by omega]at this
 dsimp only at a;rw[ab]at a;unfold oX;refine Dr.i h (λaf h1=>⟨_,rfl,some ⟨v,0,none⟩,Vm.cell h1 0 rfl 5,_,rfl,r,h1.cellAt 16 rfl 1,_,rfl,o.a,Vm.cell h1 0 rfl 1,Vm.el hn h1 (show o.a=((o.a.toNat:Nat):Int) by omega) hp (λb _ p=>⟨g,by rw[cf];exact p 0 _ rfl,oP (hf S ps out B g af ag T h1) ?_⟩)⟩);rintro _ w2 ⟨rfl,h2⟩;have t:=hr S g;have J:=t.inv ag bu;generalize aj:f S g=q at a h2 t J;refine⟨_,_,_,rfl,eQ (λhe=>?_) (λhe=>hJ (λP=>⟨_,rfl,?_⟩) (λheq=>?_))⟩
 ·rw[bK he]at a;rw[<- a];exact⟨rfl,ps,B,y,rfl,hk,h2⟩
 ·rw[bJ he,bK P]at a;rw[<- a];have z:=Vm.fh [_] h2;refine St.i z (by show 7<10;decide) (λW l=>⟨rfl,ps,B,y,rfl,hk,?_⟩);exact Vm.hE [_] l
 ·rw[bJ he,cD]at a;refine use (aJC (S:=q.1) ad hn hb J.1 hk O h2) ?_;rintro _ W ⟨rfl,cI,j,C,m,u,z⟩;have k:=te (dead ⟨q.1,plain ps⟩ q.2.2.1) ⟨q.1,plain ps⟩;have I:∀x∈dead ⟨q.1,plain ps⟩ q.2.2.1,∃s,Vs.space ⟨q.1,plain ps⟩ x=some s:=λx hx=>ET hx;have G:(dead ⟨q.1,plain ps⟩ q.2.2.1).length<=64:=by
   have K:(Vs.pr ⟨q.1,plain ps⟩).length<=64:=by rw[vF,ei];show(plain ps).length<=64;rw[kc];exact hb
   unfold dead ml;dsimp only;split;·simp
   ·split;·simp
    ·exact mK (yG _ _ _) K
  generalize dead ⟨q.1,plain ps⟩ q.2.2.1=d at a z u m k I G;refine⟨_,rfl,cv (λp=>?_) (λp=>?_)⟩
  ·obtain⟨i,D⟩:=mH p;rw[bJ i,bJ D]at a;have ho:out.dV o.a d= {out with bH:=out.bH++d} :=by unfold cF.dV;rw[bJ i,bJ D]
   rw[ho]at z u;refine N _ cI {out with bH:=out.bH++d} j W ?_ ?_ (y.trans C) (t.trans k.1) u (by show(out.bH++d).length<=_;rw[dd];omega) ?_ z;·rw[<- a,m]
   ·rw[m];cases d with
    |nil=>exact absurd rfl i
    |cons x d=>
     obtain⟨s,U⟩:=I x fE;exact RA (V:=⟨q.1,plain ps⟩) (by rw[U];rfl)
   ·rcases C.at_ o.a.toNat with e|⟨Y,ak,ah,X⟩
    ·exact e
    ·exfalso;have l:=k.2.2.2 o.a.toNat (by rw[show((o.a.toNat:Nat):Int)=o.a by omega];exact D);rw[<- m]at l;have Z:=jc X;rw[Z]at l;have aa:=jc hp;have l:some (Y,none)=(plain ps)[o.a.toNat]? :=l;rw[aa]at l;cases l
  ·have p:=kg p;have M:(Vs.de ⟨q.1,plain ps⟩ d,out.dV o.a d,none)=Q:=by
    by_cases i:d= []
    ·rw[bK i]at a;rw[<- a];unfold cF.dV;rw[bK i]
    ·have H:o.a∈d:=rD λe=>p ⟨i,e⟩;rw[bJ i,bK H]at a;rw[<- a];unfold cF.dV;rw[bJ i,bK H]
   rw[<- M];exact⟨rfl,cI,j,y.trans C,m,u,z⟩
def EX{c sp:Nat}{o:dx}{out:cF}{J:Sl}{fv:bE}{f:Cs->Int->Cs×Int×Int×Int}{K:Nat×Kw.Sp}(hf:RO E A v r c sp o L fv f)(hr:∀S g,cq 1 S (f S g).1)(V:dE ps)(hn:r.n=ps.length)(hb:ps.length<=64)(ag:Kc.Inv S)(ak:S.bt.next+66<=16777216)(hk:J.n=out.bH.length)(u:out.bH= [])(N:0<=o.a){g:Int}(hp:ps[o.a.toNat]?=some (g,some K))(h:Sep E (Vm A v r S ps (bC c (c6 o v sp out J)::bw J 1 (bD out.bH)::L)) w):
  Calls P xD #[Pb c,fv] w (cz (h9 E A v r c sp o L ps (Vs.dR ⟨S,plain ps⟩ f o.a out))):=by
 apply ZV;rw[aI1];have aj:=(cZ.1 hp).1;obtain⟨b,B⟩:∃b,r.p=some ⟨b,0,none⟩:=by
  have:=Vm.el (F:=λ_=>∃b,r.p=some ⟨b,0,none⟩) hn h rfl hp (λb hb _=>⟨b,hb⟩);obtain⟨_,_,_,Z⟩:=this;exact Z
 have ai:jb (plain ps)<=ps.length:=by unfold jb;have:=FQ (p:=λp:PP=>p.2.isSome) (l:=plain ps);rw[kc]at this;exact this
 have W:Vs.dR ⟨S,plain ps⟩ f o.a out=fy f o.a (ps.length+1) ⟨S,plain ps⟩ out:=by unfold Vs.dR;rw[kc]
 rw[W];obtain⟨Q,H⟩:∃Q,fy f o.a (ps.length+1) ⟨S,plain ps⟩ out=Q:=⟨_,rfl⟩
 rw[H];have x:∀ {cI:PS},cI[o.a.toNat]?=some (g,some K)->0<jb (plain cI):=λh1=>List.countP_pos_iff.2 ⟨_,eI (jc h1),rfl⟩;refine⟨λw'=>∃(n:Nat) (S':Cs) (cI:PS) (out':cF) (a:Sl),fy f o.a (n+1) ⟨S',plain cI⟩ out'=Q/\jb (plain cI)<=n/\n<=64/\iQ ps cI/\Kc.Inv S'/\S'.bt.next+n+1<=16777216/\a.n=out'.bH.length/\out'.bH.length+64*n<=100000/\cI[o.a.toNat]?=some (g,some K)/\
  Sep E (Vm A v r S' cI (bC c (c6 o v sp out' a)::bw a 1 (bD out'.bH)::L)) w',λw'=>th w' b ps.length,?_,?_⟩
 ·rw[<- H];refine RP (iQ.refl _) hf hr V hn hb ag bu hk (by rw[u];simp) N hp h (λS' cI out' a w' h1 h2 C i D s G t=>?_);have I:=i.inv ag bu;have T:=x (cI:=cI) (G.trans hp);obtain⟨m,hm⟩:∃m,ps.length=m+1:=⟨ps.length-1,bu⟩
  refine⟨m,S',cI,out',a,by rw[<- hm,h1,H],bu,bu,C,I.1,bu,D,?_,G.trans hp,t⟩;rw[u]at s;simp only[p0]at s;omega
 ·rintro _ af ⟨n,am,e,ae,al,z,ah,ab,d,M,ad,R,aa,j,h1⟩;have y:r.n=e.length:=by rw[d.len];exact hn
  have k:=EW B y h1 e.length (ek _);rw[<- z];refine RP d hf hr (V.less d) y (by rw[d.len];exact hb) M bu R bu N j h1 (λS' cI out' a w' h2 C i D s G t O=>?_);have I:=D.inv M bu;have T:=x (cI:=cI) (t.trans j);obtain⟨m,hm⟩:∃m,n=m+1:=⟨n-1,bu⟩
  have U:r.n=cI.length:=by rw[i.len];exact hn
  have q:=EW B U O cI.length (ek _);refine⟨⟨m,S',cI,out',a,by rw[<- hm,h2,z],bu,bu,i,I.1,bu,s,bu,t.trans j,O⟩,?_⟩;have X:(plain cI).take cI.length=plain cI:=iw (by rw[kc];exact ek _);have Y:(plain e).take e.length=plain e:=iw (by rw[kc];exact ek _);rw[X]at q;rw[Y]at k;rw[i.len]at q;rw[d.len]at k;show th w' b ps.length<th af b ps.length;rw[k,q];exact C
end Go.Mp
namespace Go.Kc
open Go Go.Kt
variable{S:Cs}
def RQ(h:Inv S)(hn:S.bt.next<16777216){g:Int}(hl:S.live g=true)(text:bA UInt8)(he:(S.c8 g text).2.2.2=0):0<=(S.c8 g text).2.1/\(S.c8 g text).2.1<16777216:=by
 rcases wZ h hn hl text with⟨S0,a,k,e,_⟩|⟨S0,t,k,e⟩
 ·rw[e];exact⟨h.cH.next,hn⟩
 ·rw[e]at he;cases he
def RR(h:Inv S)(hn:S.bt.next<16777216){g:Int}(he:(S.fresh g).2.2.2=0):0<=(S.fresh g).2.1/\(S.fresh g).2.1<16777216:=by
 unfold Cs.fresh at he ⊢;split at he;·cases he
 ·next hl=>rw[bJ hl];exact RQ h hn (by simpa using hl) _ he
def RS(h:Inv S)(hn:S.bt.next<16777216){id g:Int}(he:(S.copy id g).2.2.2=0):0<=(S.copy id g).2.1/\(S.copy id g).2.1<16777216:=by
 unfold Cs.copy at he ⊢;dsimp only at he ⊢;split at he;·cases he
 ·next hl=>
  rw[bJ hl];have hl:S.live g=true:=by
   cases a:S.live g with
   |true=>rfl
   |false=>exact absurd (.inr (.inl a)) hl
  exact RQ h hn hl _ he
def RU(h:Inv S)(hn:S.bt.next<16777216){k:Int×Int}{g:Int}(he:(S.cA k g).2.2.2=0):0<=(S.cA k g).2.1/\(S.cA k g).2.1<16777216:=by
 unfold Cs.cA at he ⊢;dsimp only at he ⊢;split at he;·cases he
 next a=>
 rw[bJ a];by_cases hm:S.bt.of k<0
 ·rw[dF hm]at he ⊢;simp only[g3]at he ⊢;have hl:S.live g=true:=by
   cases b:S.live g with
   |true=>rfl
   |false=>exact absurd (.inr b) a
  have c:=q4 S.bt (kf:=k.1) (ki:=k.2) (o:=g) ⟨h.cH.next,hn⟩ (.inr hm);split at he;·next hb=>rw[bK hb];dsimp only;rw[c.1];exact⟨h.cH.next,hn⟩
  ·next hb=>exact absurd he hb
 ·rw[dg hm]at he ⊢;simp only[l4,gR]at he ⊢;obtain⟨p,hp,_⟩:=HE h.toInv0 (k:=k) bu;have:=h.cH.ids _ _ hp;split at he;·next hb=>rw[bK hb];dsimp only;omega
  ·next hb=>exact absurd he hb
end Go.Kc
namespace Go.Kw
open Go Go.Kc Go.Kt
def EY{f:Cs->Int->Cs×Int×Int×Int}{pid:Int}(hf:∀S g,cq 1 S (f S g).1)(eS:∀S g,Kc.Inv S->S.bt.next<16777216->(f S g).2.2.2=0->0<=(f S g).2.1/\(f S g).2.1<16777216):∀(n:Nat) (V:Vs) (o:cF) (id:Int),Kc.Inv V.core->V.core.bt.next+n<=16777216->(fy f pid n V o).2.2=some id->0<=id/\id<16777216
 |0,V,o,id,_,_,h=>by cases h
 |n+1,V,o,id,b,hn,h=>by
  rw[nM]at h;dsimp only at h;have h1:=hf V.core (V.group pid);have h2:=eS V.core (V.group pid) b bu;have a:=h1.inv b bu;generalize f V.core (V.group pid)=r at h h1 h2 a;split at h;·next he=>cases h;exact h2 he
  split at h;·cases h
  generalize dead {V with core:=r.1} r.2.2.1=d at h;have hm:r.1.bt.next<=V.core.bt.next+1:=a.2.2;have b1:=((te d {V with core:=r.1}).1).inv a.1 (by show r.1.bt.next+0<=_;omega);have hk:(Vs.de {V with core:=r.1} d).core.bt.next<=r.1.bt.next+0:=b1.2.2;split at h;·cases h
  split at h;·cases h
  exact EY hf eS n _ _ id b1.1 bu h
end Go.Kw
namespace Go.Mp
open Go Go.Vc Go.Sp Go.Proofs Go.Kc Go.Kw Go.Kt
variable{E:Env}{L:ct}{w W:bI}{A:At}{S:Cs}{v:Nat}{r:Sl}{ps:PS}
def lZ{c sp:Nat}{o:dx}{out:cF}{a:Sl}(F:ct)(h:Sep E (Vm A v r S ps (bC c (c6 o v sp out a)::bw a 1 (bD out.bH)::(F++L))) w):Sep E (F++Vm A v r S ps (bC c (c6 o v sp out a)::bw a 1 (bD out.bH)::L)) w:=
 Vm.fh F (Vm.pL (L':=F++(bC c (c6 o v sp out a)::bw a 1 (bD out.bH)::L)) (pU [_,_] F L) h)
def lC{c sp:Nat}{o:dx}{out:cF}{a:Sl}(F:ct)(h:Sep E (F++Vm A v r S ps (bC c (c6 o v sp out a)::bw a 1 (bD out.bH)::L)) w):Sep E (Vm A v r S ps (bC c (c6 o v sp out a)::bw a 1 (bD out.bH)::(F++L))) w:=
 Vm.pL (L:=F++(bC c (c6 o v sp out a)::bw a 1 (bD out.bH)::L)) (pU F [_,_] L) (Vm.hE F h)
def pP{i a:Nat}{g:Int}{s:Kw.Sp}:plain (ps.set i (g,some (a,s)))=(plain ps).set i (g,some s):=by unfold plain;rw[hG];rfl
def kW(E:Env)(A:At)(v:Nat)(r:Sl)(c sp:Nat)(o:dx)(L:ct)(n:Nat)(S:Cs)(q:Vs×cF×bV Int)(x:bE)(w:bI):Prop:=
 x=vH q.2.2/\cq 66 S q.1.core/\∃(cI:PS) (a:Sl),dE cI/\cI.length=n/\plain cI=q.1.procs/\a.n=q.2.1.bH.length/\(q.2.2.isSome=true->∃g s,cI[o.a.toNat]?=some (g,some (sp,s)))/\
  Sep E (Vm A v r q.1.core cI (bC c (c6 o v sp q.2.1 a)::bw a 1 (bD q.2.1.bH)::L)) w
def h9.cut{c sp:Nat}{o:dx}{F:ct}{q:Vs×cF×bV Int}{x:bE}(h:h9 E A v r c sp o (F++L) ps q x w):h9 E A v r c sp o L ps q x w:=by
 obtain⟨h1,cI,a,h2,b,d,e⟩:=h;exact⟨h1,cI,a,h2,b,d,(lZ F e).right⟩
def kW.cut{c sp n:Nat}{o:dx}{F:ct}{q:Vs×cF×bV Int}{x:bE}(h:kW E A v r c sp o (F++L) n S q x w):kW E A v r c sp o L n S q x w:=by
 obtain⟨h1,b,cI,a,i,h2,d,e,f,g⟩:=h;exact⟨h1,b,cI,a,i,h2,d,e,f,(lZ F g).right⟩
def iQ.own{cI:PS}(h:iQ ps cI){i:Nat}{g:Int}{q:Nat×Kw.Sp}(hp:ps[i]?=some (g,some q))(he:(plain cI)[i]?=(plain ps)[i]?):cI[i]?=some (g,some q):=by
 rcases h.at_ i with e|⟨c,d,b,a⟩
 ·exact e.trans hp
 ·rw[jc a,jc hp]at he;cases he
def EZ{f:Cs->Int->Cs×Int×Int×Int}(hr:∀S g,cq 1 S (f S g).1){pid:Int}(j:0<=pid){out:cF}{cI:PS}{q:Vs×cF×bV Int}(a:Vs.dR ⟨S,plain ps⟩ f pid out=q)(b:iQ ps cI)(c:plain cI=q.1.procs){g:Int}{d:Nat×Kw.Sp}(hp:ps[pid.toNat]?=some (g,some d))(i:q.2.2.isSome=true):cI[pid.toNat]?=some (g,some d):=by
 have h:=(vB (pid:=pid) hr ((plain ps).length+1) ⟨S,plain ps⟩ out).2.2;have a:fy f pid ((plain ps).length+1) ⟨S,plain ps⟩ out=q:=a;rw[a]at h;rcases h i with e|e;·exact b.own hp (by rw[c];exact e)
 ·omega
def E0{f:Cs->Int->Cs×Int×Int×Int}(hr:∀S g,cq 1 S (f S g).1)(hb:ps.length<=64)(pid:Int)(out:cF):cq 66 S (Vs.dR ⟨S,plain ps⟩ f pid out).1.core:=by
 have h:=(vB (pid:=pid) hr ((plain ps).length+1) ⟨S,plain ps⟩ out).1;exact h.up (by rw[kc];omega)
def h9.kW{c sp:Nat}{o:dx}{f:Cs->Int->Cs×Int×Int×Int}{out:cF}{x:bE}(hr:∀S g,cq 1 S (f S g).1)(a:dE ps)(hb:ps.length<=64)(e:0<=o.a){g:Int}{s:Kw.Sp}(hp:ps[o.a.toNat]?=some (g,some (sp,s)))(h:h9 E A v r c sp o L ps (Vs.dR ⟨S,plain ps⟩ f o.a out) x w):kW E A v r c sp o L ps.length S (Vs.dR ⟨S,plain ps⟩ f o.a out) x w:=by
 obtain⟨h1,cI,d,h2,b,i,j⟩:=h;exact⟨h1,E0 hr hb _ _,cI,d,a.less h2,h2.len,b,i,λa=>⟨g,s,EZ hr e rfl h2 b hp a⟩,j⟩
def dE.set(h:dE ps){i a:Nat}{g:Int}{s:Kw.Sp}(d:fC s):dE (ps.set i (g,some (a,s))):=by
 intro j c a' s' b;rw[hd]at b;split at b
 ·split at b;·cases b;exact d
  ·cases b
 ·exact h j c a' s' b
def RV{c sp k:Nat}{o:dx}{out:cF}{a:Sl}{bL id:Int}{wr:Bool}{g:Int}{s:Kw.Sp}(hk:k=1\/k=2)(eS:0<=id/\id<16777216)(b:fC s)(e:Kc.Inv S)(hp:ps[o.a.toNat]?=some (g,some (sp,s)))(h:Sep E (Vm A v r S ps (bC c (c6 o v sp out a)::L)) w):Calls P BN #[Pb c,Iv bL,Iv id,Iv (k:Int),.bool wr] w
  (cW E (.tuple #[]) (Vm A v r (S.bO id 1).1 (ps.set o.a.toNat (g,some (sp,s.enter bL id k wr))) (bC c (c6 o v sp out a)::L))):=by
 apply ZY;unfold NK qQ qZ;refine⟨_,rfl,some ⟨v,0,none⟩,Vm.cell h 0 rfl 5,_,rfl,some ⟨A.c,0,none⟩,h.cellAt 16 rfl 0,use (yD (id:=id) (n:=1) e h) ?_⟩;rintro _ d ⟨rfl,h1⟩;have h1:Sep E (Vm A v r (S.bO id 1).1 ps (bC c (c6 o v sp out a)::L)) d:=h1;refine⟨_,rfl,_,rfl,some ⟨sp,0,none⟩,Vm.cell h1 0 rfl 6,use (aIx (bL:=bL) (id:=id) (k:=k) (wr:=wr) hk bu b (Vm.op hp h1)) ?_⟩;rintro _ w2 ⟨⟨x,rfl⟩,h2⟩;exact⟨_,rfl,rfl,Vm.sh hp h2⟩
def RW{V:Vs}{pid p id:Int}{k:Nat}{wr:Bool}{s:Kw.Sp}(h:V.space pid=some s):V.enter pid p id k wr=⟨(V.core.bO id 1).1,V.procs.set pid.toNat (V.group pid,some (s.enter p id k wr))⟩:=by
 unfold Vs.enter;have h1:Vs.space {V with core:=(V.core.bO id 1).1} pid=some s:=h;dsimp only;rw[h1];rfl
def RX{c sp:Nat}{o:dx}{out:cF}{m:Sl}{id:Int}(z:dE ps)(hn:r.n=ps.length)(hb:ps.length<=64)(H:Kc.Inv S)(t:S.bt.next+66<=16777216)(hk:m.n=out.bH.length)(q:out.bH= [])(n:0<=o.a){g:Int}{s:Kw.Sp}(hp:ps[o.a.toNat]?=some (g,some (sp,s)))(h:Sep E (Vm A v r S ps (bC c (c6 o v sp out m)::bw m 1 (bD out.bH)::L)) w):
  Calls P BL #[Pb c,Iv id] w (cz (kW E A v r c sp o L ps.length S (Vs.bX ⟨S,plain ps⟩ o.a id out))):=by
 have hr:∀(S:Cs) (g:Int),cq 1 S ((λ(S:Cs) g=>let r:=S.bX id g;(r.1,id,r.2)) S g).1:=λS g=>(cq.bX id g).up bu;apply ZU;unfold NH qC qb qp;refine Al.i h (λe I h1=>Al.i h1 (λi w2 h2=>?_));have C:=lC [bC i [Iv id],bC e [Pb c]] h2;refine⟨some ⟨c,0,none⟩,h2.cellAt 1 rfl 0,use (EX (fv:=.func (.func Cf) #[] #[Pb e,Pb i]) (f:=λS g=>let r:=S.bX id g;(r.1,id,r.2)) (λS' cI out' j k w' B G h'=>⟨_,_,rfl,by kernel_rfl,?_⟩) hr z hn hb H t hk q n hp C) ?_⟩
 ·show Calls P Cf #[Iv k,Pb e,Pb i] w' _;apply asf;unfold NY qD qZ qb qj;refine Dr.i h' (λD a=>⟨some ⟨c,0,none⟩,Vm.cell a 3 rfl 0,_,rfl,some ⟨v,0,none⟩,Vm.cell a 0 rfl 5,_,rfl,some ⟨A.c,0,none⟩,a.cellAt 16 rfl 0,id,Vm.cell a 2 rfl 0,use (Ra (id:=id) (g:=k) B a) ?_⟩);rintro _ F ⟨rfl,d⟩;have d:Sep E (Vm A v r (S'.bX id k).1 cI (bC c (c6 o v sp out' j)::bw j 1 (bD out'.bH)::([bC i [Iv id],bC e [Pb c]]++L))) F:=d;exact⟨_,_,rfl,id,Vm.cell d 2 rfl 0,rfl,d⟩
 rintro x D l;have l:=(h9.cut l).kW hr z hb n hp;obtain⟨rfl,b⟩:=l;have p:Vs.bX ⟨S,plain ps⟩ o.a id out=Vs.dR ⟨S,plain ps⟩ (λS g=>let r:=S.bX id g;(r.1,id,r.2)) o.a out:=rfl;rw[<- p]at b ⊢;cases u:(Vs.bX ⟨S,plain ps⟩ o.a id out).2.2 with
 |none=>exact⟨_,_,rfl,by rw[u];rfl,b⟩
 |some y=>exact⟨_,_,rfl,by rw[u];rfl,b⟩
def lD(o:bV En):bA bE:=match o with
 |some e=>e.vs
 |none=>u5
def E1(o:bV En):∃(k id:Int) (wr tc:Bool),lD o= [Iv k,Iv id,.bool wr,.bool tc]/\Pc o=.tuple #[.agg #[Iv k,Iv id,.bool wr,.bool tc],.bool o.isSome]:=by
 cases o with
 |some e=>exact⟨_,_,_,_,rfl,rfl⟩
 |none=>exact⟨_,_,_,_,rfl,rfl⟩
def kW.dR{c sp n:Nat}{o:dx}{q:Vs×cF×bV Int}{x:bE}(h:kW E A v r c sp o L n S q x w):∃(id:Int) (b:Bool),x=.tuple #[Iv id,.bool b]:=by
 obtain⟨rfl,_⟩:=h;cases q.2.2 with
 |none=>exact⟨_,_,rfl⟩
 |some y=>exact⟨_,_,rfl⟩
def RY{c sp:Nat}{o:dx}{out:cF}{i:Sl}{bL:Int}{x:Rg}(hx:x.fits)(av:0<=bL/\bL<65536)(W:dE ps)(hn:r.n=ps.length)(hb:ps.length<=64)(aj:Kc.Inv S)(aa:S.bt.next+66<=16777216)(hk:i.n=out.bH.length)(Z:out.bH= [])(ad:0<=o.a){g:Int}{s:Kw.Sp}(hp:ps[o.a.toNat]?=some (g,some (sp,s)))(h:Sep E (Vm A v r S ps (bC c (c6 o v sp out i)::bw i 1 (bD out.bH)::L)) w):
  Calls P BC #[Pb c,Iv bL,.agg x.vs.toArray] w (cz (kW E A v r c sp o L ps.length S (Vs.there ⟨S,plain ps⟩ o.a bL s x out))):=by
 have N:=W _ _ _ _ hp;obtain⟨B,K⟩:∃B,s.entry bL=B:=⟨_,rfl⟩
 obtain⟨aJ,aG,aI,aH,Y,ab⟩:=E1 B;apply Zz;unfold Nt qC qD qE qG qL qU qZ qb qp qy zG zY zo zu zy;refine Al.i h (λm aK h1=>Al.i h1 (λn w2 h2=>Al.i h2 (λl aF ae=>?_)));have ae:Sep E (bC l x.vs::bC n [Iv bL]::bC m [Pb c]::Vm A v r S ps (bC c (c6 o v sp out i)::bw i 1 (bD out.bH)::L)) aF:=ae;have aC:=lC [bC l x.vs,bC n [Iv bL],bC m [Pb c]] ae;refine⟨λal ok w'=>∃q:Nat,al=⟨q,0,none⟩/\ok=B.isSome/\Sep E (bC q (lD B)::bC l x.vs::bC n [Iv bL]::bC m [Pb c]::Vm A v r S ps (bC c (c6 o v sp out i)::bw i 1 (bD out.bH)::L)) w',Dr.i aC (λay p=>⟨some ⟨c,0,none⟩,Vm.cell p 4 rfl 0,_,rfl,some ⟨sp,0,none⟩,Vm.cell p 0 rfl 6,bL,Vm.cell p 3 rfl 0,?_,?_⟩),?_⟩
 ·refine use (u6 bL N (Vm.op hp p)) ?_;rintro _ O ⟨rfl,a⟩;have d:=lZ [bC l x.vs,bC n [Iv bL],bC m [Pb c]] (Vm.bk hp a);have d:Sep E (bC l x.vs::bC n [Iv bL]::bC m [Pb c]::Vm A v r S ps (bC c (c6 o v sp out i)::bw i 1 (bD out.bH)::L)) O:=d;rw[K,ab];refine⟨_,_,_,_,_,rfl,Al.i d (λq ai t=>⟨bL,t.cellAt 2 rfl 0,rfl,some ⟨sp,0,none⟩,?_,rfl,some ⟨c,0,none⟩,t.cellAt 3 rfl 0,rfl,et _ t rfl (λaz C=>⟨q,rfl,rfl,?_⟩)⟩)⟩
  ·have aD:=Vm.hE [_,_,_,_] t;exact Vm.cell aD 4 rfl 6
  ·rw[Y];exact C
 ·have aq:=lZ [bC l x.vs,bC n [Iv bL],bC m [Pb c]] p;refine Al.i aq (λq O a=>?_);have a:Sep E (bC q u5::bC l x.vs::bC n [Iv bL]::bC m [Pb c]::Vm A v r S ps (bC c (c6 o v sp out i)::bw i 1 (bD out.bH)::L)) O:=a;have ap:=Vm.hE [_,_,_,_] a;refine⟨bL,a.cellAt 2 rfl 0,rfl,some ⟨sp,0,none⟩,Vm.cell ap 4 rfl 6,rfl,some ⟨c,0,none⟩,a.cellAt 3 rfl 0,rfl,use (u6 bL N (Vm.op hp ap)) ?_⟩;rintro _ ai ⟨rfl,d⟩;have t:=Vm.fh [_,_,_,_] (Vm.bk hp d);rw[K,ab];refine⟨_,_,_,_,_,rfl,et _ t rfl (λaz C=>⟨q,rfl,rfl,?_⟩)⟩;rw[Y];exact C
 rintro _ _ _ ay ⟨q,rfl,rfl,p⟩;have an:=lC [bC q (lD B),bC l x.vs,bC n [Iv bL],bC m [Pb c]] p;have ag:∀e,B=some e->Vs.there ⟨S,plain ps⟩ o.a bL s x out=Vs.bX ⟨S,plain ps⟩ o.a e.id out:=λe he=>by unfold Vs.there;rw[K,he]
 have ah:B=none->Vs.there ⟨S,plain ps⟩ o.a bL s x out=(let r:=Vs.dR ⟨S,plain ps⟩ (λS g=>S.cA (dC x bL) g) o.a out;match r.2.2 with|some id=>(r.1.enter o.a bL id 2 x.wr,r.2)|none=>r):=λhe=>by unfold Vs.there;rw[K,he];rfl
 cases B with
 |some e=>
  rw[ag e rfl];have ao:Sep E (bC q e.vs::bC l x.vs::bC n [Iv bL]::bC m [Pb c]::Vm A v r S ps (bC c (c6 o v sp out i)::bw i 1 (bD out.bH)::L)) ay:=p;refine bT rfl ⟨some ⟨c,0,none⟩,p.cellAt 3 rfl 0,ld ao 0 rfl rfl (x:=(e.id:Int)) rfl (use (RX (id:=(e.id:Int)) W hn hb aj aa hk Z ad hp an) ?_)⟩;rintro _ O D;have D:=kW.cut D;obtain⟨y,b,rfl⟩:=D.dR;exact⟨_,_,rfl,D⟩
 |none=>
  rw[ah rfl];have hr:∀(S:Cs) (g:Int),cq 1 S ((λ(S:Cs) g=>S.cA (dC x bL) g) S g).1:=λS g=>cq.cA _ g;refine bF rfl ⟨some ⟨c,0,none⟩,p.cellAt 3 rfl 0,use (EX (fv:=.func (.func BM) #[] #[Pb m,Pb l,Pb n]) (f:=λS g=>S.cA (dC x bL) g) (λS' cI out' H am w' aA au h'=>⟨_,_,rfl,by kernel_rfl,?_⟩) hr W hn hb aj aa hk Z ad hp an) ?_⟩
  ·show Calls P BM #[Iv am,Pb m,Pb l,Pb n] w' _;apply ZW;unfold NI qD qG qZ qb zR zX zo;have z:∀ {ak:Cs} {w:bI},Sep E (Vm A v r ak cI (bC c (c6 o v sp out' H)::bw H 1 (bD out'.bH)::([bC q (lD none),bC l x.vs,bC n [Iv bL],bC m [Pb c]]++L))) w->∀j,w.cell? ⟨l,j,none⟩=x.vs[j]? :=λaE j=>Vm.cell aE 3 rfl j;refine Dr.i h' (λO a=>⟨some ⟨c,0,none⟩,Vm.cell a 5 rfl 0,_,rfl,some ⟨v,0,none⟩,Vm.cell a 0 rfl 5,_,rfl,some ⟨A.c,0,none⟩,a.cellAt 16 rfl 0,_,z a 0,_,z a 1,_,z a 2,_,z a 3,_,z a 4,_,z a 5,bL,Vm.cell a 4 rfl 0,use (aJB hx av a) ?_⟩);rintro _ ai ⟨rfl,d⟩;refine⟨_,_,rfl,_,d.cellAt 16 rfl 0,rfl,_,Vm.cell d 0 rfl 5,rfl,_,Vm.cell d 5 rfl 0,rfl,use (aJt (k:=dC x bL) (g:=am) aA au d) ?_⟩;rintro _ az ⟨rfl,t⟩;exact⟨_,_,_,rfl,rfl,t⟩
  rintro y O D;have D:=D.cut (F:=[]);obtain⟨X,cI,H,G,u,R,d⟩:=D;have T:=EZ hr ad (out:=out) rfl G u hp;have U:=E0 (S:=S) hr hb o.a out;have aw:=(vB (pid:=o.a) hr ((plain ps).length+1) ⟨S,plain ps⟩ out).1;have J:=aw.inv aj (by rw[kc];show S.bt.next+((ps.length+1:Nat):Int)<=_;omega);have eS:=EY (pid:=o.a) hr (λS g aj hn he=>RU aj hn he) ((plain ps).length+1) ⟨S,plain ps⟩ out;have aB:fy (λS g=>S.cA (dC x bL) g) o.a ((plain ps).length+1) ⟨S,plain ps⟩ out=Vs.dR ⟨S,plain ps⟩ (λS g=>S.cA (dC x bL) g) o.a out:=rfl;rw[aB]at J eS;dsimp only;generalize Vs.dR ⟨S,plain ps⟩ (λS g=>S.cA (dC x bL) g) o.a out=Q at X u R d T J eS U ⊢;cases I:Q.2.2 with
  |none=>
   rw[I]at X;subst X;exact⟨_,_,rfl,bF rfl ⟨by dsimp only;rw[I];rfl,U,cI,H,W.less G,G.len,u,R,(λe=>by dsimp only at e;rw[I]at e;cases e),(lZ [_,_,_,_] d).right⟩⟩
  |some id=>
   rw[I]at X;subst X;have af:=eS id aj (by rw[kc];show S.bt.next+((ps.length+1:Nat):Int)<=_;omega) I;have M:=T (by rw[I];rfl);refine⟨_,_,rfl,bT rfl ⟨some ⟨c,0,none⟩,Vm.cell d 5 rfl 0,bL,Vm.cell d 4 rfl 0,x.wr,Vm.cell d 3 rfl 5,use (RV (k:=2) (bL:=bL) (id:=id) (wr:=x.wr) (.inr rfl) af N J.1 M d) ?_⟩⟩;rintro _ ai ⟨rfl,t⟩;have ax:Vs.space Q.1 o.a=some s:=by
    have C:=jc M;rw[u]at C;have:=(jw (V:=Q.1) C).1;rwa[show((o.a.toNat:Nat):Int)=o.a by omega]at this
   have ar:Vs.group Q.1 o.a=g:=by
    have C:=jc M;rw[u]at C;have:=(jw (V:=Q.1) C).2;rwa[show((o.a.toNat:Nat):Int)=o.a by omega]at this
   refine⟨rfl,?_⟩;dsimp only;rw[RW ax,ar];refine⟨by dsimp only;rw[I];rfl,U.trans (cq.bO id 1),_,H,(W.less G).set (N.enter (.inr rfl)),?_,?_,R,λ_=>⟨g,_,jd (cZ.1 M).1⟩,(lZ [_,_,_,_] t).right⟩;·rw[dW];exact G.len
   ·rw[pP,u]
def RZ{c sp:Nat}{o:dx}{Q:Vs×cF×bV Int}{V':Vs}{cI:PS}{a:Sl}{n:Nat}{id:Int}{s':Kw.Sp}{g:Int}{S:Cs}(f:Q.2.2=some id)(hr:cq 66 S V'.core)(h:dE cI)(h1:cI.length=n)(h2:plain cI=V'.procs)(b:a.n=Q.2.1.bH.length)(d:cI[o.a.toNat]?=some (g,some (sp,s')))(e:Sep E (Vm A v r V'.core cI (bC c (c6 o v sp Q.2.1 a)::bw a 1 (bD Q.2.1.bH)::L)) w):kW E A v r c sp o L n S (V',Q.2) (.tuple #[Iv id,.bool true]) w:=
 ⟨by dsimp only;rw[f];rfl,hr,cI,a,h,h1,h2,b,λ_=>⟨g,s',d⟩,e⟩
def aJI{c sp:Nat}{o:dx}{out:cF}{q:Sl}{bL:Int}(ab:dE ps)(hn:r.n=ps.length)(hb:ps.length<=64)(ao:Kc.Inv S)(an:S.bt.next+66<=16777216)(hk:q.n=out.bH.length)(am:out.bH= [])(aq:0<=o.a){g:Int}{s:Kw.Sp}(hp:ps[o.a.toNat]?=some (g,some (sp,s)))(h:Sep E (Vm A v r S ps (bC c (c6 o v sp out q)::bw q 1 (bD out.bH)::L)) w):
  Calls P Iq #[Pb c,Iv bL] w (cz (kW E A v r c sp o L ps.length S (Vs.own ⟨S,plain ps⟩ o.a bL s out))):=by
 have aa:=ab _ _ _ _ hp;obtain⟨a,af⟩:∃a,s.entry bL=a:=⟨_,rfl⟩
 obtain⟨aN,d,aL,aK,u,aB⟩:=E1 a;obtain⟨pg,Y⟩:∃pg,(S.bt.get d).1=pg:=⟨_,rfl⟩
 obtain⟨K,hK⟩:∃K:bf9,K=kW E A v r c sp o L ps.length S (Vs.own ⟨S,plain ps⟩ o.a bL s out):=⟨_,rfl⟩
 rw[<- hK];apply ZC;unfold Nw qE qG qL qQ qU qV qX qZ qb qg qh qm qp zH zo zu zy;refine Al.i h (λt aI h1=>?_);have h1:Sep E (bC t [Pb c]::Vm A v r S ps (bC c (c6 o v sp out q)::bw q 1 (bD out.bH)::L)) aI:=h1;have ay:=lC [bC t [Pb c]] h1;refine⟨λaG I w'=>∃m q2:Nat,aG=⟨m,0,none⟩/\I=⟨q2,0,none⟩/\Sep E (Vm A v r S ps (bC c (c6 o v sp out q)::bw q 1 (bD out.bH)::([bC q2 [.bool a.isSome],bC m (lD a),bC t [Pb c]]++L))) w',
  ⟨some ⟨c,0,none⟩,h1.cell 0,_,rfl,some ⟨sp,0,none⟩,Vm.cell ay 0 rfl 6,use (u6 bL aa (Vm.op hp ay)) ?_⟩,?_⟩
 ·rintro _ w2 ⟨rfl,h2⟩;have l:=lZ [bC t [Pb c]] (Vm.bk hp h2);rw[af,aB];refine⟨_,_,_,_,_,rfl,Al.i l (λm aw O=>Al.i O (λq2 ak x=>et _ x.swap rfl (λG i=>St.i i.swap (by show 0<1;decide) (λaO I=>⟨m,q2,rfl,rfl,?_⟩))))⟩;refine lC [_,_,_] ?_;rw[u];exact I
 rintro _ _ _ w2 ⟨m,q2,rfl,rfl,h2⟩;have J:∀ {S':Cs} {cI:PS} {o':cF} {j:Sl} {F:ct} {w:bI},Sep E (Vm A v r S' cI (bC c (c6 o v sp o' j)::bw j 1 (bD o'.bH)::(bC q2 [.bool a.isSome]::bC m (lD a)::F))) w->w.cell? ⟨m,1,none⟩=some (Iv d):=λah=>by rw[Vm.cell ah 3 rfl 1,u];rfl
 refine⟨λaE w'=>∃z:Nat,aE=⟨z,0,none⟩/\Sep E (Vm A v r S ps (bC c (c6 o v sp out q)::bw q 1 (bD out.bH)::([bC q2 [.bool a.isSome],bC m (lD a),bC t [Pb c],bC z pg.vs]++L))) w',
  Dr.i h2 (λaF l=>⟨some ⟨c,0,none⟩,Vm.cell l 4 rfl 0,_,rfl,some ⟨v,0,none⟩,Vm.cell l 0 rfl 5,_,rfl,some ⟨A.c,0,none⟩,l.cellAt 16 rfl 0,d,J l,?_,?_⟩),?_⟩
 ·refine use (Rc d l) ?_;rintro _ aw ⟨rfl,O⟩;rw[Y];have O:Sep E (Vm A v r S ps (bC c (c6 o v sp out q)::bw q 1 (bD out.bH)::([bC q2 [.bool a.isSome],bC m (lD a),bC t [Pb c]]++L))) aw:=O;refine⟨_,_,_,_,_,_,_,_,_,_,rfl,Al.i O (λz ak x=>?_)⟩;have al:=Vm.e9 x;refine⟨d,(Vm.cell al 4 rfl 1).trans (by rw[u];rfl),rfl,_,al.cellAt 16 rfl 0,rfl,_,Vm.cell al 1 rfl 5,rfl,_,Vm.cell al 5 rfl 0,rfl,et _ x rfl (λG i=>⟨z,rfl,?_⟩)⟩;have i:Sep E (bC z pg.vs::Vm A v r S ps ([bC c (c6 o v sp out q),bw q 1 (bD out.bH),bC q2 [.bool a.isSome],bC m (lD a),bC t [Pb c]]++L)) G:=i;exact Vm.pL (jf (l₁:=[_,_,_,_,_])).symm (Vm.e9 i)
 ·refine Al.i l (λz aw O=>?_);have ad:=Vm.e9 O;refine⟨d,(Vm.cell ad 4 rfl 1).trans (by rw[u];rfl),rfl,_,ad.cellAt 16 rfl 0,rfl,_,Vm.cell ad 1 rfl 5,rfl,_,Vm.cell ad 5 rfl 0,rfl,use (Rc d ad) ?_⟩;rintro _ ak ⟨rfl,x⟩;rw[Y];refine⟨_,_,_,_,_,_,_,_,_,_,rfl,et _ (Vm.out x) rfl (λG i=>⟨z,rfl,?_⟩)⟩;have i:Sep E (bC z pg.vs::Vm A v r S ps ([bC c (c6 o v sp out q),bw q 1 (bD out.bH),bC q2 [.bool a.isSome],bC m (lD a),bC t [Pb c]]++L)) G:=i;exact Vm.pL (jf (l₁:=[_,_,_,_,_])).symm (Vm.e9 i)
 rintro _ _ aF ⟨z,rfl,l⟩;refine⟨λb w'=>b=(a.isSome&&decide (pg.refs<=1))/\w'=aF,⟨a.isSome,Vm.cell l 2 rfl 0,cv (λhe=>⟨pg.refs,Vm.cell l 5 rfl 5,by rw[he];rfl,rfl⟩) (λhe=>⟨by rw[he];rfl,rfl⟩)⟩,?_⟩;rintro _ _ _ ⟨rfl,rfl⟩;refine cv (λM=>?_) (λM=>?_)
 ·cases a with
  |none=>cases M
  |some e=>
  have M:decide (pg.refs<=1)=true:=by simpa using M
  have T:d=e.id:=by simp only[lD,En.vs,List.cons.injEq,Value.int.injEq]at u;exact u.2.1.2.symm
  have R:Vs.own ⟨S,plain ps⟩ o.a bL s out=Vs.bX ⟨S,plain ps⟩ o.a e.id out:=by
   unfold Vs.own;rw[af];dsimp only;rw[<- T,Y,bK (mH M)]
  rw[R]at hK;refine⟨some ⟨c,0,none⟩,Vm.cell l 4 rfl 0,d,J l,use (RX (id:=d) ab hn hb ao an hk am aq hp l) ?_⟩;rintro _ ak ae;have ae:=kW.cut ae;obtain⟨y,b,rfl⟩:=ae.dR;rw[T]at ae;exact⟨_,_,rfl,by rw[hK];exact ae⟩
 ·obtain⟨f,hf⟩:∃f:Cs->Int->Cs×Int×Int×Int,f= λS g=>if a.isSome then S.copy d g else S.fresh g:=⟨_,rfl⟩
  have hr:∀(S:Cs) (g:Int),cq 1 S (f S g).1:=λS g=>by rw[hf];dsimp only;split;exact cq.copy _ _;exact cq.fresh _
  have au:∀(S:Cs) (g:Int),Kc.Inv S->S.bt.next<16777216->(f S g).2.2.2=0->0<=(f S g).2.1/\(f S g).2.1<16777216:=by
   intro S g ao hn he;rw[hf]at he ⊢;dsimp only at he ⊢;split at he;·next ah=>rw[bK ah];exact RS ao hn he
   ·next ah=>rw[bJ ah];exact RR ao hn he
  have R:Vs.own ⟨S,plain ps⟩ o.a bL s out=(let r:=Vs.dR ⟨S,plain ps⟩ f o.a out;match r.2.2 with
    |some id=>(let V1:=r.1.enter o.a bL id 1 true;((if a.isSome then {V1 with core:=(V1.core.bO d (-1)).1} else V1),r.2))
    |none=>r):=by
   unfold Vs.own;rw[af];cases a with
   |some e=>
    have T:d=e.id:=by simp only[lD,En.vs,List.cons.injEq,Value.int.injEq]at u;exact u.2.1.2.symm
    have M:decide (pg.refs<=1)=false:=by simpa using M
    dsimp only;rw[<- T,Y,bJ (kg M),hf];rfl
   |none=>rw[hf];rfl
  rw[R]at hK;refine⟨some ⟨c,0,none⟩,Vm.cell l 4 rfl 0,use (EX (fv:=.func (.func BP) #[] #[Pb q2,Pb t,Pb m]) (f:=f) (λS' cI out' j ap w' ax aM h'=>⟨_,_,rfl,by kernel_rfl,?_⟩) hr ab hn hb ao an hk am aq hp l) ?_⟩
  ·show Calls P BP #[Iv ap,Pb q2,Pb t,Pb m] w' _;apply Z1;unfold NO qL qZ qb qm zX;rw[hf];dsimp only;refine⟨a.isSome,Vm.cell h' 2 rfl 0,cv (λhe=>Dr.i h' (λak x=>⟨some ⟨c,0,none⟩,Vm.cell x 4 rfl 0,_,rfl,some ⟨v,0,none⟩,Vm.cell x 0 rfl 5,_,rfl,some ⟨A.c,0,none⟩,x.cellAt 16 rfl 0,d,J x,use (aJp (id:=d) (g:=ap) ax x) ?_⟩)) (λhe=>⟨some ⟨c,0,none⟩,Vm.cell h' 4 rfl 0,_,rfl,some ⟨v,0,none⟩,Vm.cell h' 0 rfl 5,_,rfl,some ⟨A.c,0,none⟩,h'.cellAt 16 rfl 0,use (aIb (g:=ap) ax h') ?_⟩)⟩
   ·rintro _ G ⟨rfl,i⟩;rw[bK he];exact⟨_,_,_,rfl,rfl,i⟩
   ·rintro _ G ⟨rfl,i⟩;rw[bJ (by rw[he];decide)];exact⟨_,_,_,rfl,rfl,i⟩
  rintro y ak ⟨aj,cI,j,H,C,U,i⟩;have W:=EZ hr aq (out:=out) rfl H C hp;have Z:=E0 (S:=S) hr hb o.a out;have aC:=(vB (pid:=o.a) hr ((plain ps).length+1) ⟨S,plain ps⟩ out).1;have D:=aC.inv ao (by rw[kc];show S.bt.next+((ps.length+1:Nat):Int)<=_;omega);have eS:=EY (pid:=o.a) hr au ((plain ps).length+1) ⟨S,plain ps⟩ out;have aH:fy f o.a ((plain ps).length+1) ⟨S,plain ps⟩ out=Vs.dR ⟨S,plain ps⟩ f o.a out:=rfl;rw[aH]at D eS;dsimp only at hK;generalize Vs.dR ⟨S,plain ps⟩ f o.a out=Q at aj C U i W D eS Z hK;cases N:Q.2.2 with
  |none=>
   rw[N]at aj hK;subst aj;refine⟨_,_,rfl,λw'=>Sep E (Vm A v r Q.1.core cI (bC c (c6 o v sp Q.2.1 j)::bw j 1 (bD Q.2.1.bH)::([bC q2 [.bool a.isSome],bC m (lD a),bC t [Pb c],bC z pg.vs]++L))) w',bF rfl i,?_⟩;rintro _ G i;refine⟨λb w'=>b=false/\w'=G,bF rfl ⟨rfl,rfl⟩,?_⟩;rintro _ _ _ ⟨rfl,rfl⟩;refine bF rfl ?_;rw[hK];exact⟨by dsimp only;rw[N];rfl,Z,cI,j,ab.less H,H.len,C,U,(λe=>by dsimp only at e;rw[N]at e;cases e),(lZ [_,_,_,_] i).right⟩
  |some id=>
   rw[N]at aj hK;subst aj;have av:=eS id ao (by rw[kc];show S.bt.next+((ps.length+1:Nat):Int)<=_;omega) N;have X:=W (by rw[N];rfl);have aD:Vs.space Q.1 o.a=some s:=by
    have B:=jc X;rw[C]at B;have:=(jw (V:=Q.1) B).1;rwa[show((o.a.toNat:Nat):Int)=o.a by omega]at this
   have aA:Vs.group Q.1 o.a=g:=by
    have B:=jc X;rw[C]at B;have:=(jw (V:=Q.1) B).2;rwa[show((o.a.toNat:Nat):Int)=o.a by omega]at this
   have az:=((cq.bO (S:=Q.1.core) id 1).inv D.1 (by have:=D.1.ids;omega)).1;have ag:=RW (V:=Q.1) (pid:=o.a) (p:=bL) (id:=id) (k:=1) (wr:=true) aD;rw[aA]at ag;dsimp only at hK;rw[ag]at hK;refine⟨_,_,rfl,λw'=>Sep E (Vm A v r (Q.1.core.bO id 1).1 (cI.set o.a.toNat (g,some (sp,s.enter bL id 1 true))) (bC c (c6 o v sp Q.2.1 j)::bw j 1 (bD Q.2.1.bH)::([bC q2 [.bool a.isSome],bC m (lD a),bC t [Pb c],bC z pg.vs]++L))) w',bT rfl ⟨some ⟨c,0,none⟩,Vm.cell i 4 rfl 0,use (RV (k:=1) (bL:=bL) (id:=id) (wr:=true) (.inl rfl) av aa D.1 X i) ?_⟩,?_⟩
   ·rintro _ G ⟨rfl,I⟩;exact⟨rfl,I⟩
   rintro _ G I;refine⟨λb w'=>b=a.isSome/\w'=G,bT rfl ⟨a.isSome,Vm.cell I 2 rfl 0,rfl,rfl⟩,?_⟩;rintro _ _ _ ⟨rfl,rfl⟩;have hlen:(cI.set o.a.toNat (g,some (sp,s.enter bL id 1 true))).length=ps.length:=by rw[dW];exact H.len
   have ai:(cI.set o.a.toNat (g,some (sp,s.enter bL id 1 true)))[o.a.toNat]?=some (g,some (sp,s.enter bL id 1 true)):=jd (cZ.1 X).1;refine cv (λhe=>Dr.i I (λaP B=>⟨some ⟨c,0,none⟩,Vm.cell B 4 rfl 0,_,rfl,some ⟨v,0,none⟩,Vm.cell B 0 rfl 5,_,rfl,some ⟨A.c,0,none⟩,B.cellAt 16 rfl 0,d,J B,use (yD (id:=d) (n:= -1) az B) ?_⟩)) (λhe=>?_)
   ·rintro _ aJ ⟨rfl,ar⟩;have ar:Sep E (Vm A v r ((Q.1.core.bO id 1).1.bO d (-1)).1 (cI.set o.a.toNat (g,some (sp,s.enter bL id 1 true))) (bC c (c6 o v sp Q.2.1 j)::bw j 1 (bD Q.2.1.bH)::([bC q2 [.bool a.isSome],bC m (lD a),bC t [Pb c],bC z pg.vs]++L))) aJ:=ar;rw[bK he]at hK;rw[hK];exact⟨_,rfl,RZ N ((Z.trans (cq.bO id 1)).trans (cq.bO d (-1))) ((ab.less H).set (aa.enter (.inl rfl))) hlen (by rw[pP,C]) U ai (lZ [_,_,_,_] ar).right⟩
   ·rw[bJ (by rw[he];decide)]at hK;rw[hK];exact RZ N (Z.trans (cq.bO id 1)) ((ab.less H).set (aa.enter (.inl rfl))) hlen (by rw[pP,C]) U ai (lZ [_,_,_,_] I).right
def jX(o:bV Rg):Rg:=o.getD ⟨0,0,0,0,0,false⟩
def aG9(o:bV Rg):sY o=.tuple #[.agg (jX o).vs.toArray,.bool o.isSome]:=by cases o<;>rfl
def aJK(x:Int):x.fdiv (2^(min (4:Int).toNat 64))=x/16:=SU _ bN
def R0{c sp:Nat}{o:dx}{out:cF}{d:Sl}{g:Int}{s:Kw.Sp}(t:fC s)(hp:ps[o.a.toNat]?=some (g,some (sp,s)))(h:Sep E (Vm A v r S ps (bC c (c6 o v sp out d)::L)) w):
  Calls P BB #[Pb c] w (cW E (.tuple #[Iv (o.b/16),.agg (jX (s.cw (o.b/16))).vs.toArray,.bool ((s.cw (o.b/16)).isSome&&decide (o.b≥0))]) (Vm A v r S ps (bC c (c6 o v sp out d)::L))):=by
 obtain⟨y,k⟩:∃y,s.cw (o.b/16)=y:=⟨_,rfl⟩
 rw[k];apply Zy;unfold Ns qL qU qZ zH zR zg zm;refine Al.i h (λf B h1=>?_);have e:=Vm.e9 h1;refine⟨_,rfl,o.b,Vm.cell e 1 rfl 2,bN,_,rfl,some ⟨sp,0,none⟩,Vm.cell e 1 rfl 6,?_⟩;dsimp only;rw[aJK];refine use (Pa (o.b/16) t (Vm.op hp e)) ?_;rintro _ w2 ⟨rfl,h2⟩;rw[k,aG9];have n:=Vm.out (Vm.bk hp h2);refine⟨_,_,_,_,_,_,_,rfl,Al.i n (λp2 C p=>et _ p rfl (λD q=>Dr.i q (λu b=>?_)))⟩;have b:Sep E (bC p2 (jX y).vs::bC f (Rg.vs ⟨0,0,0,0,0,false⟩)::Vm A v r S ps (bC c (c6 o v sp out d)::L)) u:=b;refine gB b (i:=0) rfl ?_;cases z:y.isSome with
 |true=>
  have l:=Vm.hE [_,_] b;refine bT rfl ⟨_,rfl,o.b,Vm.cell l 2 rfl 2,et _ b.swap rfl (λj a=>?_)⟩;have a:Sep E (bC f (jX y).vs::bC p2 (jX y).vs::Vm A v r S ps (bC c (c6 o v sp out d)::L)) j:=a;have m:=Vm.hE [_,_] a;exact⟨o.b,Vm.cell m 2 rfl 2,rfl,gB a (i:=0) rfl ⟨rfl,a.tail.tail⟩⟩
 |false=>
  refine bF rfl (et _ b.swap rfl (λj a=>?_));have a:Sep E (bC f (jX y).vs::bC p2 (jX y).vs::Vm A v r S ps (bC c (c6 o v sp out d)::L)) j:=a;exact gB a (i:=0) rfl ⟨rfl,a.tail.tail⟩
def done(E:Env)(A:At)(v:Nat)(r:Sl)(c sp:Nat)(o:dx)(L:ct)(n:Nat)(S:Cs)(q:Vs×cF)(x:bE)(w:bI):Prop:=
 x=.tuple #[]/\cq 66 S q.1.core/\∃(cI:PS) (a:Sl),dE cI/\cI.length=n/\plain cI=q.1.procs/\a.n=q.2.bH.length/\
  Sep E (Vm A v r q.1.core cI (bC c (c6 o v sp q.2 a)::bw a 1 (bD q.2.bH)::L)) w
def R1{V:Vs}{pid p:Int}{s:Kw.Sp}(h:V.space pid=some s):V.cm pid p=⟨V.core,V.procs.set pid.toNat (V.group pid,some (s.cm p))⟩:=by unfold Vs.cm;rw[h];rfl
def aJD{c sp:Nat}{o:dx}{a:Sl}(Z:dE ps)(hn:r.n=ps.length)(hb:ps.length<=64)(aA:Kc.Inv S)(ao:S.bt.next+66<=16777216)(hk:a.n=0)(au:0<=o.a){g:Int}{s:Kw.Sp}(hp:ps[o.a.toNat]?=some (g,some (sp,s)))(h:Sep E (Vm A v r S ps (bC c (c6 o v sp cF.zero a)::bw a 1 (bD [])::L)) w):
  Calls P xq #[Pb c] w (cz (done E A v r c sp o L ps.length S (Vs.load ⟨S,plain ps⟩ o.a s o.b))):=by
 have H:=Z _ _ _ _ hp;obtain⟨K,hK⟩:∃K,K=done E A v r c sp o L ps.length S (Vs.load ⟨S,plain ps⟩ o.a s o.b):=⟨_,rfl⟩
 rw[<- hK];have same:∀ {V':Vs} {out':cF} {w':bI},Vs.load ⟨S,plain ps⟩ o.a s o.b=(⟨S,plain ps⟩,out')->out'.bH= []->Sep E (Vm A v r S ps (bC c (c6 o v sp out' a)::bw a 1 (bD [])::L)) w'->K aN4 w':=by
  intro V' out' w' ar ae h';rw[hK,ar];exact⟨rfl,.nil _ _,ps,a,Z,rfl,rfl,by dsimp only;rw[ae];exact hk,by dsimp only;rw[ae];exact h'⟩
 apply Zh;unfold Ng qF qL qU qZ qg qo qp zR zg zk zu zy;dsimp only;refine use (R0 H hp h) ?_;rintro _ aI ⟨rfl,h1⟩;obtain⟨y,R⟩:∃y,s.cw (o.b/16)=y:=⟨_,rfl⟩
 rw[R];refine⟨_,_,_,_,_,_,_,_,rfl,Al.i h1 (λp w2 h2=>et _ h2 rfl (λaa C=>?_))⟩;have C:Sep E (bC p (jX y).vs::Vm A v r S ps (bC c (c6 o v sp cF.zero a)::bw a 1 (bD [])::L)) aa:=C;refine cv (λan=>⟨_,rfl,?_⟩) (λW=>?_)
 ·have D:=(Vm.fh [_] (C.tail:Sep E (Vm A v r S ps ([bC c (c6 o v sp cF.zero a)]++(bw a 1 (bD [])::L))) aa))
  refine St.i D (by show 7<10;decide) (λab l=>?_);have j:=Vm.hE [bC c (c6 o v sp (cF.bad 14) a)] l;refine same (V':=⟨S,[]⟩) ?_ rfl j;unfold Vs.load;dsimp only;rw[R];cases y with
  |none=>rfl
  |some x=>
   have:¬ o.b≥0:=by simpa using an
   dsimp only;rw[eK]
 obtain⟨x,rfl⟩:∃x,y=some x:=by
  cases y with
  |none=>cases W
  |some x=>exact⟨x,rfl⟩
 have aE:0<=o.b:=by simpa using W
 have J:=sZ H R;have aq:=Rg.fe J.2.2.1;have C:Sep E (bC p x.vs::Vm A v r S ps (bC c (c6 o v sp cF.zero a)::bw a 1 (bD [])::L)) aa:=C;obtain⟨f,U⟩:∃f,s.entry (o.b/16)=f:=⟨_,rfl⟩
 have hl:Vs.load ⟨S,plain ps⟩ o.a s o.b=(if f.isNone/\x.kind=1 then(⟨S,plain ps⟩,.zero)else
   let r:=Vs.there ⟨S,plain ps⟩ o.a (o.b/16) s x .zero
   match r.2.2 with
   |none=>(r.1,r.2.1)
   |some id=>
    let g:=r.1.core.get id (o.b%16)
    ({r.1 with core:=g.1}.cm o.a (o.b/16), {r.2.1 with n:=g.2.1})):=by
  unfold Vs.load;dsimp only;rw[R];dsimp only;rw[cD,U];rfl
 have ag:=Vm.e9 C;refine⟨λw'=>¬ (f.isNone/\x.kind=1)/\Sep E (bC p x.vs::Vm A v r S ps (bC c (c6 o v sp cF.zero a)::bw a 1 (bD [])::L)) w',⟨_,rfl,some ⟨sp,0,none⟩,Vm.cell ag 1 rfl 6,use (u6 (o.b/16) H (Vm.op hp ag)) ?_⟩,?_⟩
 ·rintro _ ab ⟨rfl,D⟩;have l:=Vm.out (Vm.bk hp D);obtain⟨aH,aB,aD,aC,aF,ap⟩:=E1 f;rw[U,ap];refine⟨_,_,_,_,_,rfl,Al.i l (λq aw j=>et _ j rfl (λax d=>cv (λal=>ld d 1 rfl rfl (x:=x.kind) rfl (eQ (λG=>?_) (λG=>⟨λe=>G e.2,d.tail⟩))) (λhe=>⟨λe=>?_,d.tail⟩)))⟩
  ·have am:f.isNone=true:=by cases f with
    |none=>rfl
    |some e=>cases al
   exact same (V':=⟨S,[]⟩) (by rw[hl,bK ⟨am,G⟩]) rfl d.tail.tail
  ·cases f with
   |none=>cases he
   |some z=>cases e.1
 rintro _ ab ⟨X,D⟩;rw[bJ X]at hl;have ai:Sep E (Vm A v r S ps (bC c (c6 o v sp cF.zero a)::bw a 1 (bD cF.zero.bH)::L)) ab:=D.tail;refine gB D (i:=0) rfl (use (RY (bL:=o.b/16) aq ⟨J.1,J.2.1⟩ Z hn hb aA ao hk rfl au hp ai) ?_);rintro z aw ⟨M,t,cI,b,u,hlen,m,F,B,l⟩;dsimp only at hl;generalize Vs.there ⟨S,plain ps⟩ o.a (o.b/16) s x .zero=Q at M t m F B l hl;cases Y:Q.2.2 with
 |none=>
  rw[Y]at M hl;subst M;refine⟨_,_,rfl,bT rfl ?_⟩;rw[hK,hl];exact⟨rfl,t,cI,b,u,hlen,m,F,l⟩
 |some id=>
  rw[Y]at M hl;subst M;obtain⟨af,s',k⟩:=B (by rw[Y];rfl);have aj:=t.inv aA bu;obtain⟨ad,ak⟩:∃ad:Nat,o.b=ad:=⟨o.b.toNat,bu⟩
  have hand:dm .i64 o.b 15=o.b%16:=by rw[ak,Dp];omega
  have I:Vs.space ⟨(Q.1.core.get id (o.b%16)).1,Q.1.procs⟩ o.a=some s'/\Vs.group ⟨(Q.1.core.get id (o.b%16)).1,Q.1.procs⟩ o.a=af:=by
   have N:=jc k;rw[m]at N;have:=jw (V:=⟨(Q.1.core.get id (o.b%16)).1,Q.1.procs⟩) N;rwa[show((o.a.toNat:Nat):Int)=o.a by omega]at this
  dsimp only at hl;rw[R1 I.1,I.2]at hl;refine⟨_,_,rfl,bF rfl (Dr.i l (λax j=>⟨_,rfl,some ⟨v,0,none⟩,Vm.cell j 0 rfl 5,_,rfl,some ⟨A.c,0,none⟩,j.cellAt 16 rfl 0,_,rfl,o.b,Vm.cell j 0 rfl 2,?_⟩))⟩;rw[hand];refine use (oT (id:=id) (at_:=o.b%16) aj.1 j) ?_;rintro _ ay ⟨rfl,d⟩;have d:Sep E (Vm A v r (Q.1.core.get id (o.b%16)).1 cI (bC c (c6 o v sp Q.2.1 b)::bw b 1 (bD Q.2.1.bH)::L)) ay:=d;refine⟨_,_,rfl,_,rfl,some ⟨sp,0,none⟩,Vm.cell d 0 rfl 6,use (Pf (o.b/16) (u _ _ _ _ k) (Vm.op k d)) ?_⟩;rintro _ az ⟨⟨aG,rfl⟩,N⟩;have av:=Vm.sh k N;have ah:=Vm.fh [_] (av:Sep E (Vm A v r (Q.1.core.get id (o.b%16)).1 _ ([bC c (c6 o v sp Q.2.1 b)]++(bw b 1 (bD Q.2.1.bH)::L))) az);have O:i64.wrap (Q.1.core.get id (o.b%16)).2.1=(Q.1.core.get id (o.b%16)).2.1:=by
   have:0<=(Q.1.core.get id (o.b%16)).2.1/\(Q.1.core.get id (o.b%16)).2.1<256:=by
    unfold Cs.get;dsimp only;split;·exact⟨by show(0:Int)<=0;decide,by show(0:Int)<256;decide⟩
    ·have:=(By.gt Q.1.core.fr.bY.length Q.1.core.fr.c9 (Q.1.core.here id).1 (o.b%16)).1.toNat_lt;dsimp only;omega
   exact cP bu bu
  refine⟨_,rfl,_,rfl,St.i ah (by show 8<10;decide) (λaJ T=>?_)⟩;rw[hK,hl];refine⟨rfl,t.trans (cq.get id (o.b%16)),cI.set o.a.toNat (af,some (sp,s'.cm (o.b/16))),b,u.set ((u _ _ _ _ k).cm _),by rw[dW];exact hlen,by rw[pP,m],F,?_⟩;refine Vm.hE [bC c (c6 o v sp {Q.2.1 with n:=(Q.1.core.get id (o.b%16)).2.1} b)] ?_;rw[O]at T;exact T
def kd(o:dx)(y:bV Rg):Int:=if o.c<0\/255<o.c then 1 else match y with
 |none=>14
 |some x=>if o.b<0 then 14 else if x.wr=false then 15 else 0
def R2{V:Vs}{pid:Int}{s:Kw.Sp}(o:dx):V.store pid s o.b o.c=if kd o (s.cw (o.b/16))≠0 then(V,.bad (kd o (s.cw (o.b/16))))else
  let x:=jX (s.cw (o.b/16));let r:=if x.kind=2 then V.there pid (o.b/16) s x .zero else V.own pid (o.b/16) s .zero
  match r.2.2 with
  |none=>(r.1,r.2.1)
  |some id=>
   let g:=r.1.core.put id (o.b%16) (UInt8.ofNat o.c.toNat)
   ({r.1 with core:=g.1}.cm pid (o.b/16),r.2.1):=by
 unfold Vs.store;dsimp only;generalize s.cw (o.b/16)=y;by_cases h1:o.c<0\/255<o.c
 ·have e:kd o y=1:=bK h1;simp only[e];rw[bK h1,bK bN]
 rw[bJ h1];have a:kd o y=match y with
  |none=>14
  |some x=>if o.b<0 then 14 else if x.wr=false then 15 else 0:=bJ h1
 cases y with
 |none=>
  have e:kd o none=14:=a;simp only[e];rw[bK bN]
 |some x=>
  have a:kd o (some x)=if o.b<0 then 14 else if x.wr=false then 15 else 0:=a
  by_cases h2:o.b<0
  ·rw[bK h2]at a;simp only[a];rw[bK h2,bK bN]
  rw[bJ h2]at a;by_cases b:x.wr=false
  ·rw[bK b]at a;simp only[a];rw[bJ h2,bK b,bK bN]
  rw[bJ b]at a;simp only[a];rw[bJ h2,bJ b,bJ (show ¬ ((0:Int)≠0) by decide)];rfl
def aIy{c sp:Nat}{o:dx}{a:Sl}(Z:dE ps)(hn:r.n=ps.length)(hb:ps.length<=64)(aG:Kc.Inv S)(ah:S.bt.next+66<=16777216)(hk:a.n=0)(ap:0<=o.a){g:Int}{s:Kw.Sp}(hp:ps[o.a.toNat]?=some (g,some (sp,s)))(h:Sep E (Vm A v r S ps (bC c (c6 o v sp cF.zero a)::bw a 1 (bD [])::L)) w):
  Calls P xr #[Pb c] w (cz (done E A v r c sp o L ps.length S (Vs.store ⟨S,plain ps⟩ o.a s o.b o.c))):=by
 have ai:=Z _ _ _ _ hp;obtain⟨K,hK⟩:∃K,K=done E A v r c sp o L ps.length S (Vs.store ⟨S,plain ps⟩ o.a s o.b o.c):=⟨_,rfl⟩
 have aj:=R2 (V:=⟨S,plain ps⟩) (pid:=o.a) (s:=s) o;rw[aj]at hK;clear aj;obtain⟨y,ab⟩:∃y,s.cw (o.b/16)=y:=⟨_,rfl⟩
 rw[ab]at hK;rw[R2,ab,<- hK];apply Zi;unfold Nh qC qD qF qL qQ qU qZ qb qg qh qy zg zk;dsimp only;refine Al.i h (λi aT h1=>?_);have aH:=lC [bC i [Pb c]] h1;refine⟨some ⟨c,0,none⟩,h1.cell 0,use (R0 ai hp aH) ?_⟩;rintro _ w2 ⟨rfl,h2⟩;rw[ab];have h2:=lZ [bC i [Pb c]] h2;refine⟨_,_,_,_,_,_,_,_,rfl,Al.i h2 (λp2 aU aI=>Al.i aI (λn aV aJ=>St.i aJ.swap (by show 0<1;decide) (λaW aK=>et _ aK.swap rfl (λaE al=>?_))))⟩;have al:Sep E (bC n (jX y).vs::bC p2 [Iv (o.b/16)]::bC i [Pb c]::Vm A v r S ps (bC c (c6 o v sp cF.zero a)::bw a 1 (bD [])::L)) aE:=al;have m:=lC [bC n (jX y).vs,bC p2 [Iv (o.b/16)],bC i [Pb c]] al;obtain⟨F,aS⟩:∃F,F= [bC n (jX y).vs,bC p2 [Iv (o.b/16)],bC i [Pb c]]:=⟨_,rfl⟩
 have C:∀ {w:bI} (e:Int),Sep E (Vm A v r S ps (bC c (c6 o v sp cF.zero a)::bw a 1 (bD [])::([bC n (jX y).vs,bC p2 [Iv (o.b/16)],bC i [Pb c]]++L))) w->∀f:bf8,(∀w',Sep E (Vm A v r S ps (bC c (c6 o v sp (cF.bad e) a)::bw a 1 (bD [])::([bC n (jX y).vs,bC p2 [Iv (o.b/16)],bC i [Pb c]]++L))) w'->f w')->St ⟨c,7,none⟩ (Iv e) f w:=by
  intro w e aL f k;refine St.i (Vm.fh [_] aL) (by show 7<10;decide) (λw' h'=>k w' (Vm.hE [bC c (c6 o v sp (cF.bad e) a)] h'))
 refine⟨λw'=>Sep E (Vm A v r S ps (bC c (c6 o v sp (cF.bad (kd o y)) a)::bw a 1 (bD [])::([bC n (jX y).vs,bC p2 [Iv (o.b/16)],bC i [Pb c]]++L))) w',
  ⟨λb w'=>b=decide (o.c<0\/255<o.c)/\w'=aE,⟨some ⟨c,0,none⟩,Vm.cell m 4 rfl 0,_,rfl,o.c,Vm.cell m 0 rfl 3,cU (λq=>⟨(dF (.inl q)).symm,rfl⟩) (λq=>⟨some ⟨c,0,none⟩,Vm.cell m 4 rfl 0,_,rfl,o.c,Vm.cell m 0 rfl 3,?_,rfl⟩)⟩,?_⟩,?_⟩
 ·exact tB.2 ⟨λe=>.inr e,λe=>e.elim (λe=>bu) id⟩
 ·rintro _ _ _ ⟨rfl,rfl⟩;refine cv (λq=>⟨some ⟨c,0,none⟩,Vm.cell m 4 rfl 0,_,rfl,C 1 m _ (λw' h'=>?_)⟩) (λq=>cv (λaz=>⟨some ⟨c,0,none⟩,Vm.cell m 4 rfl 0,_,rfl,C 14 m _ (λw' h'=>?_)⟩) (λH=>⟨(jX y).wr,Vm.cell m 2 rfl 5,cv (λX=>⟨some ⟨c,0,none⟩,Vm.cell m 4 rfl 0,_,rfl,C 15 m _ (λw' h'=>?_)⟩) (λX=>?_)⟩))
  ·have e:kd o y=1:=by unfold kd;rw[bK (mH q)]
   rw[e];exact h'
  ·have e:kd o y=14:=by
    unfold kd;rw[bJ (kg q)];cases y with
    |none=>rfl
    |some x=>
     have:¬ o.b≥0:=by simpa using az
     dsimp only;rw[eK]
   rw[e];exact h'
  ·obtain⟨x,rfl⟩:∃x,y=some x:=by cases y with
    |none=>cases H
    |some x=>exact⟨x,rfl⟩
   have af:0<=o.b:=by simpa using H
   have hw:x.wr=false:=by simpa[jX]using X
   have e:kd o (some x)=15:=by unfold kd;rw[bJ (kg q)];dsimp only;rw[cD,bK hw]
   rw[e];exact h'
  ·obtain⟨x,rfl⟩:∃x,y=some x:=by cases y with
    |none=>cases H
    |some x=>exact⟨x,rfl⟩
   have af:0<=o.b:=by simpa using H
   have hw:¬ x.wr=false:=by
    have:x.wr=true:=by simpa[jX]using X
    rw[this];decide
   have e:kd o (some x)=0:=by unfold kd;rw[bJ (kg q)];dsimp only;rw[cD,bJ hw]
   rw[e];exact m
 rintro _ ae d;refine⟨some ⟨c,0,none⟩,Vm.cell d 4 rfl 0,_,rfl,kd o y,Vm.cell d 0 rfl 7,hJ (λay=>?_) (λheq=>?_)⟩
 ·rw[bK ay]at hK;rw[hK];exact⟨rfl,.nil _ _,ps,a,Z,rfl,rfl,hk,(lZ (out:=cF.bad (kd o y)) [_,_,_] d).right⟩
 rw[cD]at hK;have Y:∃x,y=some x/\0<=o.b/\(0<=o.c/\o.c<=255):=by
  unfold kd at heq;split at heq;·omega
  ·next q=>
   cases y with
   |none=>cases heq
   |some x=>
    dsimp only at heq;split at heq;·omega
    ·exact⟨x,rfl,bu,bu⟩
 rw[heq]at d;obtain⟨x,rfl,af,aN⟩:=Y;have d:Sep E (Vm A v r S ps (bC c (c6 o v sp cF.zero a)::bw a 1 (bD cF.zero.bH)::([bC n x.vs,bC p2 [Iv (o.b/16)],bC i [Pb c]]++L))) ae:=d;have W:=sZ ai ab;have aC:=Rg.fe W.2.2.1;have aA:jX (some x)=x:=rfl;rw[aA]at hK;dsimp only at hK;obtain⟨Q,M⟩:∃Q,(if x.kind=2 then Vs.there ⟨S,plain ps⟩ o.a (o.b/16) s x .zero else Vs.own ⟨S,plain ps⟩ o.a (o.b/16) s .zero)=Q:=⟨_,rfl⟩
 rw[M]at hK;refine⟨λfv w'=>e1 P fv #[] w' (cz (kW E A v r c sp o ([bC n x.vs,bC p2 [Iv (o.b/16)],bC i [Pb c]]++L) ps.length S Q)),⟨x.kind,Vm.cell d 2 rfl 2,eQ (λO=>⟨_,_,rfl,by kernel_rfl,?_⟩) (λO=>⟨_,_,rfl,by kernel_rfl,?_⟩)⟩,?_⟩
 ·show Calls P Ir #[Pb i,Pb p2,Pb n] ae _;rw[bK O]at M;apply ZG;unfold Ny qD qb qp zR;have p:∀j,ae.cell? ⟨n,j,none⟩=x.vs[j]? :=λj=>Vm.cell d 2 rfl j;refine⟨some ⟨c,0,none⟩,Vm.cell d 4 rfl 0,o.b/16,Vm.cell d 3 rfl 0,_,p 0,_,p 1,_,p 2,_,p 3,_,p 4,_,p 5,use (RY (bL:=o.b/16) aC ⟨W.1,W.2.1⟩ Z hn hb aG ah hk rfl ap hp d) ?_⟩;rintro z aF B;obtain⟨aM,b,rfl⟩:=B.dR;rw[M]at B;exact⟨_,_,rfl,B⟩
 ·show Calls P Ip #[Pb i,Pb p2] ae _;rw[bJ O]at M;apply ZB;unfold Nv qD qb qp;refine⟨some ⟨c,0,none⟩,Vm.cell d 4 rfl 0,o.b/16,Vm.cell d 3 rfl 0,use (aJI (bL:=o.b/16) Z hn hb aG ah hk rfl ap hp d) ?_⟩;rintro z aF B;obtain⟨aM,b,rfl⟩:=B.dR;rw[M]at B;exact⟨_,_,rfl,B⟩
 rintro _ fv aF G;refine oP G ?_;rintro z aX ⟨ad,T,cI,J,I,hlen,R,ag,aa,av⟩;clear M G;cases am:Q.2.2 with
 |none=>
  rw[am]at ad hK;subst ad;refine⟨_,_,rfl,bF rfl ?_⟩;rw[hK];exact⟨rfl,T,cI,J,I,hlen,R,ag,(lZ [_,_,_] av).right⟩
 |some id=>
  rw[am]at ad hK;subst ad;obtain⟨ao,s',u⟩:=aa (by rw[am];rfl);have aw:=T.inv aG bu;obtain⟨an,ax⟩:∃an:Nat,o.b=an:=⟨o.b.toNat,bu⟩
  have hand:dm .i64 o.b 15=o.b%16:=by rw[ax,Dp];omega
  obtain⟨t,ak⟩:∃t:UInt8,UInt8.ofNat o.c.toNat=t:=⟨_,rfl⟩
  have aB:IntKind.u8.wrap o.c=(t.toNat:Int):=by
   rw[<- ak,UInt8.toNat_ofNat'];unfold IntKind.wrap;simp only[IntKind.signed,IntKind.bits,wg];rw[bJ bN];omega
  have U:Vs.space ⟨(Q.1.core.put id (o.b%16) t).1,Q.1.procs⟩ o.a=some s'/\Vs.group ⟨(Q.1.core.put id (o.b%16) t).1,Q.1.procs⟩ o.a=ao:=by
   have au:=jc u;rw[R]at au;have:=jw (V:=⟨(Q.1.core.put id (o.b%16) t).1,Q.1.procs⟩) au;rwa[show((o.a.toNat:Nat):Int)=o.a by omega]at this
  dsimp only at hK;rw[ak,R1 U.1,U.2]at hK;refine⟨_,_,rfl,bT rfl (Dr.i av (λaO l=>⟨some ⟨c,0,none⟩,Vm.cell l 4 rfl 0,_,rfl,some ⟨v,0,none⟩,Vm.cell l 0 rfl 5,_,rfl,some ⟨A.c,0,none⟩,l.cellAt 16 rfl 0,some ⟨c,0,none⟩,Vm.cell l 4 rfl 0,_,rfl,o.b,Vm.cell l 0 rfl 2,some ⟨c,0,none⟩,Vm.cell l 4 rfl 0,_,rfl,o.c,Vm.cell l 0 rfl 3,?_⟩))⟩;rw[hand,aB];refine use (s8 (id:=id) (at_:=o.b%16) (x:=t) aw.1 l) ?_;rintro _ aD ⟨rfl,N⟩;have N:Sep E (Vm A v r (Q.1.core.put id (o.b%16) t).1 cI (bC c (c6 o v sp Q.2.1 J)::bw J 1 (bD Q.2.1.bH)::([bC n x.vs,bC p2 [Iv (o.b/16)],bC i [Pb c]]++L))) aD:=N;refine⟨_,rfl,Dr.i N (λaP D=>⟨some ⟨c,0,none⟩,Vm.cell D 4 rfl 0,_,rfl,some ⟨sp,0,none⟩,Vm.cell D 0 rfl 6,o.b/16,Vm.cell D 3 rfl 0,use (Pf (o.b/16) (I _ _ _ _ u) (Vm.op u D)) ?_⟩)⟩;rintro _ aQ ⟨⟨aR,rfl⟩,aq⟩;have ar:=Vm.sh u aq;refine⟨_,rfl,?_⟩;rw[hK];exact⟨rfl,T.trans (cq.put id (o.b%16) t),cI.set o.a.toNat (ao,some (sp,s'.cm (o.b/16))),J,I.set ((I _ _ _ _ u).cm _),by rw[dW];exact hlen,by rw[pP,R],ag,(lZ [_,_,_] ar).right⟩
def Vm.ry{c sp:Nat}{o:dx}{a:Sl}{out out':cF}{j:Nat}{x:bE}{f:bf8}(b:j<10)(he:(c6 o v sp out a).set j x=c6 o v sp out' a)(h:Sep E (Vm A v r S ps (bC c (c6 o v sp out a)::L)) w)(k:∀w',Sep E (Vm A v r S ps (bC c (c6 o v sp out' a)::L)) w'->f w'):St ⟨c,j,none⟩ x f w:=
 St.i (Vm.fh [_] h) b (λw' h'=>k w' (Vm.hE [bC c (c6 o v sp out' a)] (he▸h')))
def R3(n:Int)(w:bI):Calls P BH #[Iv n] w (cz λx w'=>x=.bool (decide (0<=n/\n<=65536))/\w'=w):=by
 apply ZP;refine h6 (λa=>⟨?_,rfl⟩) (λa=>⟨?_,rfl⟩);·exact eJ Value.bool (tB.2 ⟨λe=>⟨a,e⟩,λe=>e.2⟩)
 ·exact eJ Value.bool (dg λe=>bu).symm
def E2{c sp:Nat}{o:dx}{g:Sl}(h:Sep E (Vm A v r S ps (bC c (c6 o v sp cF.zero g)::L)) w):
  Calls P xy #[Pb c] w (cW E (.bool (decide (kQ o.b o.c))) (Vm A v r S ps (bC c (c6 o v sp (if kQ o.b o.c then cF.zero else cF.bad 1) g)::L))):=by
 apply Zu;unfold No qF qL;refine⟨_,rfl,o.b,Vm.cell h 0 rfl 2,use (R3 o.b w) ?_⟩;rintro _ i ⟨rfl,rfl⟩;refine⟨_,rfl,cv (λa=>⟨_,rfl,?_⟩) (λd=>⟨_,rfl,o.c,Vm.cell h 0 rfl 3,use (R3 o.c _) ?_⟩)⟩
 ·have hn:¬ kQ o.b o.c:=λe=>by
   have:¬ (0<=o.b/\o.b<=65536):=kg (by simpa only[ib]using a);exact this e.1
  rw[bJ hn,dg hn];exact Vm.ry (j:=7) (out:=cF.zero) (out':=cF.bad 1) bN rfl h (λw' h'=>⟨rfl,h'⟩)
 ·rintro _ w2 ⟨rfl,rfl⟩;have hb:0<=o.b/\o.b<=65536:=by simpa using d
  refine⟨_,rfl,cv (λa=>⟨_,rfl,?_⟩) (λb=>?_)⟩
  ·have hn:¬ kQ o.b o.c:=λe=>by
    have:¬ (0<=o.c/\o.c<=65536):=kg (by simpa only[ib]using a);exact this e.2
   rw[bJ hn,dg hn];exact Vm.ry (j:=7) (out:=cF.zero) (out':=cF.bad 1) bN rfl h (λw' h'=>⟨rfl,h'⟩)
  ·have f:kQ o.b o.c:=⟨hb,by simpa using b⟩
   rw[bK f,dF f];exact⟨rfl,h⟩
def R4{g:Int}{i:Nat}{pid:Int}{q:Nat×Kw.Sp}(b:0<=pid)(a:pid.toNat=i)(hp:ps[i]?=some (g,some q))(s:bV Kw.Sp):Vs.fB ⟨S,plain ps⟩ pid s=⟨S,(plain ps).set i (g,s)⟩:=by
 unfold Vs.fB;have:=(jw (V:=⟨S,plain ps⟩) (jc hp)).2;rw[show(i:Int)=pid by omega]at this;rw[this,a]
def R5{c sp:Nat}{o:dx}{a:Sl}{x:Rg}(i:dE ps)(hk:a.n=0)(n:0<=o.a){g:Int}{s:Kw.Sp}(hp:ps[o.a.toNat]?=some (g,some (sp,s)))(h:Sep E (Vm A v r S ps (bC c (c6 o v sp cF.zero a)::bw a 1 (bD [])::L)) w){F:bf8}(k:∀w',done E A v r c sp o L ps.length S (Vs.map ⟨S,plain ps⟩ o.a s x) (.tuple #[]) w'->F w'):
  Calls P xz #[Pb sp,.agg x.vs.toArray] w λf l=>∃d:Int,f=.returned (Iv d)/\NN (some ⟨c,0,none⟩) λe=>St ((e.add 7).add 0) (Iv d) (λm=>F m) l:=by
 have b:=i _ _ _ _ hp;refine use (aIv x b (Vm.op hp h)) ?_;rintro _ q ⟨rfl,h1⟩;have h2:=Vm.sh hp h1;refine⟨_,rfl,_,rfl,Vm.ry (j:=7) (out:=cF.zero) (out':=cF.bad (s.map x).2) bN rfl h2 (λw2 p=>k w2 ?_)⟩;unfold Vs.map;rw[R4 n rfl hp];exact⟨rfl,.nil _ _,_,a,i.set (b.map x),by rw[dW],pP,hk,p⟩
def aGC{c sp:Nat}{o:dx}{b:Sl}(d:dE ps)(hk:b.n=0)(i:0<=o.a){g:Int}{s:Kw.Sp}(hp:ps[o.a.toNat]?=some (g,some (sp,s)))(h:Sep E (Vm A v r S ps (bC c (c6 o v sp cF.zero b)::bw b 1 (bD [])::L)) w):
  Calls P xn #[Pb c] w (cz (done E A v r c sp o L ps.length S (if kQ o.b o.c then Vs.map ⟨S,plain ps⟩ o.a s ⟨o.c,o.c+o.b,1,0,0,true⟩else(⟨S,plain ps⟩,.bad 1)))):=by
 apply Ze;unfold Nc qF qL qQ qZ;dsimp only;refine use (E2 h) ?_;rintro _ k ⟨rfl,h1⟩;by_cases a:kQ o.b o.c
 ·rw[bK a]at h1 ⊢;obtain⟨⟨b0,b1⟩,e,f⟩:=a;refine⟨_,rfl,bT (dF ⟨⟨b0,b1⟩,e,f⟩) (Dr.i h1 (λw2 h2=>⟨_,rfl,some ⟨sp,0,none⟩,Vm.cell h2 0 rfl 6,_,rfl,o.c,Vm.cell h2 0 rfl 3,_,rfl,o.c,Vm.cell h2 0 rfl 3,_,rfl,o.b,Vm.cell h2 0 rfl 2,?_⟩))⟩;rw[cP (n:=o.c+o.b) bu bu];exact R5 (x:=⟨o.c,o.c+o.b,1,0,0,true⟩) d hk i hp h2 (λ_ j=>j)
 ·rw[bJ a]at h1 ⊢;exact⟨_,rfl,bF (dg a) ⟨rfl,.nil _ _,ps,b,d,rfl,rfl,hk,h1⟩⟩
def aEJ{c sp:Nat}{o:dx}{a:Sl}(m:dE ps)(hk:a.n=0)(B:0<=o.a){g:Int}{s:Kw.Sp}(hp:ps[o.a.toNat]?=some (g,some (sp,s)))(h:Sep E (Vm A v r S ps (bC c (c6 o v sp cF.zero a)::bw a 1 (bD [])::L)) w):
  Calls P xo #[Pb c] w (cz (done E A v r c sp o L ps.length S (if kQ o.b o.c then
   (if o.d<0\/(S.files.bW.length:Int)<=o.d\/nq S.files o.d<o.b then(⟨S,plain ps⟩,.bad 1)else Vs.map ⟨S,plain ps⟩ o.a s ⟨o.c,o.c+o.b,2,o.d,0,true⟩)else(⟨S,plain ps⟩,.bad 1)))):=by
 apply Zf;unfold Nd qF qL qQ qZ qg zH;refine use (E2 h) ?_;rintro _ G ⟨rfl,h1⟩;by_cases d:kQ o.b o.c
 ·rw[bK d]at h1 ⊢;obtain⟨⟨b0,b1⟩,y,z⟩:=d;have bad:∀ {w:bI},(o.d<0\/(S.files.bW.length:Int)<=o.d\/nq S.files o.d<o.b)->Sep E (Vm A v r S ps (bC c (c6 o v sp cF.zero a)::bw a 1 (bD [])::L)) w->∀f:bf8,(∀w',done E A v r c sp o L ps.length S (if o.d<0\/(S.files.bW.length:Int)<=o.d\/nq S.files o.d<o.b then(⟨S,plain ps⟩,cF.bad 1)else Vs.map ⟨S,plain ps⟩ o.a s ⟨o.c,o.c+o.b,2,o.d,0,true⟩) (.tuple #[]) w'->f w')->St ⟨c,7,none⟩ (Iv 1) f w:=by
   intro w C h' f D;refine Vm.ry (j:=7) (out:=cF.zero) (out':=cF.bad 1) bN rfl h' (λw' p=>D w' ?_);rw[bK C];exact⟨rfl,.nil _ _,ps,a,m,rfl,rfl,hk,p⟩
  refine⟨_,rfl,bF (by rw[dF ⟨⟨b0,b1⟩,y,z⟩];rfl) ⟨λw'=>¬ (o.d<0\/(S.files.bW.length:Int)<=o.d\/nq S.files o.d<o.b)/\Sep E (Vm A v r S ps (bC c (c6 o v sp cF.zero a)::bw a 1 (bD [])::L)) w',Dr.i h1 (λw2 h2=>⟨_,rfl,o.d,Vm.cell h2 0 rfl 4,cU (λi=>⟨_,rfl,bad (.inl i) h2 _ (λ_ q=>q)⟩) (λi=>⟨_,rfl,o.d,Vm.cell h2 0 rfl 4,_,rfl,some ⟨v,0,none⟩,Vm.cell h2 0 rfl 5,_,rfl,some ⟨A.c,0,none⟩,h2.cellAt 16 rfl 0,use (aGs h2) ?_⟩)⟩),?_⟩⟩
  ·rintro _ u ⟨rfl,b⟩;have b:Sep E (Vm A v r S ps (bC c (c6 o v sp cF.zero a)::bw a 1 (bD [])::L)) u:=b;refine⟨_,rfl,o.d,Vm.cell b 0 rfl 4,rfl,hs (λk=>⟨_,rfl,bad (.inr (.inl k)) b _ (λ_ q=>q)⟩) (λk=>⟨_,rfl,o.b,Vm.cell b 0 rfl 2,_,rfl,some ⟨v,0,none⟩,Vm.cell b 0 rfl 5,_,rfl,some ⟨A.c,0,none⟩,b.cellAt 16 rfl 0,_,rfl,o.d,Vm.cell b 0 rfl 4,use (aDh o.d b) ?_⟩)⟩;rintro _ F ⟨rfl,e⟩;have e:Sep E (Vm A v r S ps (bC c (c6 o v sp cF.zero a)::bw a 1 (bD [])::L)) F:=e;exact⟨_,rfl,o.b,Vm.cell e 0 rfl 2,rfl,fZ (λl=>⟨_,rfl,bad (.inr (.inr l)) e _ (λ_ q=>q)⟩) (λl=>⟨bu,e⟩)⟩
  rintro _ u ⟨t,b⟩;rw[bJ t];refine Dr.i b (λw2 h2=>⟨_,rfl,some ⟨sp,0,none⟩,Vm.cell h2 0 rfl 6,_,rfl,o.c,Vm.cell h2 0 rfl 3,_,rfl,o.c,Vm.cell h2 0 rfl 3,_,rfl,o.b,Vm.cell h2 0 rfl 2,_,rfl,o.d,Vm.cell h2 0 rfl 4,?_⟩);rw[cP (n:=o.c+o.b) bu bu];exact R5 (x:=⟨o.c,o.c+o.b,2,o.d,0,true⟩) m hk B hp h2 (λ_ i=>i)
 ·rw[bJ d]at h1 ⊢;exact⟨_,rfl,bT (by rw[dg d];rfl) ⟨rfl,.nil _ _,ps,a,m,rfl,rfl,hk,h1⟩⟩
def aIA{c sp:Nat}{o:dx}{d:Sl}(i:dE ps)(B:Kc.Inv S)(hk:d.n=0)(t:0<=o.a){g:Int}{s:Kw.Sp}(hp:ps[o.a.toNat]?=some (g,some (sp,s)))(h:Sep E (Vm A v r S ps (bC c (c6 o v sp cF.zero d)::bw d 1 (bD [])::L)) w):
  Calls P xp #[Pb c] w (cz (done E A v r c sp o L ps.length S (if kQ o.b o.c then
   (let q:=s.cut o.c (o.c+o.b);let V1:=Vs.fB ⟨S,plain ps⟩ o.a (some q.1);({V1 with core:=ed q.2 V1.core},⟨0,q.2.length,[]⟩))else(⟨S,plain ps⟩,.bad 1)))):=by
 have f:=i _ _ _ _ hp;apply Zg;unfold Nf qE qF qJ qL qZ;dsimp only;refine use (E2 h) ?_;rintro _ C ⟨rfl,h1⟩;by_cases e:kQ o.b o.c
 ·rw[bK e]at h1 ⊢;obtain⟨⟨b0,b1⟩,k,l⟩:=e;refine⟨_,rfl,bT (dF ⟨⟨b0,b1⟩,k,l⟩) (Dr.i h1 (λw2 h2=>⟨_,rfl,some ⟨sp,0,none⟩,Vm.cell h2 0 rfl 6,_,rfl,o.c,Vm.cell h2 0 rfl 3,_,rfl,o.c,Vm.cell h2 0 rfl 3,_,rfl,o.b,Vm.cell h2 0 rfl 2,?_⟩))⟩;rw[cP (n:=o.c+o.b) bu bu];refine use (Ph (a:=o.c) (b:=o.c+o.b) ⟨k,l⟩ bu f (Vm.op hp h2)) ?_;rintro _ D ⟨q,rfl,p,u⟩;have m:=Vm.EV hp u;have hlen:=yf f o.c (o.c+o.b);have z:∀S',Ints E (Vm A v r S' (ps.set o.a.toNat (g,some (sp,(s.cut o.c (o.c+o.b)).1))) (bw q 1 (bD (s.cut o.c (o.c+o.b)).2)::bC c (c6 o v sp cF.zero d)::bw d 1 (bD [])::L)) q (s.cut o.c (o.c+o.b)).2:=λS'=>Vm.ints p;refine⟨q,rfl,_,rfl,some ⟨v,0,none⟩,Vm.cell m 1 rfl 5,use (RI z (by show(s.ids _ _).length<_;omega) B m) ?_⟩;rintro _ F ⟨rfl,x⟩;refine⟨rfl,_,rfl,Vm.ry (j:=8) (out:=cF.zero) (out':=⟨0,((s.cut o.c (o.c+o.b)).2.length:Nat),[]⟩) bN (by rw[p];rfl) (Vm.out x).tail (λG y=>?_)⟩;try dsimp only
  rw[R4 t rfl hp];exact⟨rfl,(vz _ _).up bu,_,d,i.set (f.cut _ _),by rw[dW],pP,hk,y⟩
 ·rw[bJ e]at h1 ⊢;exact⟨_,rfl,bF (dg e) ⟨rfl,.nil _ _,ps,d,i,rfl,rfl,hk,h1⟩⟩
def aIn{c sp:Nat}{o:dx}{a:Sl}(f:dE ps)(hn:r.n=ps.length)(j:Kc.Inv S)(hk:a.n=0)(k:0<=o.a){g:Int}{s:Kw.Sp}(hp:ps[o.a.toNat]?=some (g,some (sp,s)))(h:Sep E (Vm A v r S ps (bC c (c6 o v sp cF.zero a)::bw a 1 (bD [])::L)) w):
  Calls P xm #[Pb c] w (cz (done E A v r c sp o L ps.length S (Vs.exit ⟨S,plain ps⟩ o.a,.zero))):=by
 have i:=f _ _ _ _ hp;apply Zd;unfold Nb qE qL qZ;refine Dr.i h (λl h1=>⟨_,rfl,some ⟨v,0,none⟩,Vm.cell h1 0 rfl 5,_,rfl,o.a,Vm.cell h1 0 rfl 1,?_⟩);have d:o.a=((o.a.toNat:Nat):Int):=by omega
 have b:Vs.space ⟨S,plain ps⟩ o.a=some s/\Vs.group ⟨S,plain ps⟩ o.a=g:=by
  have:=jw (V:=⟨S,plain ps⟩) (jc hp);rwa[<- d]at this
 rw[vA b.1,b.2];have e:=RJ hp i hn j h1;rw[<- d]at e;refine use e ?_;rintro _ w2 ⟨rfl,h2⟩;exact⟨rfl,rfl,(vz _ _).up bu,_,a,f.less (iQ.die hp),by rw[dW],RN,hk,h2⟩
def aGz{c sp:Nat}{o:dx}{a:Sl}(k:dE ps)(hn:r.n=ps.length)(hk:a.n=0)(p:0<=o.a){g:Int}{s:Kw.Sp}(hp:ps[o.a.toNat]?=some (g,some (sp,s)))(h:Sep E (Vm A v r S ps (bC c (c6 o v sp cF.zero a)::bw a 1 (bD [])::L)) w):
  Calls P xl #[Pb c] w (cz (done E A v r c sp o L ps.length S (if S.live o.b then(⟨S,(plain ps).set o.a.toNat (o.b,some s)⟩,.zero)else(⟨S,plain ps⟩,.bad 2)))):=by
 have n:=(cZ.1 hp).1;apply Zc;unfold Na qF qK qL qR qW qZ zH;refine Dr.i h (λt h1=>⟨_,rfl,some ⟨v,0,none⟩,Vm.cell h1 0 rfl 5,_,rfl,some ⟨A.c,0,none⟩,h1.cellAt 16 rfl 0,_,rfl,o.b,Vm.cell h1 0 rfl 2,use (yE h1) ?_⟩);rintro _ w2 ⟨rfl,h2⟩;have h2:Sep E (Vm A v r S ps (bC c (c6 o v sp cF.zero a)::bw a 1 (bD [])::L)) w2:=h2;refine⟨_,rfl,o.b,Vm.cell h2 0 rfl 2,rfl,use (kC h2 (q:=1) rfl) ?_⟩;rintro _ _ ⟨rfl,rfl⟩;have hl:S.live o.b=ds S.tree o.b:=rfl;rw[hl];refine⟨_,rfl,cv (λi=>⟨_,rfl,?_⟩) (λd=>Dr.i h2 (λu f=>⟨_,rfl,some ⟨v,0,none⟩,Vm.cell f 0 rfl 5,_,rfl,r,f.cellAt 16 rfl 1,_,rfl,o.a,Vm.cell f 0 rfl 1,_,rfl,o.b,Vm.cell f 0 rfl 2,Vm.el hn f (show o.a=((o.a.toNat:Nat):Int) by omega) hp (λb hb _=>?_)⟩))⟩
 ·have i:ds S.tree o.b=false:=by simpa using i
  rw[i,bJ bN];exact Vm.ry (j:=7) (out:=cF.zero) (out':=cF.bad 2) bN rfl h2 (λw' h'=>⟨rfl,.nil _ _,ps,a,k,rfl,rfl,hk,h'⟩)
 ·have d:ds S.tree o.b=true:=by simpa using d
  rw[d,bK rfl,cf];refine sJ rv (a':=(o.b,some (sp,s))) (f.fr 17 rfl) hb hp bN rfl (λx l=>⟨rfl,.nil _ _,ps.set o.a.toNat (o.b,some (sp,s)),a,k.set (k _ _ _ _ hp),by rw[dW],pP,hk,?_⟩);have m:=Sep.put (L:=Vm A v r S ps (bC c (c6 o v sp cF.zero a)::bw a 1 (bD [])::L)) (q:=17) (A':=bw r 2 (bQ h8 (ps.set o.a.toNat (o.b,some (sp,s))))) rfl l;have e:(ps.set o.a.toNat (o.b,some (sp,s))).map iP=ps.map iP:=by
   rw[hG];exact tg (by rw[eC,hp];rfl)
  unfold Vm;rw[e];exact m
def R6:hi P U3=some (16,2,[Iv 0,.pointer none]):=by kernel_rfl
def R7{g:Int}{sp:Nat}{s:Kw.Sp}(hn:r.n=ps.length)(hb:ps.length<=64)(h:Sep E (Vm A v r S ps (dX sp s::L)) w):
  Calls P Bw #[Pb v,Iv g,Pb sp] w
   (cz λx w'=>x=.agg #[Iv 0,Iv (ps.length:Nat),aN8]/\∃r':Sl,r'.n=(ps++[(g,some (sp,s))]).length/\Sep E (Vm A v r' S (ps++[(g,some (sp,s))]) L) w'):=by
 apply Zr;unfold Nl qK qU zI zW;refine Al.i h (λj q h1=>⟨_,rfl,r,h1.cellAt 17 rfl 1,Al.i h1 (λk w2 h2=>?_)⟩);have h2:Sep E (bC k [Iv g,Pb sp]::bC j [Iv 0,Iv 0,aN8]::Vm A v r S ps (dX sp s::L)) w2:=h2;have o:=Src.bC (n:=1) (c:=1) h2 (i:=0) rfl R6 rfl (λu hu=>by simp only[ew,tC,tI]at hu;rcases hu with rfl|rfl<;>rfl);refine bw.append (h2.fr 19 rfl) R6 rfl o bu (by rw[hn];omega) (λr' t m l=>⟨_,rfl,?_⟩);have e:bQ h8 ps++[Iv g,Pb sp]=bQ h8 (ps++[(g,some (sp,s))]):=by rw[m6,oM];rfl
 rw[e]at l;refine St.i (l.fr 19 rfl) (by show 1<2;decide) (λp f=>?_);have f:Sep E ([bC v [Pb A.c,.slice r'.p r'.n r'.c],bw r' 2 (bQ h8 (ps++[(g,some (sp,s))]))]++(([bC k [Iv g,Pb sp],bC j [Iv 0,Iv 0,aN8]]++cd A S)++(ps.map iP++dX sp s::L))) p:=f;have a:=f.perm (pU _ _ _);have em:ps.map iP++dX sp s::L=(ps++[(g,some (sp,s))]).map iP++L:=by rw[k3,dj];rfl
 rw[em]at a;have a:Sep E (bC k [Iv g,Pb sp]::bC j [Iv 0,Iv 0,aN8]::Vm A v r' S (ps++[(g,some (sp,s))]) L) p:=a;have d:r'.n=(ps++[(g,some (sp,s))]).length:=by rw[m,hn,dd];rfl
 refine⟨_,rfl,r',a.cellAt 18 rfl 1,et _ a.swap rfl (λy b=>?_)⟩;refine⟨0,b.cell 0,(ps.length:Int),?_,⟨none,0,0⟩,b.cell 2,rfl,r',d,b.tail.tail⟩;have hl:((r'.n:Nat):Int)-1=(ps.length:Int):=by rw[d,dd];simp
 have:=b.cell 1;rw[hl,cP bu bu]at this;exact this
def yJ(E:Env)(A:At)(v c sp:Nat)(o:dx)(L:ct)(S:Cs)(q:Vs×cF)(x:bE)(w:bI):Prop:=
 x=.tuple #[]/\cq 66 S q.1.core/\∃(r':Sl) (cI:PS) (a:Sl),dE cI/\r'.n=cI.length/\cI.length<=64/\plain cI=q.1.procs/\a.n=q.2.bH.length/\
  Sep E (Vm A v r' q.1.core cI (bC c (c6 o v sp q.2 a)::bw a 1 (bD q.2.bH)::L)) w
def done.toC{c sp n:Nat}{o:dx}{q:Vs×cF}{x:bE}(hn:r.n=n)(hb:n<=64)(h:done E A v r c sp o L n S q x w):yJ E A v c sp o L S q x w:=by
 obtain⟨h1,h2,cI,b,d,a,e,f,g⟩:=h;exact⟨h1,h2,r,cI,b,d,by rw[a];exact hn,by rw[a];exact hb,e,f,g⟩
def aJy{c sp:Nat}{o:dx}{d:Sl}(D:dE ps)(hn:r.n=ps.length)(hb:ps.length<=64)(aa:Kc.Inv S)(hk:d.n=0)(ab:0<=o.a){g:Int}{s:Kw.Sp}(hp:ps[o.a.toNat]?=some (g,some (sp,s)))(h:Sep E (Vm A v r S ps (bC c (c6 o v sp cF.zero d)::bw d 1 (bD [])::L)) w):
  Calls P xt #[Pb c] w (cz (yJ E A v c sp o L S (if 64<=(plain ps).length then(⟨S,plain ps⟩,.bad 3)else
  ({core:=dD (s.ids 0 65536) S,procs:=plain ps++[(g,some s)]},⟨0,((plain ps).length:Nat),[]⟩)))):=by
 have f:=D _ _ _ _ hp;rw[kc];apply Zj;unfold Ni qD qJ qK qL qO qQ qR qU qW qZ zx;refine⟨_,rfl,some ⟨v,0,none⟩,Vm.cell h 0 rfl 5,_,rfl,r,h.cellAt 16 rfl 1,hs (λM=>⟨_,rfl,?_⟩) (λN=>⟨_,rfl,some ⟨sp,0,none⟩,Vm.cell h 0 rfl 6,use (aEP f (Vm.op hp h)) ?_⟩)⟩
 ·rw[eK];exact Vm.ry (j:=7) (out:=cF.zero) (out':=cF.bad 3) bN rfl h (λw' h'=>⟨rfl,.nil _ _,r,ps,d,D,hn,hb,rfl,hk,h'⟩)
 rw[cD];rintro _ ad ⟨t,rfl,h1⟩;have h2:=Vm.bk1 hp h1;refine⟨_,rfl,use (aIu f (Vm.out h2)) ?_⟩;rintro _ w2 ⟨q,rfl,O,K⟩;have hlen:=yf f 0 65536;obtain⟨ids,C⟩:∃ids,s.ids 0 65536=ids:=⟨_,rfl⟩
 rw[C]at O K hlen ⊢;have U:Sep E (Vm A v r S ps (bw q 1 (bD ids)::dX t s::bC c (c6 o v sp cF.zero d)::bw d 1 (bD [])::L)) w2:=Vm.hE [_,_] K;refine⟨q,rfl,λx w'=>∃(k:Nat) (S':Cs),x=k/\k<=ids.length/\Kc.Inv S'/\dD (ids.drop k) S'=dD ids S/\Sep E (Vm A v r S' ps (bw q 1 (bD ids)::dX t s::bC c (c6 o v sp cF.zero d)::bw d 1 (bD [])::L)) w',λx _=>(ids.length-x).toNat,⟨0,S,rfl,fj _,aa,rfl,U⟩,?_⟩;rintro _ _ ae ⟨k,S',rfl,z,F,he,u⟩;refine cU (λN=>?_) (λM=>?_)
 ·obtain⟨x,hx⟩:∃x,ids[k]?=some x:=⟨_,dP⟩
  have X:ids.drop k=x::ids.drop (k+1):=by
   have z:=(cZ.1 hx).1;rw[lG z];rw[dO z]at hx;rw[cR hx]
  rw[X]at he;refine(Vm.ints (L:=dX t s::bC c (c6 o v sp cF.zero d)::bw d 1 (bD [])::L) O).el u k rfl hx ⟨_,rfl,some ⟨v,0,none⟩,Vm.cell u 2 rfl 5,_,rfl,some ⟨A.c,0,none⟩,u.cellAt 16 rfl 0,use (yD (id:=x) (n:=1) F u) ?_⟩;rintro _ Y ⟨rfl,B⟩;exact⟨_,rfl,⟨k+1,_,dc,bu,F.bO x 1,he,B⟩,by rw[dc];dsimp only;omega⟩
 ·have:k=ids.length:=by omega
  subst this;rw[wc]at he;have he:S'=dD ids S:=he;subst he;have B:=(Vm.out u).tail;refine Dr.i B (λY l=>⟨_,rfl,some ⟨v,0,none⟩,Vm.cell l 1 rfl 5,_,rfl,some ⟨v,0,none⟩,Vm.cell l 1 rfl 5,_,rfl,r,l.cellAt 16 rfl 1,_,rfl,o.a,Vm.cell l 1 rfl 1,Vm.el hn l (show o.a=((o.a.toNat:Nat):Int) by omega) hp (λb _ W=>⟨g,by rw[cf];exact W 0 _ rfl,use (R7 (g:=g) hn hb l) ?_⟩)⟩);rintro _ Z ⟨rfl,r',Q,V⟩;have y:=Vm.fh [_] (V:Sep E (Vm A v r' (dD ids S) _ ([bC c (c6 o v sp cF.zero d)]++(bw d 1 (bD [])::L))) Z);refine⟨_,_,⟨none,0,0⟩,rfl,_,rfl,?_⟩;refine St.i y (by show 7<10;decide) (λaf y=>St.i y (by show 8<10;decide) (λag y=>St.i y (by show 9<10;decide) (λR G=>?_)));have H:=Vm.hE [bC c (c6 o v sp ⟨0,(ps.length:Nat),[]⟩ ⟨none,0,0⟩)] G;have I:=(bw.none_ (m:=1) (Vm.fh [_,_] (H:Sep E (Vm A v r' (dD ids S) _ ([bC c (c6 o v sp ⟨0,(ps.length:Nat),[]⟩ ⟨none,0,0⟩),bw d 1 (bD [])]++L)) R)))
  have J:Sep E (Vm A v r' (dD ids S) (ps++[(g,some (t,s))]) (bC c (c6 o v sp ⟨0,(ps.length:Nat),[]⟩ ⟨none,0,0⟩)::bw ⟨none,0,0⟩ 1 (bD [])::L)) R:=Vm.hE [_,_] (I.ro 3 [1,0] rfl);refine⟨rfl,(Ry _ _).up bu,r',ps++[(g,some (t,s))],⟨none,0,0⟩,?_,Q,by rw[dd,l3];omega,?_,rfl,J⟩
  ·intro i T a s' p;rcases hN i ps.length with e|e
   ·rw[eM e]at p;exact D i T a s' p
   ·rw[fM e]at p;have:i-ps.length=0:=by
     have:=(cZ.1 p).1;simp at this;omega
    rw[this]at p;cases p;exact f
  ·unfold plain;rw[k3];rfl
def e6(o:dx):bA bE:=[Iv o.kind,Iv o.a,Iv o.b,Iv o.c,Iv o.d]
def pQ(E:Env)(A:At)(v:Nat)(L:ct)(S:Cs)(q:Vs×cF)(x:bE)(w:bI):Prop:=
 x=.agg #[Iv q.2.err,Iv q.2.n,aN8]/\q.2.bH= []/\cq 66 S q.1.core/\∃(gs us r':Sl) (cI:PS),dE cI/\r'.n=cI.length/\cI.length<=64/\plain cI=q.1.procs/\Sep E (Vm {A with gs:=gs,us:=us} v r' q.1.core cI L) w
def jY{g b:Nat}{o:dx}{V':Vs}{out:cF}{gs us r':Sl}{cI:PS}{F:bf9}(he:out.bH= [])(hr:cq 66 S V'.core)(f:dE cI)(hn:r'.n=cI.length)(hb:cI.length<=64)(hp:plain cI=V'.procs)(h:Sep E (bC b [Iv 0,Iv 0,aN8]::bC g (e6 o)::Vm {A with gs:=gs,us:=us} v r' V'.core cI L) w)(k:∀x w',pQ E A v L S (V',out) x w'->F x w'):
  kN [Iv out.err,Iv out.n,aN8] ⟨b,0,none⟩ (λa=>∃c:Int,a.cell? ((⟨b,0,none⟩:Addr).add 0)=some (Iv c)/\∃d:Int,a.cell? ((⟨b,0,none⟩:Addr).add 1)=some (Iv d)/\∃e:Sl,a.cell? ((⟨b,0,none⟩:Addr).add 2)=some (Sv e)/\F (.agg #[Iv c,Iv d,Sv e]) a) w:=
 et _ h rfl (λi h1=>⟨_,h1.cell 0,_,h1.cell 1,⟨none,0,0⟩,h1.cell 2,k _ _ ⟨rfl,he,hr,gs,us,r',cI,f,hn,hb,hp,h1.tail.tail⟩⟩)
def aGI{o:dx}(g:dE ps)(hn:r.n=ps.length)(hb:ps.length<=64)(j:Kc.Inv S)(h:Sep E (Vm A v r S ps L) w):
  Calls P xf #[Pb v,.agg (e6 o).toArray] w (cz (pQ E A v L S (let q:=S.cn o.a;(⟨q.1,plain ps⟩,⟨q.2.2,max q.2.1 0,[]⟩)))):=by
 apply Y6;unfold M4 qL qU qZ qj zI zW;dsimp only;refine Al.i h (λb k h1=>Al.i h1 (λc w2 h2=>Dr.i h2 (λi a=>?_)));have a:Sep E (bC c [Iv 0,Iv 0,aN8]::bC b (e6 o)::Vm A v r S ps L) i:=a;refine⟨_,rfl,some ⟨A.c,0,none⟩,a.cellAt 18 rfl 0,o.a,a.cellAt 1 rfl 1,use (aDe (p:=o.a) j (Vm.hE [_,_] a)) ?_⟩;rintro _ l ⟨rfl,gs,us,d⟩;have e:=Vm.fh (A:={A with gs:=gs,us:=us}) [bC c [Iv 0,Iv 0,aN8],bC b (e6 o)] d;have em:eE (S.cn o.a).2.1 0=max (S.cn o.a).2.1 0:=by unfold eE;split<;>omega
 refine⟨_,_,rfl,?_⟩;rw[em];exact jY (V':=⟨(S.cn o.a).1,plain ps⟩) (out:=⟨(S.cn o.a).2.2,max (S.cn o.a).2.1 0,[]⟩) rfl ((cq.cn o.a).up bu) g hn hb rfl e (λ_ _ f=>f)
def aGJ{o:dx}(i:dE ps)(hn:r.n=ps.length)(hb:ps.length<=64)(k:Kc.Inv S)(h:Sep E (Vm A v r S ps L) w):
  Calls P xh #[Pb v,.agg (e6 o).toArray] w (cz (pQ E A v L S (let q:=S.cB o.a o.b o.c;(⟨q.1,plain ps⟩,.bad q.2)))):=by
 apply Y8;unfold M6 qL qQ qU qZ zI zW;refine Al.i h (λb l h1=>Al.i h1 (λc w2 h2=>Dr.i h2 (λj a=>?_)));have a:Sep E (bC c [Iv 0,Iv 0,aN8]::bC b (e6 o)::Vm A v r S ps L) j:=a;refine⟨_,rfl,some ⟨A.c,0,none⟩,a.cellAt 18 rfl 0,o.a,a.cellAt 1 rfl 1,o.b,a.cellAt 1 rfl 2,o.c,a.cellAt 1 rfl 3,use (aGt (g:=o.a) (what:=o.b) (n:=o.c) k (Vm.hE [_,_] a)) ?_⟩;rintro _ m ⟨rfl,d⟩;have e:=Vm.fh [bC c [Iv 0,Iv 0,aN8],bC b (e6 o)] d;exact⟨_,rfl,jY (V':=⟨(S.cB o.a o.b o.c).1,plain ps⟩) (out:=.bad (S.cB o.a o.b o.c).2) (gs:=A.gs) (us:=A.us) rfl ((cq.cB o.a o.b o.c).up bu) i hn hb rfl e (λ_ _ f=>f)⟩
def aJH{o:dx}(g:dE ps)(hn:r.n=ps.length)(hb:ps.length<=64)(j:Kc.Inv S)(h:Sep E (Vm A v r S ps L) w):
  Calls P xj #[Pb v,.agg (e6 o).toArray] w (cz (pQ E A v L S (let q:=S.dt o.a;(⟨q.1,plain ps⟩,⟨0,q.2,[]⟩)))):=by
 apply Za;unfold M8 qL qQ qU qZ zI zW;refine Al.i h (λb k h1=>Al.i h1 (λc w2 h2=>Dr.i h2 (λi a=>?_)));have a:Sep E (bC c [Iv 0,Iv 0,aN8]::bC b (e6 o)::Vm A v r S ps L) i:=a;refine⟨_,rfl,some ⟨A.c,0,none⟩,a.cellAt 18 rfl 0,o.a,a.cellAt 1 rfl 1,use (aJm (t:=o.a) j (Vm.hE [_,_] a)) ?_⟩;rintro _ l ⟨rfl,d⟩;have e:=Vm.fh [bC c [Iv 0,Iv 0,aN8],bC b (e6 o)] d;exact⟨_,rfl,jY (V':=⟨(S.dt o.a).1,plain ps⟩) (out:=⟨0,(S.dt o.a).2,[]⟩) (gs:=A.gs) (us:=A.us) rfl ((cq.dt o.a).up bu) g hn hb rfl e (λ_ _ f=>f)⟩
def aEU{o:dx}(g:dE ps)(hn:r.n=ps.length)(hb:ps.length<=64)(j:Kc.Inv S)(h:Sep E (Vm A v r S ps L) w):
  Calls P xk #[Pb v,.agg (e6 o).toArray] w (cz (pQ E A v L S (let q:=S.shrink o.a o.b;(⟨q.1,plain ps⟩,⟨0,q.2,[]⟩)))):=by
 apply Zb;unfold M9 qL qQ qU qZ zI zW;refine Al.i h (λb k h1=>Al.i h1 (λc w2 h2=>Dr.i h2 (λi a=>?_)));have a:Sep E (bC c [Iv 0,Iv 0,aN8]::bC b (e6 o)::Vm A v r S ps L) i:=a;refine⟨_,rfl,some ⟨A.c,0,none⟩,a.cellAt 18 rfl 0,o.a,a.cellAt 1 rfl 1,o.b,a.cellAt 1 rfl 2,use (aGw (t:=o.a) (n:=o.b) j (Vm.hE [_,_] a)) ?_⟩;rintro _ l ⟨rfl,d⟩;have e:=Vm.fh [bC c [Iv 0,Iv 0,aN8],bC b (e6 o)] d;exact⟨_,rfl,jY (V':=⟨(S.shrink o.a o.b).1,plain ps⟩) (out:=⟨0,(S.shrink o.a o.b).2,[]⟩) (gs:=A.gs) (us:=A.us) rfl ((cq.shrink o.a o.b).up bu) g hn hb rfl e (λ_ _ f=>f)⟩
def aGK{o:dx}(n:dE ps)(hn:r.n=ps.length)(hb:ps.length<=64)(h:Sep E (Vm A v r S ps L) w):
  Calls P xi #[Pb v,.agg (e6 o).toArray] w (cz (pQ E A v L S (if S.live o.a=false then(⟨S,plain ps⟩,.bad 2)else if 64<=(plain ps).length then(⟨S,plain ps⟩,.bad 3)else
  (⟨S,plain ps++[(o.a,some Sp.new)]⟩,⟨0,((plain ps).length:Nat),[]⟩)))):=by
 have hl:S.live o.a=ds S.tree o.a:=rfl;rw[kc,hl];apply Y9;unfold M7 qF qK qL qR qU qZ zH zI zW zx;refine Al.i h (λl I h1=>Al.i h1 (λm w2 h2=>Dr.i h2 (λC f=>?_)));have f:Sep E (bC m [Iv 0,Iv 0,aN8]::bC l (e6 o)::Vm A v r S ps L) C:=f;refine⟨_,rfl,some ⟨A.c,0,none⟩,f.cellAt 18 rfl 0,o.a,f.cellAt 1 rfl 1,use (yE (Vm.hE [_,_] f)) ?_⟩;rintro _ D ⟨rfl,y⟩;have c:=Vm.fh [bC m [Iv 0,Iv 0,aN8],bC l (e6 o)] y;have c:Sep E (bC m [Iv 0,Iv 0,aN8]::bC l (e6 o)::Vm A v r S ps L) D:=c;refine⟨_,rfl,o.a,c.cellAt 1 rfl 1,rfl,use (kC c (q:=3) rfl) ?_⟩;rintro _ _ ⟨rfl,rfl⟩;refine⟨_,rfl,cv (λk=>?_) (λb=>⟨_,rfl,r,c.cellAt 18 rfl 1,hs (λG=>?_) (λH=>Dr.i c (λJ s=>⟨o.a,s.cellAt 1 rfl 1,use (aIw s) ?_⟩))⟩)⟩
 ·have k:ds S.tree o.a=false:=by simpa using k
  rw[bK k];exact jY (V':=⟨S,plain ps⟩) (out:=.bad 2) (gs:=A.gs) (us:=A.us) rfl (.nil _ _) n hn hb rfl c (λ_ _ j=>j)
 ·have b:ds S.tree o.a=true:=by simpa using b
  rw[bJ (by rw[b];decide),eK];exact jY (V':=⟨S,plain ps⟩) (out:=.bad 3) (gs:=A.gs) (us:=A.us) rfl (.nil _ _) n hn hb rfl c (λ_ _ j=>j)
 ·have b:ds S.tree o.a=true:=by simpa using b
  rw[bJ (by rw[b];decide),cD];rintro _ F ⟨sp,rfl,t⟩;have z:Sep E (Vm A v r S ps (dX sp Sp.new::([bC m [Iv 0,Iv 0,aN8],bC l (e6 o)]++L))) F:=Vm.hE [_,_,_] t;refine⟨_,rfl,o.a,t.cellAt 2 rfl 1,rfl,use (R7 (g:=o.a) hn hb z) ?_⟩;rintro _ K ⟨rfl,r',u,B⟩;have p:=Vm.fh [bC m [Iv 0,Iv 0,aN8],bC l (e6 o)] B;refine⟨_,_,⟨none,0,0⟩,rfl,jY (V':=⟨S,plain ps++[(o.a,some Sp.new)]⟩) (out:=⟨0,(ps.length:Nat),[]⟩) (gs:=A.gs) (us:=A.us) (cI:=ps++[(o.a,some (sp,Sp.new))]) rfl (.nil _ _) ?_ u (by rw[dd,l3];omega) ?_ p (λ_ _ j=>j)⟩
  ·intro i x a s' d;rcases hN i ps.length with e|e
   ·rw[eM e]at d;exact n i x a s' d
   ·rw[fM e]at d;have:i-ps.length=0:=by
     have:=(cZ.1 d).1;simp at this;omega
    rw[this]at d;cases d;exact fC.new
  ·unfold plain;rw[k3];rfl
def aH8(g:Int):Vs.busy ⟨S,plain ps⟩ g=((g !=0&&S.live g)&&(plain ps).any λp=>p.2.isSome&&p.1==g):=rfl
def aET{o:dx}(H:dE ps)(hn:r.n=ps.length)(hb:ps.length<=64)(T:Kc.Inv S)(h:Sep E (Vm A v r S ps L) w):
  Calls P xg #[Pb v,.agg (e6 o).toArray] w (cz (pQ E A v L S (if Vs.busy ⟨S,plain ps⟩ o.a then(⟨S,plain ps⟩,.bad 4)else(let q:=S.remove o.a;(⟨q.1,plain ps⟩,.bad q.2))))):=by
 rw[aH8];apply Y7;unfold M5 qF qK qL qO qQ qR qU qW qZ qh zH zI zW zq;dsimp only;refine Al.i h (λi U h1=>Al.i h1 (λj w2 h2=>?_));have h2:Sep E (bC j [Iv 0,Iv 0,aN8]::bC i (e6 o)::Vm A v r S ps L) w2:=h2;have hl:S.live o.a=ds S.tree o.a:=rfl;refine⟨λb w'=>b=(o.a !=0&&S.live o.a)/\Sep E (bC j [Iv 0,Iv 0,aN8]::bC i (e6 o)::Vm A v r S ps L) w',Dr.i h2 (λN d=>⟨o.a,d.cellAt 1 rfl 1,cv (λe=>⟨_,rfl,some ⟨A.c,0,none⟩,d.cellAt 18 rfl 0,o.a,d.cellAt 1 rfl 1,use (yE (Vm.hE [_,_] d)) ?_⟩) (λe=>⟨by rw[e];rfl,d⟩)⟩),?_⟩
 ·rintro _ I ⟨rfl,n⟩;have a:=Vm.fh [bC j [Iv 0,Iv 0,aN8],bC i (e6 o)] n;have a:Sep E (bC j [Iv 0,Iv 0,aN8]::bC i (e6 o)::Vm A v r S ps L) I:=a;refine⟨_,rfl,o.a,a.cellAt 1 rfl 1,rfl,use (kC a (q:=3) rfl) ?_⟩;rintro _ _ ⟨rfl,rfl⟩;exact⟨_,rfl,by rw[e,hl];rfl,a⟩
 rintro _ _ N ⟨rfl,d⟩;generalize (o.a !=0&&S.live o.a)=l;refine⟨_,rfl,r,d.cellAt 18 rfl 1,λx w'=>∃k:Nat,x=k/\k<=ps.length/\(l&&((plain ps).take k).any λp=>p.2.isSome&&p.1==o.a)=false/\Sep E (bC j [Iv 0,Iv 0,aN8]::bC i (e6 o)::Vm A v r S ps L) w',λx _=>(ps.length-x).toNat,⟨0,rfl,fj _,by simp,d⟩,?_⟩;rintro _ _ I ⟨k,rfl,hk,m,n⟩;refine cU (λR=>?_) (λQ=>?_)
 ·obtain⟨p,hp⟩:∃p,ps[k]?=some p:=⟨_,dP⟩
  obtain⟨g,f⟩:=p;have B:=jc hp;have z:∀b:Bool,(l&&((f.map Prod.snd).isSome&&g==o.a))=b->(l&&((plain ps).take (k+1)).any λp=>p.2.isSome&&p.1==o.a)=b:=by
   intro b hb;rw[fL B,Gh,Bool.and_or_distrib_left,m,Gl];show(l&&(((f.map Prod.snd).isSome&&g==o.a)||false))=b;rw[o7];exact hb
  have y:((ps.length:Int)-((k+1:Nat):Int)).toNat<((ps.length:Int)-(k:Int)).toNat:=by omega
  have G:=Vm.hE [_,_] n;refine Vm.el hn G rfl hp (λb _ F=>⟨g,by rw[cf];exact F 0 _ rfl,f.map (λq=>(⟨q.1,0,none⟩:Addr)),by rw[cf];exact F 1 _ rfl,Al.i n (λpp O a=>et _ a rfl (λD c=>?_))⟩);have c:Sep E (bC pp (h8 (g,f))::bC j [Iv 0,Iv 0,aN8]::bC i (e6 o)::Vm A v r S ps L) D:=c;have next:(l&&((f.map Prod.snd).isSome&&g==o.a))=false->(∃k':Nat,i64.wrap ((k:Int)+1)=k'/\k'<=ps.length/\(l&&((plain ps).take k').any λp=>p.2.isSome&&p.1==o.a)=false/\Sep E (bC j [Iv 0,Iv 0,aN8]::bC i (e6 o)::Vm A v r S ps L) D)/\((ps.length:Int)-i64.wrap ((k:Int)+1)).toNat<((ps.length:Int)-(k:Int)).toNat:=
   λM=>⟨⟨k+1,dc,bu,z _ M,c.tail⟩,by rw[dc];exact y⟩
  have J:(!(f.map λq=>(⟨q.1,0,none⟩:Addr)).isNone)=(f.map Prod.snd).isSome:=by cases f<;>rfl
  refine cv (λs=>⟨_,c.cell 1,?_⟩) (λs=>next (by rw[s];rfl));rw[J];refine cv (λt=>⟨g,c.cell 0,o.a,c.cellAt 2 rfl 1,cv (λheq=>?_) (λe=>next (by rw[e];simp))⟩) (λt=>next (by rw[t];simp));have u:(l&&(plain ps).any λp=>p.2.isSome&&p.1==o.a)=true:=by
   rw[s,l5];exact tA.2 ⟨_,eI B,by rw[dy];exact⟨t,heq⟩⟩
  rw[bK u];exact jY (V':=⟨S,plain ps⟩) (out:=.bad 4) (gs:=A.gs) (us:=A.us) rfl (.nil _ _) H hn hb rfl c.tail (λ_ _ C=>C)
 ·have:k=ps.length:=by omega
  subst this;rw[iw (by rw[kc];exact ek _)]at m;rw[bJ (by rw[m];decide)];refine Dr.i n (λO a=>⟨_,rfl,some ⟨A.c,0,none⟩,a.cellAt 18 rfl 0,o.a,a.cellAt 1 rfl 1,use (aEx (g:=o.a) T (Vm.hE [_,_] a)) ?_⟩);rintro _ D ⟨rfl,c⟩;have K:=Vm.fh [bC j [Iv 0,Iv 0,aN8],bC i (e6 o)] c;exact⟨_,rfl,jY (V':=⟨(S.remove o.a).1,plain ps⟩) (out:=.bad (S.remove o.a).2) (gs:=A.gs) (us:=A.us) rfl ((cq.remove o.a).up bu) H hn hb rfl K (λ_ _ C=>C)⟩
end Go.Mp
namespace Go.Sp
open Go Go.Vc
variable{P:cN}
def E3(P:cN)(t:cc):Bool:=match P.underlying t with
 |some (.func _ _ _)=>true
 |_=>false
def yK{t:cc}(e:E3 P t=true)(g:bg5)(w:bI):(Op.equal t (.func (.func g) #[] #[]) .nilFunc).run P w=.ok false w/\(Op.equal t .nilFunc .nilFunc).run P w=.ok true w:=by
 unfold E3 at e;split at e
 ·next a b c hu=>
  have h1:∀d,(Op.equalIn (d+1) t (.func (.func g) #[] #[]) .nilFunc).run P w=.ok false w:=λd=>by simp[Op.equalIn,run_underlying hu]
  have h2:∀d,(Op.equalIn (d+1) t .nilFunc .nilFunc).run P w=.ok true w:=λd=>by simp[Op.equalIn,run_underlying hu]
  exact⟨rN (h1 9999),rN (h2 9999)⟩
 ·cases e
def kl.fn{t:cc}(a:E3 P t=true)(o:bV bg5):kl P .neq t ((o.map λg=>Value.func (.func g) #[] #[]).getD .nilFunc) .nilFunc o.isSome/\kl P .eql t ((o.map λg=>Value.func (.func g) #[] #[]).getD .nilFunc) .nilFunc (!o.isSome):=by
 cases o with
 |none=>
  refine⟨⟨λb c w=>?_,λw=>?_⟩,⟨λb c w=>?_,λw=>?_⟩⟩;·simp[eqGuard]
  ·have:=(yK a 0 w).2;simp[binOp,this]
  ·simp[eqGuard]
  ·have:=(yK a 0 w).2;simp[binOp,this]
 |some g=>
  refine⟨⟨λb c w=>?_,λw=>?_⟩,⟨λb c w=>?_,λw=>?_⟩⟩;·simp[eqGuard]
  ·have:=(yK a g w).1;simp[binOp,this]
  ·simp[eqGuard]
  ·have:=(yK a g w).1;simp[binOp,this]
end Go.Sp
namespace Go.Mp
open Go Go.Vc Go.Sp Go.Proofs Go.Kc Go.Kw Go.Kt
variable{E:Env}{L:ct}{w W:bI}
def pR(k:Int):bV bg5:=if k=0 then some xf else if k=1 then some xg else if k=2 then some xh else if k=3 then some xi else if k=12 then some xj else if k=13 then some xk else none
def pS(k:Int):bV bg5:=if k=4 then some xl else if k=5 then some xn else if k=6 then some xo else if k=7 then some xp else if k=8 then some xq else if k=9 then some xr else if k=10 then some xt else if k=11 then some xm else none
def rz(f:Int->bV bg5)(k:Int):bV bE:=(f k).map λg=>.func (.func g) #[] #[]
def hc:h5 P Be (Value.int .i64):=h5.int cS
def aDn(h:Sep E L w):Calls P H5 #[] w (cz λx w'=>∃m:Nat,x=.map (some m)/\Sep E (cE m (Value.int .i64) (rz pR)::L) w'):=by
 apply Y2;refine cE.new (κ:=Int) (enc:=Value.int .i64) h (λm n h1=>?_);refine mapUpdate.i h1 hc (z:=.nilFunc) cS 0 _ (λw2 h2=>?_);refine mapUpdate.i h2 hc (z:=.nilFunc) cS 1 _ (λo f=>?_);refine mapUpdate.i f hc (z:=.nilFunc) cS 2 _ (λp g=>?_);refine mapUpdate.i g hc (z:=.nilFunc) cS 3 _ (λq i=>?_);refine mapUpdate.i i hc (z:=.nilFunc) cS 12 _ (λr j=>?_);refine mapUpdate.i j hc (z:=.nilFunc) cS 13 _ (λs l=>⟨m,rfl,?_⟩);have e:rz pR=cL (cL (cL (cL (cL (cL (λ_=>none) 0 (some (.func (.func xf) #[] #[]))) 1 (some (.func (.func xg) #[] #[]))) 2 (some (.func (.func xh) #[] #[]))) 3 (some (.func (.func xi) #[] #[]))) 12 (some (.func (.func xj) #[] #[]))) 13 (some (.func (.func xk) #[] #[])):=by
  funext k;unfold rz pR cL;by_cases a0:k=0;·subst a0;rfl
  by_cases c:k=1;·subst c;rfl
  by_cases d:k=2;·subst d;rfl
  by_cases a3:k=3;·subst a3;rfl
  by_cases a:k=12;·subst a;rfl
  by_cases b:k=13;·subst b;rfl
  simp only[bJ a0,bJ c,bJ d,bJ a3,bJ a,bJ b];rfl
 rw[e];exact l
def aIk(h:Sep E L w):Calls P H6 #[] w (cz λx w'=>∃m:Nat,x=.map (some m)/\Sep E (cE m (Value.int .i64) (rz pS)::L) w'):=by
 apply Y3;refine cE.new (κ:=Int) (enc:=Value.int .i64) h (λm p h1=>?_);refine mapUpdate.i h1 hc (z:=.nilFunc) cS 4 _ (λw2 h2=>?_);refine mapUpdate.i h2 hc (z:=.nilFunc) cS 11 _ (λq f=>?_);refine mapUpdate.i f hc (z:=.nilFunc) cS 5 _ (λr g=>?_);refine mapUpdate.i g hc (z:=.nilFunc) cS 6 _ (λs i=>?_);refine mapUpdate.i i hc (z:=.nilFunc) cS 7 _ (λt j=>?_);refine mapUpdate.i j hc (z:=.nilFunc) cS 8 _ (λu l=>?_);refine mapUpdate.i l hc (z:=.nilFunc) cS 9 _ (λv n=>?_);refine mapUpdate.i n hc (z:=.nilFunc) cS 10 _ (λy o=>⟨m,rfl,?_⟩);have e:rz pS=cL (cL (cL (cL (cL (cL (cL (cL (λ_=>none) 4 (some (.func (.func xl) #[] #[]))) 11 (some (.func (.func xm) #[] #[]))) 5 (some (.func (.func xn) #[] #[]))) 6 (some (.func (.func xo) #[] #[]))) 7 (some (.func (.func xp) #[] #[]))) 8 (some (.func (.func xq) #[] #[]))) 9 (some (.func (.func xr) #[] #[]))) 10 (some (.func (.func xt) #[] #[])):=by
  funext k;unfold rz pS cL;by_cases a0:k=4;·subst a0;rfl
  by_cases a:k=5;·subst a;rfl
  by_cases b:k=6;·subst b;rfl
  by_cases a3:k=7;·subst a3;rfl
  by_cases a4:k=8;·subst a4;rfl
  by_cases a5:k=9;·subst a5;rfl
  by_cases c:k=10;·subst c;rfl
  by_cases d:k=11;·subst d;rfl
  simp only[bJ a0,bJ a,bJ b,bJ a3,bJ a4,bJ a5,bJ c,bJ d];rfl
 rw[e];exact o
end Go.Mp
namespace Go.Kw
open Go Go.Kc Go.Kt
def R8{V:Vs}{o:dx}(h:(o.kind<0\/13<o.kind)/\True):V.act o=(V,.bad 1):=by
 have h:=h.1;unfold Vs.act;rw[cD,cD,cD,cD,cD,cD,bK h]
def yL{V:Vs}{o:dx}(h:4<=o.kind/\o.kind<=11):V.act o=match V.space o.a with
  |none=>(V,.bad 2)
  |some s=>V.call s o:=by
 unfold Vs.act;rw[cD,cD,cD,cD,cD,cD,cD];rfl
end Go.Kw
namespace Go.Mp
open Go Go.Vc Go.Sp Go.Proofs Go.Kc Go.Kw Go.Kt
variable{E:Env}{L:ct}{w W:bI}{A:At}{S:Cs}{v:Nat}{r:Sl}{ps:PS}
def aIs{o:dx}{g:bg5}(a:pR o.kind=some g)(b:dE ps)(hn:r.n=ps.length)(hb:ps.length<=64)(c:Kc.Inv S)(h:Sep E (Vm A v r S ps L) w):
  kO P g=true/\Calls P g #[Pb v,.agg (e6 o).toArray] w (cz (pQ E A v L S (Vs.act ⟨S,plain ps⟩ o))):=by
 unfold pR at a;unfold Vs.act;split at a;·next e=>cases a;rw[bK e];exact⟨by kernel_rfl,aGI b hn hb c h⟩
 next e0=>
 rw[bJ e0];split at a
 ·next e=>
  cases a;rw[bK e];exact⟨by kernel_rfl,aET b hn hb c h⟩
 next f=>
 rw[bJ f];split at a;·next e=>cases a;rw[bK e];exact⟨by kernel_rfl,aGJ b hn hb c h⟩
 next i=>
 rw[bJ i];split at a;·next e=>cases a;rw[bK e];exact⟨by kernel_rfl,aGK b hn hb h⟩
 next j=>
 rw[bJ j];split at a;·next e=>cases a;rw[bK e];exact⟨by kernel_rfl,aJH b hn hb c h⟩
 next d=>
 rw[bJ d];split at a;·next e=>cases a;rw[bK e];exact⟨by kernel_rfl,aEU b hn hb c h⟩
 ·cases a
def aIj{c sp:Nat}{o:dx}{i:bg5}(a:pS o.kind=some i)(d:dE ps)(hn:r.n=ps.length)(hb:ps.length<=64)(j:Kc.Inv S)(f:S.bt.next+66<=16777216)(b:0<=o.a){g:Int}{s:Kw.Sp}(hp:ps[o.a.toNat]?=some (g,some (sp,s)))(h:Sep E (Vm A v r S ps (bC c (c6 o v sp cF.zero ⟨none,0,0⟩)::bw ⟨none,0,0⟩ 1 (bD [])::L)) w):
  kO P i=true/\Calls P i #[Pb c] w (cz (yJ E A v c sp o L S (Vs.call ⟨S,plain ps⟩ s o))):=by
 have l:Vs.group ⟨S,plain ps⟩ o.a=g:=by
  have:=(jw (V:=⟨S,plain ps⟩) (jc hp)).2;rwa[show((o.a.toNat:Nat):Int)=o.a by omega]at this
 have up:∀ {q:Vs×cF} {F:bg5},Calls P F #[Pb c] w (cz (done E A v r c sp o L ps.length S q))->Calls P F #[Pb c] w (cz (yJ E A v c sp o L S q)):=by
  intro q F z;refine z.mono ?_;rintro e w' ⟨x,rfl,B⟩;exact⟨x,rfl,B.toC hn hb⟩
 unfold pS at a;unfold Vs.call;dsimp only;split at a;·next e=>cases a;rw[bK e];exact⟨by kernel_rfl,up (aGz d hn rfl b hp h)⟩
 next m=>
 rw[bJ m];split at a;·next e=>cases a;rw[bK e];exact⟨by kernel_rfl,up (aGC d rfl b hp h)⟩
 next n=>
 rw[bJ n];split at a;·next e=>cases a;rw[bK e];exact⟨by kernel_rfl,up (aEJ d rfl b hp h)⟩
 next p=>
 rw[bJ p];split at a;·next e=>cases a;rw[bK e];exact⟨by kernel_rfl,up (aIA d j rfl b hp h)⟩
 next t=>
 rw[bJ t];split at a;·next e=>cases a;rw[bK e];exact⟨by kernel_rfl,up (aJD d hn hb j f rfl b hp h)⟩
 next u=>
 rw[bJ u];split at a;·next e=>cases a;rw[bK e];exact⟨by kernel_rfl,up (aIy d hn hb j f rfl b hp h)⟩
 next y=>
 rw[bJ y];split at a;·next e=>cases a;rw[bK e,l];exact⟨by kernel_rfl,aJy d hn hb j rfl b hp h⟩
 next k=>
 rw[bJ k];split at a;·next e=>cases a;exact⟨by kernel_rfl,up (aIn d hn j rfl b hp h)⟩
 ·cases a
def R9(E:Env)(A:At)(v:Nat)(L:ct)(S:Cs)(q:Vs×cF)(x:bE)(w:bI):Prop:=
 cq 66 S q.1.core/\∃(gs us r' a:Sl) (cI:PS),x=.agg #[Iv q.2.err,Iv q.2.n,Sv a]/\dE cI/\r'.n=cI.length/\cI.length<=64/\plain cI=q.1.procs/\a.n=q.2.bH.length/\
  Sep E (Vm {A with gs:=gs,us:=us} v r' q.1.core cI (bw a 1 (bD q.2.bH)::L)) w
def aGT{k:Int}:(∃g,pR k=some g)\/(pR k=none/\((∃g,pS k=some g/\4<=k/\k<=11)\/(pS k=none/\(k<0\/13<k)))):=by
 by_cases hk:k<0\/13<k
 ·refine .inr ⟨?_,.inr ⟨?_,hk⟩⟩;·unfold pR;rw[cD,cD,cD,cD,cD,cD]
  ·unfold pS;rw[cD,cD,cD,cD,cD,cD,cD,cD]
 ·have:k=0\/k=1\/k=2\/k=3\/k=4\/k=5\/k=6\/k=7\/k=8\/k=9\/k=10\/k=11\/k=12\/k=13:=by omega
  rcases this with rfl|rfl|rfl|rfl|rfl|rfl|rfl|rfl|rfl|rfl|rfl|rfl|rfl|rfl;all_goals first|exact .inl ⟨_,rfl⟩|exact .inr ⟨rfl,.inl ⟨_,rfl,bN,bN⟩⟩
def vI{m i:Nat}{f:Int->bV bg5}{t:cc}(h:Sep E L w)(a:L[i]?=some (cE m (Value.int .i64) (rz f)))(b:mQ P t=some (Be,.nilFunc))(k:Int):gp P t (.map (some m)) (Iv k) false w (((f k).map λg=>Value.func (.func g) #[] #[]).getD .nilFunc):=
 gp.i false i h a hc b k
def Sa(o:dx)(W:dE ps)(hn:r.n=ps.length)(hb:ps.length<=64)(aw:Kc.Inv S)(aj:S.bt.next+66<=16777216)(h:Sep E (Vm A v r S ps L) w):
  Calls P n2 #[Pb v,.agg (e6 o).toArray] w (cz (R9 E A v L S (Vs.act ⟨S,plain ps⟩ o))):=by
 obtain⟨Q,l⟩:∃Q,Vs.act ⟨S,plain ps⟩ o=Q:=⟨_,rfl⟩
 rw[l];apply YX;unfold MW qL qR qU zH zI zL zW zZ;refine Al.i h (λt ap h1=>Al.i h1 (λf w2 h2=>Dr.i h2 (λaq K=>?_)));have K:Sep E (bC f [Iv 0,Iv 0,aN8]::bC t (e6 o)::Vm A v r S ps L) aq:=K;refine⟨o.kind,K.cellAt 1 rfl 0,use (aDn K) ?_⟩;rintro _ ar ⟨m,rfl,n⟩;refine⟨_,rfl,o.kind,n.cellAt 2 rfl 0,rfl,_,vI n (i:=0) rfl cS o.kind,_,(kl.fn cS _).1,?_⟩;have ab:=n.tail;have j:∀ {w:bI} (e:Int),Q=(⟨S,plain ps⟩,cF.bad e)->Sep E (bC f [Iv 0,Iv 0,aN8]::bC t (e6 o)::Vm A v r S ps L) w->
   kN [Iv e,Iv 0,aN8] ⟨f,0,none⟩ (λz=>∃O:Int,z.cell? ((⟨f,0,none⟩:Addr).add 0)=some (Iv O)/\∃R:Int,z.cell? ((⟨f,0,none⟩:Addr).add 1)=some (Iv R)/\∃T:Sl,z.cell? ((⟨f,0,none⟩:Addr).add 2)=some (Sv T)/\R9 E A v L S Q (.agg #[Iv O,Iv R,Sv T]) z) w:=by
  intro w e ao an;refine et _ an rfl (λap h1=>⟨_,h1.cell 0,_,h1.cell 1,⟨none,0,0⟩,h1.cell 2,?_⟩);rw[ao];exact⟨.nil _ _,A.gs,A.us,r,⟨none,0,0⟩,ps,rfl,W,hn,hb,rfl,rfl,Vm.e9 (bw.none_ (m:=1) h1.tail.tail)⟩
 rcases aGT (k:=o.kind)with⟨g,B⟩|⟨hm,am⟩
 ·rw[B];obtain⟨G,b⟩:=aIs (o:=o) B W hn hb aw (Vm.hE [bC f [Iv 0,Iv 0,aN8],bC t (e6 o)] ab);rw[l]at b;refine bT rfl ⟨_,n.cellAt 2 rfl 0,_,n.cellAt 2 rfl 1,_,n.cellAt 2 rfl 2,_,n.cellAt 2 rfl 3,_,n.cellAt 2 rfl 4,_,_,rfl,G,?_⟩;have b:Calls P g (#[Pb v,.agg #[Iv o.kind,Iv o.a,Iv o.b,Iv o.c,Iv o.d]]++ #[]) ar _:=b;refine use b ?_;rintro _ au ⟨rfl,hk,I,gs,us,r',cI,J,F,D,H,C⟩;have d:=Vm.fh [bC f [Iv 0,Iv 0,aN8],bC t (e6 o)] C;refine⟨_,_,⟨none,0,0⟩,rfl,et _ d rfl (λav p=>⟨_,p.cell 0,_,p.cell 1,⟨none,0,0⟩,p.cell 2,I,gs,us,r',⟨none,0,0⟩,cI,rfl,J,F,D,H,by rw[hk];rfl,?_⟩)⟩;rw[hk];exact Vm.e9 (bw.none_ (m:=1) p.tail.tail)
 rw[hm];refine bF rfl (Dr.i ab (λau C=>⟨o.kind,C.cellAt 1 rfl 0,o.a,C.cellAt 1 rfl 1,use (aIk C) ?_⟩));rintro _ av ⟨ay,rfl,d⟩;refine⟨_,rfl,o.a,d.cellAt 2 rfl 1,rfl,o.kind,d.cellAt 2 rfl 0,rfl,_,vI d (i:=0) rfl cS o.kind,use (RH (pid:=o.a) hn (Vm.hE [_,_,_] d)) ?_⟩;rintro x _ ⟨N,rfl⟩;have p:=d.tail;rcases am with⟨al,B,ae,af⟩|⟨ad,ag⟩
 ·rw[yL ⟨ae,af⟩]at l;rcases N with⟨i,a,g,s,M,hp,rfl⟩|⟨ai,rfl⟩
  ·have ak:ps[o.a.toNat]?=some (g,some (a,s)):=by rw[M,dA];exact hp
   have X:Vs.space ⟨S,plain ps⟩ o.a=some s:=by rw[M];exact(jw (V:=⟨S,plain ps⟩) (jc hp)).1
   rw[X]at l;dsimp only at l;refine⟨_,rfl,_,vI d (i:=0) rfl cS o.kind,rfl,o.kind,d.cellAt 2 rfl 0,rfl,_,(kl.fn cS _).2,?_⟩;rw[B];refine bF rfl (bF rfl ⟨_,d.cellAt 2 rfl 0,_,d.cellAt 2 rfl 1,_,d.cellAt 2 rfl 2,_,d.cellAt 2 rfl 3,_,d.cellAt 2 rfl 4,Al.i p (λc Y U=>?_)⟩);have U:Sep E (bC c (c6 o v a cF.zero ⟨none,0,0⟩)::bC f [Iv 0,Iv 0,aN8]::bC t (e6 o)::Vm A v r S ps L) Y:=U;have Z:Sep E (Vm A v r S ps (bC c (c6 o v a cF.zero ⟨none,0,0⟩)::bw ⟨none,0,0⟩ 1 (bD [])::([bC f [Iv 0,Iv 0,aN8],bC t (e6 o)]++L))) Y:=Vm.hE [_,_,_,_] ((bw.none_ (m:=1) U).swap);obtain⟨G,b⟩:=aIj (c:=c) (sp:=a) (o:=o) (s:=s) B W hn hb aw aj bu ak Z;rw[l]at b;refine⟨_,_,rfl,G,?_⟩;have b:Calls P al (#[Pb c]++ #[]) Y _:=b;refine use b ?_;rintro _ az ⟨rfl,I,r',cI,q,J,F,D,H,ah,aa⟩;have u:=Vm.fh [bC c (c6 o v a Q.2 q),bw q 1 (bD Q.2.bH),bC f [Iv 0,Iv 0,aN8],bC t (e6 o)] aa;refine⟨rfl,_,rfl,Q.2.err,u.cell 7,Q.2.n,u.cell 8,q,u.cell 9,et _ (u.ro 4 [2,1,0,3] rfl) rfl (λax y=>⟨_,y.cell 0,_,y.cell 1,q,y.cell 2,I,A.gs,A.us,r',q,cI,rfl,J,F,D,H,ah,?_⟩)⟩;exact Vm.e9 (y.ro 4 [1] rfl)
  ·rw[ai]at l;refine⟨_,rfl,_,vI d (i:=0) rfl cS o.kind,rfl,o.kind,d.cellAt 2 rfl 0,rfl,_,(kl.fn cS _).2,?_⟩;rw[B];exact bF rfl (bT rfl (j 2 l.symm p))
 ·rw[R8 ⟨ag,trivial⟩]at l;obtain⟨pp,rfl⟩:∃pp:ch,x=.pointer pp:=by
   rcases N with⟨_,_,_,_,_,_,e⟩|⟨_,e⟩<;>exact⟨_,e⟩
  refine⟨_,rfl,_,vI d (i:=0) rfl cS o.kind,rfl,o.kind,d.cellAt 2 rfl 0,rfl,_,(kl.fn cS _).2,?_⟩;rw[ad];exact bT rfl (j 1 l.symm p)
end Go.Mp
namespace Go.Kw
open Go Go.Kc Go.Kt
def eu(V:Vs):bA dx->Vs×bA cF
 |[]=>(V,[])
 |o::l=>let r:=V.act o;let q:=eu r.1 l;(q.1,r.2::q.2)
def E4(o:dx):∀(l:bA dx) (V:Vs),eu V (l++[o])=(((eu V l).1.act o).1,(eu V l).2++[((eu V l).1.act o).2])
 |[],V=>rfl
 |x::l,V=>by
  show((eu (V.act x).1 (l++[o])).1,(V.act x).2::(eu (V.act x).1 (l++[o])).2)=_;rw[E4 o l (V.act x).1];rfl
def E5:∀(l:bA dx) (V:Vs),(eu V l).2.length=l.length
 |[],_=>rfl
 |x::l,V=>eJ Nat.succ (E5 l (V.act x).1)
end Go.Kw
namespace Go.Mp
open Go Go.Vc Go.Sp Go.Proofs Go.Kc Go.Kw Go.Kt
variable{E:Env}{L:ct}{w W:bI}{A:At}{S:Cs}{v:Nat}{r:Sl}{ps:PS}{V:Vs}
def Sb{fr sl:Int}{sz:Sl}{l:bS}{o:cb Obj}(e:Ints E (dY o::L) sz l)(a:sz.n<=sz.c)(h:Sep E (dY o::L) w):Calls P uy #[Iv fr,Iv sl,Sv sz] w
  (cz λx w'=>∃(A:At) (v:Nat),x=Pb v/\A.o=o/\Sep E (Vm A v ⟨none,0,0⟩ (Kc.new fr sl l) [] L) w'):=by
 apply YV;unfold MU qR;refine use (vk e a h) ?_;rintro _ f ⟨A,rfl,ho,h1⟩;refine⟨_,rfl,Al.i h1 (λv w2 h2=>⟨A,v,rfl,ho,?_⟩)⟩;have b:=(bw.none_ (m:=2) h2)
 have c:Sep E ([bw ⟨none,0,0⟩ 2 [],bC v [Pb A.c,aN8]]++(cd A (Kc.new fr sl l)++L)) w2:=b;have d:=c.perm (pU _ _ _);exact d.perm (pV _ (List.Perm.swap _ _ _))
def aIB(h:Sep E (Vm A v r S ps L) w):Calls P Bi #[Pb v] w (cz λx w'=>x=Pb A.c/\w'=w):=by
 apply YW;unfold MV qZ;exact⟨_,rfl,_,h.cellAt 16 rfl 0,rfl,rfl⟩
def oY(E:Env)(L:ct)(l:Sl)(os:bA dx):Prop:=l.n=os.length/\∀w,Sep E L w->∀(i:Nat) o,os[i]?=some o->∃a,l.p=some a/\∀(j:Nat) u,(e6 o)[j]?=some u->w.cell? ((a.add (i*5)).add j)=some u
def vJ(p:cF×Sl):bA bE:=[Iv p.1.err,Iv p.1.n,.slice p.2.p p.2.n p.2.c]
def E6(p:cF×Sl):(vJ p).length=3:=rfl
def fP(s:Sl)(l:bA cF):Asn:=fa λq:bA (cF×Sl)=>cG (q.map Prod.fst=l/\s.n=l.length/\∀p∈q,p.2.n=p.1.bH.length) (cy (bw s 3 (bQ vJ q)::q.map λp=>bw p.2 1 (bD p.1.bH)))
def Sc:hi P xa=some (40,3,[Iv 0,Iv 0,aN8]):=by kernel_rfl
def fP.push{s:Sl}{l:bA cF}{a:cF}{b:Sl}{p:Nat}(hk:b.n=a.bH.length)(hb:l.length<=100000)(h:Sep E (bC p [Iv a.err,Iv a.n,Sv b]::bw b 1 (bD a.bH)::fP s l::L) w){G:Sl->bf8}(g:∀s' d,Sep E (fP s' (l++[a])::L) d->G s' d):
  ∃k:Sl,∃d,Sem.run P (Builtin.append_ #[xa,xa] xa #[Sv s,.slice (some ⟨p,0,none⟩) 1 1]) w=.ok (Sv k) d/\G k d:=by
 have y:=Src.bC (n:=1) (c:=1) h (i:=0) rfl Sc rfl (λu hu=>by simp only[ew,tC,tI]at hu;rcases hu with rfl|rfl|rfl<;>rfl);obtain⟨q,h1⟩:=Sep.ex.1 (h.ro 3 [2,0,1] rfl);obtain⟨⟨h2,m,o⟩,h1⟩:=Sep.cG.1 h1;have r:=Sep.cy.1 h1;refine bw.append r Sc rfl y bu bu (λs' d j f=>g s' d ?_);have e:bQ vJ q++[Iv a.err,Iv a.n,Sv b]=bQ vJ (q++[(a,b)]):=by rw[m6,oM];rfl
 rw[e]at f;refine Sep.ex.2 ⟨q++[(a,b)],Sep.cG.2 ⟨⟨by rw[k3,h2];rfl,by rw[j,m,dd];rfl,λp hp=>?_⟩,Sep.cy.2 ?_⟩⟩
 ·rcases gH.1 hp with hp|hp;·exact o p hp
  ·rw[ia]at hp;subst hp;exact hk
 ·have t:Sep E (bw s' 3 (bQ vJ (q++[(a,b)]))::((q.map λp=>bw p.2 1 (bD p.1.bH))++(bC p [Iv a.err,Iv a.n,Sv b]::bw b 1 (bD a.bH)::L))) d:=f;have v:=t.perm (List.Perm.cons _ (jf (a:=bC p [Iv a.err,Iv a.n,Sv b])));have x:=v.swap.tail;rw[k3];show Sep E (bw s' 3 _::(((q.map λp=>bw p.2 1 (bD p.1.bH))++[bw b 1 (bD a.bH)])++L)) d;rw[dj];exact x
def aJJ{fr sl:Int}{sz ol:Sl}{l:bS}{os:bA dx}{o:cb Obj}(X:Ints E (dY o::L) sz l)(D:sz.n<=sz.c)(K:oY E L ol os)(hb:os.length<=1000)(h:Sep E (dY o::L) w):
  Calls P H4 #[Iv fr,Iv sl,Sv sz,Sv ol] w (cz λx w'=>∃s:Sl,x=Sv s/\Sep E (fP s (eu (Vs.new fr sl l) os).2::dY o::L) w'):=by
 have hn:=K.1;have G:(⟨Kc.new fr sl l,plain []⟩:Vs)=Vs.new fr sl l:=rfl;have e:(Kc.new fr sl l).bt.next=0:=rfl;apply Y1;unfold M0 qR qU qW qf zL zx;refine use (Sb X D h) ?_;rintro _ af ⟨A,v,rfl,ho,h1⟩;refine⟨_,rfl,λs x w'=>∃(k:Nat) (gs us r:Sl) (S:Cs) (ps:PS),x=k/\k<=os.length/\dE ps/\r.n=ps.length/\ps.length<=64/\(⟨S,plain ps⟩:Vs)=(eu (Vs.new fr sl l) (os.take k)).1/\Kc.Inv S/\S.bt.next<=66*k/\Sep E (Vm {A with gs:=gs,us:=us} v r S ps (fP s (eu (Vs.new fr sl l) (os.take k)).2::L)) w',λ_ x _=>(os.length-x).toNat,?_,?_⟩;·refine⟨0,A.gs,A.us,⟨none,0,0⟩,Kc.new fr sl l,[],rfl,fj _,(λi g a s F=>by cases F),rfl,bN,G,Inv.new fr sl l,by rw[e];decide,Vm.e9 (Sep.ex.2 ⟨[],Sep.cG.2 ⟨⟨rfl,rfl,(λp hp=>by cases hp)⟩,Sep.cy.2 (bw.none_ (m:=3) h1)⟩⟩)⟩
 rintro _ s _ w2 ⟨k,gs,us,r,S,ps,rfl,hk,Y,hr,I,U,aa,ae,h2⟩;refine cU (λad=>?_) (λab=>?_)
 ·obtain⟨op,j⟩:∃op,os[k]?=some op:=⟨_,dP⟩
  obtain⟨a,hp,c⟩:=K.2 w2 (Vm.out h2 |>.tail |> λq=>by rw[yI]at q;exact q.right) k op j;have M:(((k:Nat):Int).toNat*5)=k*5:=by rw[dA]
  refine⟨a,hp,⟨bu,bu⟩,?_⟩;rw[M];refine⟨_,c 0 _ rfl,_,c 1 _ rfl,_,c 2 _ rfl,_,c 3 _ rfl,_,c 4 _ rfl,Al.i h2 (λp ag t=>et _ t rfl (λZ b=>?_))⟩;have b:Sep E (bC p (e6 op)::Vm {A with gs:=gs,us:=us} v r S ps (fP s (eu (Vs.new fr sl l) (os.take k)).2::L)) Z:=b;refine⟨_,b.cell 0,_,b.cell 1,_,b.cell 2,_,b.cell 3,_,b.cell 4,use (Sa op Y hr I aa bu b.tail) ?_⟩;rintro _ ah ⟨R,f,n,r',W,cI,rfl,T,Q,z,O,N,u⟩;have H:Vs.act ⟨S,plain ps⟩ op=((eu (Vs.new fr sl l) (os.take k)).1).act op:=by rw[U]
  have d:=E4 op (os.take k) (Vs.new fr sl l);have V:os.take (k+1)=os.take k++[op]:=fL j;rw[<- V,<- H]at d;have F:=R.inv aa bu;have y:=Vm.fh (A:={A with gs:=f,us:=n}) [bw W 1 (bD (Vs.act ⟨S,plain ps⟩ op).2.bH),fP s (eu (Vs.new fr sl l) (os.take k)).2] u;refine⟨_,_,W,rfl,Al.i y (λp2 ai B=>fP.push (a:=(Vs.act ⟨S,plain ps⟩ op).2) N (by rw[E5,hF];omega) B (λs' aj C=>⟨⟨k+1,f,n,r',_,cI,dc,bu,T,Q,z,?_,F.1,bu,?_⟩,?_⟩))⟩;·rw[d,O]
  ·rw[d];exact Vm.e9 C
  ·rw[dc];dsimp only;omega
 ·have:k=os.length:=by omega
  subst this;rw[gf]at h2;refine⟨s,rfl,?_⟩;have t:=Vm.out h2;have b:Sep E (fP s (eu (Vs.new fr sl l) os).2::(cd {A with gs:=gs,us:=us} S++(bC v [Pb A.c,Sv r]::bw r 2 (bQ h8 ps)::(ps.map iP++L)))) w2:=t;have u:=b.fr 16 rfl;have y:Sep E (dY A.o::fP s (eu (Vs.new fr sl l) os).2::(((cd {A with gs:=gs,us:=us} S).take 15++[bC v [Pb A.c,Sv r],bw r 2 (bQ h8 ps)]++ps.map iP)++L)) w2:=by
   refine u.perm ?_;rw[dj,dj];exact List.Perm.refl _
  have B:=(y.ro 2 [1,0] rfl:Sep E (fP s (eu (Vs.new fr sl l) os).2::dY A.o::(_++L)) w2)
  have C:=B.perm (L':=((cd {A with gs:=gs,us:=us} S).take 15++[bC v [Pb A.c,Sv r],bw r 2 (bQ h8 ps)]++ps.map iP)++(fP s (eu (Vs.new fr sl l) os).2::dY A.o::L)) (pU [_,_] _ L);have J:=C.right;rw[ho]at J;exact J
def vK(o:dx):(e6 o).length=5:=rfl
def oY.jr{b c q:Nat}{os:bA dx}(d:L[q]?=some (bC b (bQ e6 os))):oY E L ⟨some ⟨b,0,none⟩,os.length,c⟩ os:=by
 refine⟨rfl,λw h i o ho=>⟨_,rfl,λj u hu=>?_⟩⟩;have a:j<5:=by have:=(cZ.1 hu).1;rwa[vK]at this
 rw[cf,cf,h.cellAt q d,fx,sG vK ho j a];exact hu
def fP.el{s:Sl}{l:bA cF}{i:Int}{k:Nat}{a:cF}{F:Addr->Prop}(q:Nat)(h:Sep E L w)(n:L[q]?=some (fP s l))(m:i=k)(c:l[k]?=some a)(p:∀a0:Addr,w.cell? (a0.add 0)=some (Iv a.err)->w.cell? (a0.add 1)=some (Iv a.n)->F a0):cK s.p s.n i 3 F:=by
 obtain⟨z,h1⟩:=Sep.ex.1 (h.fr q n);obtain⟨⟨h2,g,_⟩,h1⟩:=Sep.cG.1 h1;have j:=Sep.cy.1 h1;obtain⟨y,o,d⟩:∃y,z[k]?=some y/\y.1=a:=by
  rw[<- h2,eC]at c;cases f:z[k]? with
  |none=>rw[f]at c;cases c
  |some y=>rw[f]at c;exact⟨y,rfl,cR c⟩
 have hn:s.n=z.length:=by rw[g,<- h2,ei]
 refine lV E6 0 j rfl hn m o (λb _ e=>p _ ?_ ?_);·rw[cf,<- d];exact e 0 _ rfl
 ·rw[cf,<- d];exact e 1 _ rfl
def fP.len{s:Sl}{l:bA cF}(q:Nat)(h:Sep E L w)(a:L[q]?=some (fP s l)):s.n=l.length:=by
 obtain⟨z,h1⟩:=Sep.ex.1 (h.fr q a);exact(Sep.cG.1 h1).1.2.1
def Vok.new(a b:Int)(l:bS):Vok (Vs.new a b l):=⟨Inv.new a b l,(λi g s h=>by cases h),by show(0:Nat)<=64;decide⟩
def eL(E:Env)(A:At)(v:Nat)(V:Vs)(L:ct)(w:bI):Prop:=
 ∃(gs us r:Sl) (ps:PS),r.n=ps.length/\plain ps=V.procs/\Sep E (Vm {A with gs:=gs,us:=us} v r V.core ps L) w
def Sd{ps:PS}(m:Vok V)(h:plain ps=V.procs):dE ps:=λi g a s b=>m.sp i g s (by rw[<- h];exact jc b)
def Se{ps:PS}(m:Vok V)(h:plain ps=V.procs):ps.length<=64:=by rw[<- kc,h];exact m.fk
def eL.tail{B:Asn}(h:eL E A v V (B::L) w):eL E A v V L w:=by
 obtain⟨gs,us,r,ps,h1,h2,a⟩:=h;exact⟨gs,us,r,ps,h1,h2,(Vm.out a).tail⟩
def eL.iJ{T:Cs}(h:Sep E (Vm A v ⟨none,0,0⟩ T [] L) w):eL E A v ⟨T,[]⟩ L w:=⟨A.gs,A.us,⟨none,0,0⟩,[],rfl,rfl,h⟩
def eL.right(h:eL E A v V L w):Sep E L w:=by
 obtain⟨gs,us,r,ps,h1,h2,a⟩:=h;rw[yI]at a;exact a.right
def eL.drop(h:eL E A v V L w):Sep E (dY A.o::L) w:=by
 obtain⟨gs,us,r,ps,h1,h2,a⟩:=h;have b:Sep E (cd {A with gs:=gs,us:=us} V.core++(bC v [Pb A.c,Sv r]::bw r 2 (bQ h8 ps)::(ps.map iP++L))) w:=a;have c:=b.fr 15 rfl;have d:Sep E (dY A.o::(((cd {A with gs:=gs,us:=us} V.core).take 15++[bC v [Pb A.c,Sv r],bw r 2 (bQ h8 ps)]++ps.map iP)++L)) w:=by
  refine c.perm ?_;rw[dj,dj];exact List.Perm.refl _
 have e:=d.perm (L':=((cd {A with gs:=gs,us:=us} V.core).take 15++[bC v [Pb A.c,Sv r],bw r 2 (bQ h8 ps)]++ps.map iP)++(dY A.o::L)) jf.symm;exact e.right
def eL.cell{k b j:Nat}{cs:bA bE}{c:bE}(h:eL E A v V L w)(hk:L[k]?=some (bC b cs))(a:cs[j]?=some c):w.cell? (Addr.add ⟨b,0,none⟩ j)=some c:=by
 rw[cf,h.right.cellAt k hk,fx];exact a
def E7{a:Addr}{x:bE}(h:eL E A v V L w)(ho:A.o=W.heap)(b:W.cell? a=some x):w.cell? a=some x:=by
 have:=h.drop;rw[ho]at this;exact vC (q:=0) this rfl b
def iR(a:cF)(b:Sl):bA bE:=[Iv a.err,Iv a.n,Sv b]
def eL.Sf(h:eL E A v V L w)(m:Vok V)(hn:V.core.bt.next+66<16777216)(o:dx){K:Ending->bf8}(k:∀(c:Sl) w',c.n=(V.act o).2.bH.length->eL E A v (V.act o).1 (bw c 1 (bD (V.act o).2.bH)::L) w'->Vok (V.act o).1->(V.act o).1.core.bt.next<=V.core.bt.next+66->
   K (.returned (.agg #[Iv (V.act o).2.err,Iv (V.act o).2.n,Sv c])) w'):Calls P n2 #[Pb v,.agg (e6 o).toArray] w K:=by
 obtain⟨gs,us,r,ps,h1,h2,x⟩:=h;have fk:=m.fk;have y:(⟨V.core,plain ps⟩:Vs)=V:=by cases V;dsimp only at h2;rw[h2]
 refine use (Sa o (Sd m h2) h1 (Se m h2) m.inv bu x) ?_;rintro _ w' ⟨p,e,u,r',c,cI,rfl,t,n,j,b,d,f⟩;have l:=p.inv m.inv bu;rw[y]at b d f l ⊢;exact k c w' d ⟨e,u,r',cI,n,b,f⟩ ⟨l.1,λi g s q=>by rw[<- b]at q;obtain⟨a,z⟩:=RD q;exact t i g a s z,by rw[<- b,kc];exact j⟩ bu
def eL.jo(h:eL E A v V L w)(m:Vok V)(hn:V.core.bt.next+66<16777216)(o:dx){T:cc}{F:Int->Int->Sl->Addr->bf8}(k:∀(a:Sl) p w',a.n=(V.act o).2.bH.length->eL E A v (V.act o).1 (bC p (iR (V.act o).2 a)::bw a 1 (bD (V.act o).2.bH)::L) w'->Vok (V.act o).1->(V.act o).1.core.bt.next<=V.core.bt.next+66->F (V.act o).2.err (V.act o).2.n a ⟨p,0,none⟩ w'):
  Calls P n2 #[Pb v,.agg (e6 o).toArray] w λe d=>∃x:Int,∃y:Int,∃s:Sl,e=.returned (.agg #[Iv x,Iv y,Sv s])/\
   Al (.cells #[Iv 0,Iv 0,aN8] T) (λp w2=>kN [Iv x,Iv y,Sv s] p (λb=>F x y s p b) w2) d:=by
 refine h.Sf m hn o (λa d c h1 l n=>⟨_,_,a,rfl,?_⟩);obtain⟨gs,us,r,ps,f,g,i⟩:=h1;refine Al.i i (λp w2 h2=>et _ h2 rfl (λb j=>k a p b c ⟨gs,us,r,ps,f,g,Vm.e9 j⟩ l n))
def nN(W:bI)(l:Sl)(os:bA dx):Prop:=l.n=os.length/\∀(i:Nat) o,os[i]?=some o->∃a,l.p=some a/\∀(j:Nat) x,(e6 o)[j]?=some x->W.cell? ((a.add (i*5)).add j)=some x
def eL.op{l:Sl}{os:bA dx}(b:nN W l os)(ho:A.o=W.heap)(h:eL E A v V L w){k:Nat}{o:dx}(hk:os[k]?=some o){F:Addr->Prop}(f:∀a,(∀(j:Nat) x,(e6 o)[j]?=some x->∀ {V':Vs} {L':ct} {w':bI},eL E A v V' L' w'->w'.cell? (a.add j)=some x)->F a):cK l.p l.n (k:Int) 5 F:=by
 obtain⟨a,hp,c⟩:=b.2 k o hk;have e:=(cZ.1 hk).1;have d:=b.1;refine⟨a,hp,⟨bu,bu⟩,?_⟩;rw[dA];exact f _ (λj x hx V' L' w' h'=>E7 h' ho (c j x hx))
def E8(V:Vs){os:bA dx}{k:Nat}{o:dx}(hk:os[k]?=some o):(eu V (os.take (k+1))).1=((eu V (os.take k)).1.act o).1:=by
 rw[fL hk,E4]
def aG4{l:Sl}{os:bA dx}{d:bf8}(n:nN W l os)(hl:os.length<=40)(ho:A.o=W.heap)(m:Vok V)(hn:V.core.bt.next<=1000)(h:eL E A v V L w)(k:∀w',Vok (eu V os).1->(eu V os).1.core.bt.next<=10000->eL E A v (eu V os).1 L w'->d w'):
  ∃(u:Int->bf8) (M:Int->bI->Nat),u 0 w/\∀J:Nat->bE,∀i:Int,∀b:bI,u i b->bif(decide (i<((l.n:Nat):Int)))then(cK l.p l.n i 5 λa=>∃p:Int,b.cell? (a.add 0)=some (Iv p)/\∃q:Int,b.cell? (a.add 1)=some (Iv q)/\∃r:Int,b.cell? (a.add 2)=some (Iv r)/\∃s:Int,b.cell? (a.add 3)=some (Iv s)/\∃t:Int,b.cell? (a.add 4)=some (Iv t)/\
   Calls P n2 #[(Pb v),(.agg #[(Iv p),(Iv q),(Iv r),(Iv s),(Iv t)])] b λe w2=>∃B:Int,∃C:Int,∃D:Sl,e=.returned (.agg #[(Iv B),(Iv C),(Sv D)])/\(u (i64.wrap (i+1)) w2/\M (i64.wrap (i+1)) w2<M i b))else d b:=by
 have H:=n.1;refine⟨λi w'=>∃j:Nat,i=j/\j<=os.length/\Vok (eu V (os.take j)).1/\(eu V (os.take j)).1.core.bt.next<=1000+66*j/\eL E A v (eu V (os.take j)).1 L w',λi _=>(os.length-i).toNat,⟨0,rfl,fj _,m,by show V.core.bt.next<=_;omega,h⟩,?_⟩;rintro _ _ b ⟨j,rfl,K,g,z,h1⟩;refine cU (λI=>?_) (λF=>?_)
 ·obtain⟨o,c⟩:∃o,os[j]?=some o:=⟨_,dP⟩
  refine h1.op n ho c (λa f=>⟨_,f 0 _ rfl h1,_,f 1 _ rfl h1,_,f 2 _ rfl h1,_,f 3 _ rfl h1,_,f 4 _ rfl h1,h1.Sf g bu o (λx w2 G h2 y N=>⟨_,_,x,rfl,?_⟩)⟩);rw[dc];refine⟨⟨j+1,rfl,bu,by rw[E8 V c];exact y,by rw[E8 V c];omega,by rw[E8 V c];exact h2.tail⟩,?_⟩;show(((os.length:Nat):Int)-((j+1:Nat):Int)).toNat<(((os.length:Nat):Int)-(j:Int)).toNat;omega
 ·have:j=os.length:=by omega
  subst this;rw[gf]at h1 g z;exact k b g bu h1
def eL.procs(h:eL E A v V L w)(m:Vok V){K:Ending->bf8}(k:∀(l:Sl) w',l.n=V.pr.length->eL E A v V (hU l V.pr::L) w'->K (.returned (Sv l)) w'):Calls P si #[Pb v] w K:=by
 obtain⟨gs,us,r,ps,h1,h2,b⟩:=h;have fk:=Se m h2;refine use (RK (Sd m h2) h1 bu b) ?_;rintro _ w' ⟨l,rfl,hl,a⟩;have e:(plain ps).map fw=V.pr:=by rw[h2,vF]
 rw[e]at hl a;exact k l w' hl ⟨gs,us,r,ps,h1,h2,a⟩
def eL.space{pid:Int}(h:eL E A v V L w){K:Ending->bf8}(k:∀x:ch,x.isNone=(V.space pid).isNone->K (.returned (.pointer x)) w):Calls P uz #[Pb v,Iv pid] w K:=by
 obtain⟨gs,us,r,ps,h1,h2,d⟩:=h;have b:(⟨V.core,plain ps⟩:Vs)=V:=by cases V;dsimp only at h2;rw[h2]
 refine use (RH (pid:=pid) h1 d) ?_;rintro _ w' ⟨e,rfl⟩;rcases e with⟨i,a,g,s,rfl,f,rfl⟩|⟨c,rfl⟩
 ·refine k _ ?_;have:=(jw (V:=⟨V.core,plain ps⟩) (jc f)).1;rw[b]at this;rw[this];rfl
 ·refine k _ ?_;rw[b]at c;rw[c];rfl
def eL.core(h:eL E A v V L w){K:Ending->bf8}(k:K (.returned (Pb A.c)) w):Calls P Bi #[Pb v] w K:=by
 obtain⟨gs,us,r,ps,h1,h2,a⟩:=h;refine use (aIB a) ?_;rintro _ w' ⟨rfl,rfl⟩;exact k
end Go.Mp
namespace Go.Mp
open Go Go.Vc Go.Sp Go.Proofs Go.Kc
def Sg{α:Type}{n:Nat}{R:Nat->α->Prop}(h:∀i,i<n->∃x,R i x):∃l:bA α,l.length=n/\∀i x,l[i]?=some x->R i x:=by
 induction n with
 |zero=>exact⟨[],rfl,λi x hx=>by simp at hx⟩
 |succ n d=>
  obtain⟨l,hl,hr⟩:=d (λi b=>h i bu);obtain⟨x,hx⟩:=h n bu;refine⟨l++[x],by simp[hl],λi y a=>?_⟩;rcases hN i n with b|b;·rw[eM bu]at a;exact hr i y a
  ·have c:=(cZ.1 a).1;have:i=n:=by simp[hl]at c;omega
   subst this;rw[fM bu,hl,iV]at a;rw[<- cR a];exact hx
end Go.Mp
namespace Go.Mp
open Go Go.Vc Go.Sp Go.Proofs Go.Kc Go.Kw
def aJV{W:bI}{v:bE}(h:Rd P W Bd [v]):∃(l:Sl) (xs:bA dx),v=Sv l/\nN W l xs:=by
 obtain⟨p,n,c,rfl,_,_,o⟩:=h.nC (e:=HV) cS;have key:∀i,i<n->∃x:dx,∃a,p=some a/\∀(j:Nat) v,(e6 x)[j]?=some v->W.cell? ((a.add (i*5)).add j)=some v:=by
  intro i g;obtain⟨a,es,rfl,hl,b,hr⟩:=o i g;have m:P.cellsOf HV=5:=by kernel_rfl
  rw[m]at b hl;have hf:=hr.leaves 3 (ts:=[Be,lS,lS,lS,lS]) cS
  match es,hl,hf with
  |[v0,v1,v2,v3,v4],_,⟨q,r,s,t,u,_⟩=>
  obtain⟨k,rfl,_⟩:=q.kB (k:=.i64) cS;obtain⟨w,rfl,_⟩:=r.kB (k:=.i64) cS;obtain⟨y,rfl,_⟩:=s.kB (k:=.i64) cS;obtain⟨z,rfl,_⟩:=t.kB (k:=.i64) cS;obtain⟨A,rfl,_⟩:=u.kB (k:=.i64) cS;refine⟨⟨k,w,y,z,A⟩,a,rfl,λj v d=>?_⟩;have f:j<5:=(cZ.1 d).1;rw[b j f];exact d
 obtain⟨xs,hl,hx⟩:=Sg key;exact⟨⟨p,n,c⟩,xs,rfl,hl.symm,hx⟩
end Go.Mp
