/- A part of the proof. -/
import Derived.Test.YtafigbgagbolgaaGreatDoorD07
set_option linter.all false
set_option maxRecDepth 100000
open Go.IntKind(i64 u64)
universe u
theorem cE{α:Sort u}{a b:α}(h:a=b:=by kernel_rfl):a=b:=h
namespace Go.Mp
open Go Go.Vc Go.Sp Go.Proofs Go.Kc
variable{E:Env}{L:cr}{w W:bI}
def PQ:hG P jK=some (8,1,[Iv 0]):=by kernel_rfl
def PR{s:Sl}{q:Nat}{l:bS}{x:Int}(hn:s.n=l.length)(hb:l.length<100000000)(h:Sep E (bD q [Iv x]::bw s 1 (bC l)::L) w){G:Sl->bi9}(g:∀s' a,s'.n=(l++[x]).length->Sep E (bw s' 1 (bC (l++[x]))::L) a->G s' a):
  ∃d:Sl,∃a,Sem.run P (Builtin.append_ #[jK,jK] jK #[Sv s,.slice (some ⟨q,0,none⟩) 1 1]) w=.ok (Sv d) a/\G d a:=by
 have f:=Src.bD (n:=1) (c:=1) h (i:=0) rfl PQ rfl (λu hu=>by simp at hu;rw[hu];rfl);have e:bC (l++[x])=bC l++[Iv x]:=by simp[bC]
 refine bw.append h.swap PQ rfl f bu (by rw[hn];omega) (λs' a b h1=>?_);refine g s' a (by rw[b,hn];simp) ?_;rw[e];exact(h1.fr 0 rfl).ro 2 [0] rfl
def lM(k:Int×Int):bH:=.agg #[Iv k.1,Iv k.2]
def aGw(a b:Int×Int)(h:lM a=lM b):a=b:=by
 obtain⟨c,d⟩:=a;obtain⟨b1,b2⟩:=b;simpa[lM]using h
def PT:ih P yn lM:=ih.agg (d:=3) (l:=[.int .i64,.int .i64]) aGw cE bN cE (λk=>by
 unfold Typed;rw[show eB P yn=some true by kernel_rfl];exact⟨_,rfl,⟨_,rfl⟩,⟨_,rfl⟩,trivial⟩)
def hS(t:bA UInt8):bH:=.string ⟨t.toArray⟩
def iK(b:Nat)(F:FS):Asn:=fo λs:Sl=>fo λm:Nat=>fo λwr:Int=>cL (s.n=F.bU.length/\F.bU.length<=32)
 (star (bD b [Sv s,.map (some m),Iv wr]) (star (bw s 1 (bC F.bU)) (cM m lM (λk=>(F.bt k).map hS))))
def iK.get{b:Nat}{F:FS}(h:Sep E (iK b F::L) w):∃(s:Sl) (m:Nat) (wr:Int),s.n=F.bU.length/\F.bU.length<=32/\
  Sep E (bD b [Sv s,.map (some m),Iv wr]::bw s 1 (bC F.bU)::cM m lM (λk=>(F.bt k).map hS)::L) w:=by
 obtain⟨s,h⟩:=Sep.ex.1 h;obtain⟨m,h⟩:=Sep.ex.1 h;obtain⟨wr,h⟩:=Sep.ex.1 h;obtain⟨hn,h⟩:=Sep.cL.1 h;have h1:=(Sep.star.1 h).swap;exact⟨s,m,wr,hn.1,hn.2,(Sep.star.1 h1).ro 3 [2,0,1] rfl⟩
def iK.mk{b m:Nat}{F:FS}{s:Sl}{wr:Int}(hn:s.n=F.bU.length)(a:F.bU.length<=32)(h:Sep E (bD b [Sv s,.map (some m),Iv wr]::bw s 1 (bC F.bU)::cM m lM (λk=>(F.bt k).map hS)::L) w):Sep E (iK b F::L) w:=
 Sep.ex.2 ⟨s,Sep.ex.2 ⟨m,Sep.ex.2 ⟨wr,Sep.cL.2 ⟨⟨hn,a⟩,Sep.star.2 (Sep.swap (Sep.star.2 (h.ro 3 [1,2,0] rfl)))⟩⟩⟩⟩
variable{b:Nat}{F:FS}
def aBd{q:Nat}(h:Sep E L w)(a:L[q]?=some (iK b F)):Calls P JS #[Pb b] w (cC λv w'=>v=Iv (F.bU.length:Nat)/\w'=w):=by
 apply Xy;unfold L4 qK;obtain⟨s,m,wr,hn,c,h1⟩:=iK.get (h.fr q a);refine⟨_,rfl,s,h1.cell 0,?_,rfl⟩;rw[hn]
def PU{q:Nat}(h:Sep E L w)(j:L[q]?=some (iK b F))(f:Int):Calls P CX #[Pb b,Iv f] w (cC λv w'=>v=Iv (nL F f)/\w'=w):=by
 apply Xz;unfold L5 qD qK qW qg;obtain⟨s,m,wr,hn,k,h1⟩:=iK.get (h.fr q j);unfold nL;refine⟨λw'=>w'=w/\0<=f/\f<F.bU.length,cU (λc=>⟨by rw[bK (.inl c)],rfl⟩) (λc=>⟨_,rfl,s,h1.cell 0,hq (λi=>⟨by rw[bK (.inr bu)],rfl⟩) (λi=>⟨rfl,c,bu⟩)⟩),?_⟩;rintro _ w2 ⟨rfl,e,d⟩;refine⟨_,rfl,s,h1.cell 0,mN 1 h1 rfl hn e d (λa g=>⟨_,g,?_,rfl⟩)⟩;rw[cK]
def PV{q:Nat}(h:Sep E L w)(a:L[q]?=some (iK b F))(k:Int×Int):Calls P y2 #[Pb b,lM k] w (cZ E (.bool (eo F k)) L):=by
 show Calls P y2 #[Pb b,.agg #[Iv k.1,Iv k.2]] w _;apply Y5;unfold Np qL qQ zH;refine Al.i h (λp d h1=>Dr.i h1 (λw2 h2=>⟨_,by rw[cj];exact h2.cell 1,ij (λhle=>?_) (λc=>?_)⟩))
 ·refine⟨_,by rw[cj];exact h2.cell 1,_,by rw[cj];exact h2.cell 0,use (PU (q:=q+1) h2 (by simpa using a) k.1) ?_⟩;rintro _ e ⟨rfl,rfl⟩;refine⟨_,rfl,_,by rw[cj];exact h2.cell 1,rfl,?_,h2.tail⟩;unfold eo;rw[dK hle];rfl
 ·refine⟨?_,h2.tail⟩;unfold eo;rw[dq bu];rfl
def r6(n:Int):IntKind.u8.wrap n=n%256:=by unfold IntKind.wrap;simp[IntKind.signed,IntKind.bits]
def aJn(n:Int):((mI n).toNat:Int)=n%256:=by
 unfold mI;rw[UInt8.toNat_ofNat'];omega
def aBe(k:Int×Int)(h:Sep E L w):Calls P DR #[lM k] w (cZ E (hS (nM k)) L):=by
 show Calls P DR #[.agg #[Iv k.1,Iv k.2]] w _;apply Y6;unfold Nq qO zD zZ;refine Al.i h (λp r h1=>Al.i h1 (λp2 w2 h2=>?_));refine⟨_,by rw[cj];exact h2.cellAt 1 rfl 0,_,by rw[cj];exact h2.cellAt 1 rfl 1,?_⟩;have h2:Sep E (bD p2 (hz (List.replicate 16 0))::L) w2:=by
  have e:hz (List.replicate 16 0)= [.int .u8 0,.int .u8 0,.int .u8 0,.int .u8 0,.int .u8 0,.int .u8 0,.int .u8 0,.int .u8 0,.int .u8 0,.int .u8 0,.int .u8 0,.int .u8 0,.int .u8 0,.int .u8 0,.int .u8 0,.int .u8 0]:=by simp[hz,List.replicate]
  rw[e];exact h2.ro 2 [0] rfl
 refine⟨λx w'=>∃j:Nat,x=j/\j<=16/\Sep E (bD p2 (hz ((nM k).take j++List.replicate (16-j) 0))::L) w',λx _=>(16-x).toNat,⟨0,rfl,bu,by rw[uP,l1];exact h2⟩,?_⟩;rintro _ x s ⟨j,rfl,q,a⟩;have hl:(nM k).length=16:=by simp[nM]
 refine cU (λo=>?_) (λn=>?_)
 ·have d:j<16:=by omega
  refine⟨_,rfl,⟨bu,bu⟩,cQ.j a (by simp;omega) (λu c=>?_)⟩;refine⟨⟨j+1,c4,bu,?_⟩,by dsimp only;rw[c4];omega⟩;have e:(hz ((nM k).take j++List.replicate (16-j) 0)).set (0+((j:Nat):Int).toNat*1) (.int .u8 (IntKind.u8.wrap ((IntKind.u8.wrap ((IntKind.u8.wrap ((IntKind.u8.wrap k.1)*31))+(IntKind.u8.wrap ((IntKind.u8.wrap k.2)*7))))+(IntKind.u8.wrap ((j:Nat):Int)))))=hz ((nM k).take (j+1)++List.replicate (16-(j+1)) 0):=by
   rw[fz,fY,dt];have l:(nM k)[j]?=some (mI (31*k.1+7*k.2+(j:Int))):=by unfold nM;rw[ez,ny d];rfl
   rw[take_succ l];unfold hz;rw[lu,lu,lu,iD _ _ (by simp;omega)];rw[show j-((List.take j (nM k)).map λb=>Value.int .u8 (b.toNat:Int)).length=0 by simp;omega,show 16-j=(16-(j+1))+1 by omega,oS,kB,Bd,dp];congr 1;simp only[kB,List.map_nil,List.singleton_append];congr 2;rw[aJn,r6,r6,r6,r6,r6,r6,r6];omega
  rw[e]at c;exact c
 ·have:j=16:=by omega
  subst this;rw[iq bu,iE,Hc,g3]at a;refine⟨_,λw' g=>?_,rfl,a.tail⟩;have c:=a.grow g;obtain⟨e,m,q2⟩:=B6 (P:=P) (t:=th) cE;have:=run_convert_bytes_back (P:=P) w' th Cx e ⟨p2,0,none⟩ (16-0) (nM k) m q2 cE (λi f=>by rw[cj,c.cell,fz,vh,ea f];rfl);rw[hl]at this;exact this
def PW(k:Int×Int)(h:Sep E (iK b F::L) w):Calls P yZ #[Pb b,lM k] w
  (cZ E (.tuple #[hS (sU F k).1,Iv (sU F k).2]) (iK b F::L)):=by
 show Calls P yZ #[Pb b,.agg #[Iv k.1,Iv k.2]] w _;apply Yq;unfold ML qF qM zJ zZ;refine Al.i h (λp j h1=>⟨_,by rw[cj];exact h1.cell 0,_,by rw[cj];exact h1.cell 1,use (PV (q:=1) h1 rfl k) ?_⟩);rintro _ w2 ⟨rfl,h2⟩;refine⟨_,rfl,?_⟩;unfold sU;cases i:eo F k with
 |false=>exact eM ⟨rfl,h2.tail⟩
 |true=>
  refine dQ (Dr.i h2 (λf c=>?_));obtain⟨s,m,wr,hn,g,d⟩:=iK.get c.swap;have a:Sep E (bD p [Iv k.1,Iv k.2]::iK b F::L) f:=c;refine⟨_,rfl,some m,by rw[cj];exact d.cell 1,_,by rw[cj];exact a.cell 0,_,by rw[cj];exact a.cell 1,?_⟩;have hl:=gE.i true 2 d rfl PT (t:=Wr) (z:=.string ⟨#[]⟩) cE k;cases hp:F.bt k with
  |some t=>
   simp only[hp,fC,mY,Hk]at hl;exact⟨_,_,hl,eM ⟨rfl,a.tail⟩⟩
  |none=>
   simp only[hp,Option.map_none,Option.getD_none,Uo]at hl;refine⟨_,_,hl,dQ ⟨_,by rw[cj];exact a.cell 0,_,by rw[cj];exact a.cell 1,use (aBe k a) ?_⟩⟩;rintro _ l ⟨rfl,e⟩;exact⟨_,rfl,rfl,e.tail⟩
def aBf(k:Int×Int)(t:bA UInt8)(h:Sep E (iK b F::L) w):Calls P DD #[Pb b,lM k,hS t] w
  (cZ E (Iv (nN F k t).2) (iK b (nN F k t).1::L)):=by
 show Calls P DD #[Pb b,.agg #[Iv k.1,Iv k.2],.string ⟨t.toArray⟩] w _;apply Yx;unfold MS qF qL qM zZ;refine Al.i h (λp y h1=>⟨_,by rw[cj];exact h1.cell 0,_,by rw[cj];exact h1.cell 1,use (PV (q:=1) h1 rfl k) ?_⟩);rintro _ w2 ⟨rfl,h2⟩;refine⟨_,rfl,?_⟩;unfold nN;have j:(⟨t.toArray⟩:ByteArray).size=t.length:=by show t.toArray.size=_;simp
 rw[j];cases u:eo F k with
 |false=>exact eM ⟨rfl,h2.tail⟩
 |true=>
  refine dQ (g0 (λr=>?_) (λhe=>?_))
  ·have c:t.length≠16:=by omega
   rw[bJ bN,bK c];exact⟨rfl,h2.tail⟩
  ·have i:¬ t.length≠16:=by omega
   rw[bJ bN,bJ i];refine Dr.i h2 (λA l=>?_);obtain⟨s,m,wr,hn,d,a⟩:=iK.get l.swap;refine⟨_,rfl,some m,by rw[cj];exact a.cell 1,_,by rw[cj];exact a.cellAt 3 rfl 0,_,by rw[cj];exact a.cellAt 3 rfl 1,?_⟩;refine mapUpdate.i (a.ro 4 [2,0,1,3] rfl) PT (z:=.string ⟨#[]⟩) cE k _ (λB f=>?_);refine⟨_,rfl,wr,by rw[cj];exact(f.cellAt 1 rfl _).trans rfl,_,rfl,?_⟩;refine cQ.j f.swap (show 0+2<3 by decide) (λo n=>⟨rfl,?_⟩);have g:Sep E (bD b [Sv s,.map (some m),Iv (i64.wrap (wr+1))]::cM m lM (cR (λk=>(F.bt k).map hS) k (some (hS t)))::bw s 1 (bC F.bU)::bD p [Iv k.1,Iv k.2]::L) o:=n;have e:(cR (λk=>(F.bt k).map hS) k (some (hS t)))= λx=>((λx=>if x=k then some t else F.bt x) x).map hS:=by
    funext x;unfold cR;dsimp only;split<;>rfl
   rw[e]at g;exact iK.mk (F:={F with bt:=λx=>if x=k then some t else F.bt x}) hn d (g.ro 4 [0,2,1] rfl)
def aEH{s:Sl}{l:bS}(n:Ints E L s l)(C:s.n<=s.c)(h:Sep E L w):Calls P CF #[Sv s] w (cC λv w'=>∃b,v=Pb b/\Sep E (iK b (g7 l)::L) w'):=by
 apply WI;unfold Lo qC qD qK qO;have hn:=n.1;refine cM.new (enc:=lM) h (λm N h1=>Al.i h1 (λp w2 h2=>?_));have hm:min1 ((s.n:Nat):Int) 32=((min l.length 32:Nat):Int):=by unfold min1;split<;>omega
 rw[hm];refine⟨⟨bu,bu⟩,?_⟩;simp only[dt,HH];have o:(g7 l).bU.length=min l.length 32:=by simp[g7];omega
 refine⟨λx w'=>∃j:Nat,x=j/\j<=min l.length 32/\∃t:Sl,t.n=((g7 l).bU.take j).length/\Sep E (bw t 1 (bC ((g7 l).bU.take j))::bD p [Sv t,.map (some m),Iv 0]::cM m lM (λ_=>none)::L) w',
  λx _=>(min l.length 32-x).toNat,⟨0,rfl,dX _,⟨none,0,0⟩,rfl,bw.none_ h2⟩,?_⟩
 rintro _ x G ⟨j,rfl,M,t,i,c⟩;refine cU (λK=>?_) (λI=>?_)
 ·have J:j<min l.length 32:=by omega
  obtain⟨y,u⟩:∃y,l[j]?=some y:=⟨_,du⟩
  obtain⟨a,B,d⟩:=(n.cons.cons.cons (A:=bw t 1 (bC ((g7 l).bU.take j)))).2 G c j y u;have r:(g7 l).bU[j]?=some (min (max y 0) 4096):=by unfold g7;rw[ez,pI,eV,u];rfl
  refine⟨a.add 0,?_,⟨bu,bu⟩,?_⟩
  ·unfold gA;split;·omega
   ·rw[B];simp
  ·refine⟨y,?_,_,rfl,t,by rw[cj];exact c.cellAt 1 rfl 0,Al.i c (λq H g=>?_)⟩
   ·rw[dt,fY];have:((a.add 0).add j)=a.add j:=by cases a;unfold Addr.add;simp
    rw[this];exact d
   ·have e:min1 (eR y 0) 4096=min (max y 0) 4096:=by unfold min1 eR;split<;>split<;>omega
    have g:Sep E (bD q [Iv (min (max y 0) 4096)]::bw t 1 (bC ((g7 l).bU.take j))::bD p [Sv t,.map (some m),Iv 0]::cM m lM (λ_=>none)::L) H:=by rw[<- e];exact g
    refine PR i (by rw[gT];omega) g (λD O f k=>?_);rw[<- take_succ r]at f k;refine⟨_,rfl,?_⟩;refine cQ.j k.swap (show 0+0<3 by decide) (λQ z=>?_);exact⟨⟨j+1,c4,bu,D,f,z.swap⟩,by dsimp only;rw[c4];omega⟩
 ·have:j=min l.length 32:=by omega
  subst this;have e:(g7 l).bU.take (min l.length 32)=(g7 l).bU:=iq bu;rw[e]at i c;exact⟨p,rfl,iK.mk (F:=g7 l) i (by rw[o];omega) (c.ro 3 [1,0,2] rfl)⟩
def c8:bA Nat->Nat
 |[]=>0
 |k::l=>k+c8 l
def wb:∀(a b:bA Nat),c8 (a++b)=c8 a+c8 b
 |[],b=>by simp[c8]
 |x::a,b=>by show x+c8 (a++b)=x+c8 a+c8 b;rw[wb a b];omega
def EJ(l:bA Nat)(k:Nat):c8 (l.take k)<=c8 l:=by
 have:=wb (l.take k) (l.drop k);rw[fP]at this;omega
def ints(l:bA Nat):bS:=l.map Int.ofNat
def wc{l:bA Nat}{k x:Nat}(h:l[k]?=some x):(ints l)[k]?=some (x:Int):=by unfold ints;rw[ez,h];rfl
def tS(l:bA Nat):(ints l).length=l.length:=by simp[ints]
def PX{s:Sl}{ws:bA Nat}(d:Ints E L s (ints ws))(c:∀k∈ws,k<=62)(i:c8 ws<=64)(hb:ws.length<1000)(h:Sep E L w):Calls P DF #[Sv s] w (cC λv w'=>v=.tuple #[Iv (c8 ws:Nat),.bool true]/\w'=w):=by
 apply YC;unfold MZ qD qI qW;have hn:=d.1;rw[tS]at hn;refine⟨λn x w'=>w'=w/\∃k:Nat,x=k/\k<=ws.length/\n=(c8 (ws.take k):Nat),λ_ x _=>(ws.length-x).toNat,⟨rfl,0,rfl,dX _,rfl⟩,?_⟩;rintro _ n x m ⟨rfl,k,rfl,hk,rfl⟩;refine cU (λl=>?_) (λj=>?_)
 ·obtain⟨y,b⟩:∃y,ws[k]?=some y:=⟨_,du⟩
  have g:=c y (eG b);have f:c8 (ws.take (k+1))=c8 (ws.take k)+y:=by rw[take_succ b,wb];rfl
  have hle:=EJ ws (k+1);refine d.el h k rfl (wc b) ?_;have e:i64.wrap (((c8 (ws.take k):Nat):Int)+(y:Int))=((c8 (ws.take (k+1)):Nat):Int):=by rw[f,cX bu bu];omega
  rw[e];refine cU (λa=>absurd a bu) (λ_=>gv (λa=>absurd a bu) (λ_=>gv (λa=>absurd a bu) (λ_=>?_)));exact⟨⟨rfl,k+1,c4,bu,rfl⟩,by dsimp only;rw[c4];omega⟩
 ·have:k=ws.length:=by omega
  subst this;rw[fB];exact⟨rfl,rfl⟩
def p2(k:Nat):(2:Int)^k=((2^k:Nat):Int):=by push_cast;rfl
def PY{k:Nat}(hk:k<=62)(w:bI):Calls P DG #[Iv (k:Nat)] w (cC λv w'=>v=.int .u64 ((2^k-1:Nat):Int)/\w'=w):=by
 apply YD;unfold M0;have hp:=tH (k:=k) bu;have a:=Bi k;rw[dA (n:=k) bu,show(min ((k:Nat):Int).toNat 64)=k by rw[dt];omega,Int.one_mul,p2,dA hp,show(((2^k:Nat):Int)-1)=((2^k-1:Nat):Int) by omega,dA];exact⟨bu,rfl,rfl⟩
def fields:bA Nat->Nat->bA Nat
 |[],_=>[]
 |k::ws,x=>x%2^k::fields ws (x/2^k)
def e6:∀(ws:bA Nat) (x:Nat),(fields ws x).length=ws.length
 |[],_=>rfl
 |k::ws,x=>by show(fields ws _).length+1=_;rw[e6 ws];rfl
def PZ:∀ {ws:bA Nat} {x k y:Nat},ws[k]?=some y->(fields ws x)[k]?=some (x/2^c8 (ws.take k)%2^y)
 |[],_,_,_,h=>by simp at h
 |z::ws,x,0,y,h=>by
  simp only[k1,fT]at h;subst h;show some _=_;simp[c8]
 |z::ws,x,k+1,y,h=>by
  show(fields ws (x/2^z))[k]?=_;rw[PZ (by simpa using h),G6,<- Nat.pow_add];rfl
def P0{s:Sl}{ws:bA Nat}(g:Ints E L s (ints ws))(d:∀k∈ws,k<=62)(J:c8 ws<64)(hb:ws.length<1000){x:Nat}(hx:x<18446744073709551616)(h:Sep E L w):
  Calls P Dc #[Sv s,.int .u64 (x:Nat)] w (cC λv w'=>(x/2^c8 ws=0/\∃t:Sl,v=.tuple #[Sv t,Iv 0]/\t.n=ws.length/\Sep E (bw t 1 (bC (ints (fields ws x)))::L) w')\/
   (x/2^c8 ws≠0/\v=.tuple #[aP8,Iv 1]/\Sep E L w')):=by
 apply XR;unfold Mn qC qD qW qg qp zU zV;dsimp only;have hn:=g.1;rw[tS]at hn;refine use (PX g d bu hb h) ?_;rintro _ H ⟨rfl,rfl⟩;refine⟨_,_,rfl,λw'=>w'=H/\x/2^c8 ws=0,dQ (cU (λ_=>?_) (λC=>absurd C bu)),?_⟩
 ·rw[dA (n:=c8 ws) bu,show(min ((c8 ws:Nat):Int).toNat 64)=c8 ws by rw[dt];omega,sh];refine⟨bu,g0 (λN=>?_) (λhe=>?_)⟩;·exact .inr ⟨bu,rfl,h⟩
  ·exact⟨rfl,bu⟩
 ·rintro _ w2 ⟨rfl,u⟩;refine⟨λy t i w'=>∃k:Nat,i=k/\k<=ws.length/\y=((x/2^c8 (ws.take k):Nat):Int)/\t.n=((ints (fields ws x)).take k).length/\Sep E (bw t 1 (bC ((ints (fields ws x)).take k))::L) w',λ_ _ i _=>(ws.length-i).toNat,
   ⟨0,rfl,dX _,by simp[c8],rfl,bw.none_ h⟩,?_⟩
  rintro _ y t i I ⟨k,rfl,hk,rfl,l,b⟩;refine cU (λM=>?_) (λK=>?_)
  ·obtain⟨z,c⟩:∃z,ws[k]?=some z:=⟨_,du⟩
   have m:=d z (eG c);have D:c8 (ws.take (k+1))=c8 (ws.take k)+z:=by rw[take_succ c,wb];rfl
   refine(g.cons (A:=bw t 1 (bC ((ints (fields ws x)).take k)))).el b k rfl (wc c) (use (PY m I) ?_);rintro _ Q ⟨rfl,rfl⟩;refine⟨_,rfl,?_⟩;have hp:=tH (k:=z) bu;have p:=Bi z;have j:x/2^c8 (ws.take k)<18446744073709551616:=Bc (Hu _ _) hx;have G:2^z<9223372036854775808:=Hb (a:=2) (n:=63) bN bu;have r:i64.wrap (dy .u64 (((x/2^c8 (ws.take k):Nat):Int)) (((2^z-1:Nat):Int)))=((x/2^c8 (ws.take k)%2^z:Nat):Int):=by
    rw[tA j bu,uB];have:=k4 (x/2^c8 (ws.take k)) p;exact cX bu bu
   rw[r];have F:(ints (fields ws x))[k]?=some ((x/2^c8 (ws.take k)%2^z:Nat):Int):=wc (PZ c);refine Al.i b (λq R B=>PR l (by rw[gT,tS,e6];omega) B (λO S f o=>?_));rw[<- take_succ F]at f o;rw[dA (n:=z) bu,show(min ((z:Nat):Int).toNat 64)=z by rw[dt];omega,sh];refine⟨bu,⟨k+1,c4,bu,?_,f,o⟩,by dsimp only;rw[c4];omega⟩;rw[D,Nat.pow_add,<- G6]
  ·have:k=ws.length:=by omega
   subst this;have e:(ints (fields ws x)).take ws.length=ints (fields ws x):=iq (by rw[tS,e6];omega);rw[e]at l b;exact .inl ⟨u,t,rfl,by rw[l,tS,e6],b⟩
def jN:bA Nat->bA Nat->Nat
 |k::ws,v::vs=>v+2^k*jN ws vs
 |_,_=>0
def EK:∀ {ws vs:bA Nat},(∀(k y v:Nat),ws[k]?=some y->vs[k]?=some v->v<2^y)->jN ws vs<2^c8 ws
 |[],_,_=>by show 0<2^0;decide
 |k::ws,[],_=>Bi _
 |k::ws,v::vs,h=>by
  have b:=h 0 k v rfl rfl;have h1:=EK (ws:=ws) (vs:=vs) (λi y u a hu=>h (i+1) y u (by simpa using a) (by simpa using hu));show v+2^k*jN ws vs<2^(k+c8 ws);rw[Nat.pow_add];have:2^k*jN ws vs+2^k<=2^k*2^c8 ws:=by
   rw[<- Nat.mul_succ];exact Nat.mul_le_mul_left _ h1
  omega
def P1:∀ {ws vs:bA Nat} {k y v:Nat},ws[k]?=some y->vs[k]?=some v->jN (ws.take (k+1)) (vs.take (k+1))=jN (ws.take k) (vs.take k)+2^c8 (ws.take k)*v
 |[],_,_,_,_,h,_=>by simp at h
 |_::_,[],_,_,_,_,h=>by simp at h
 |z::ws,u::vs,0,y,v,h1,h2=>by
  simp only[k1,fT]at h1 h2;subst h1 h2;simp[jN,c8]
 |z::ws,u::vs,k+1,y,v,h1,h2=>by
  have a:=P1 (ws:=ws) (vs:=vs) (k:=k) (y:=y) (v:=v) (by simpa using h1) (by simpa using h2);show u+2^z*jN (ws.take (k+1)) (vs.take (k+1))=(u+2^z*jN (ws.take k) (vs.take k))+2^(z+c8 (ws.take k))*v;rw[a,nB,Nat.pow_add,HD,uR]
def aLL{a k v:Nat}(b:a<2^k):a ||| (2^k*v)=a+2^k*v:=by
 rw[Nat.or_comm,<- G0 b,sI]
def P2{s t:Sl}{ws vs:bA Nat}(A:Ints E L s (ints ws))(D:Ints E L t (ints vs))(q:∀k∈ws,k<=62)(Q:c8 ws<=63)(hb:ws.length<1000)(hl:vs.length=ws.length)(C:∀u∈vs,u<9223372036854775808)(h:Sep E L w):
  Calls P DY #[Sv s,Sv t] w (cC λv w'=>(((∀(k y u:Nat),ws[k]?=some y->vs[k]?=some u->u<2^y)/\v=.tuple #[.int .u64 (jN ws vs:Nat),Iv 0])\/((¬ ∀(k y u:Nat),ws[k]?=some y->vs[k]?=some u->u<2^y)/\v=.tuple #[.int .u64 0,Iv 1]))/\w'=w):=by
 apply Zs;unfold NJ qD qW qg qp zA zU;have hn:=A.1;have F:=D.1;rw[tS]at hn F;refine⟨λw'=>w'=w,use (PX A q bu hb h) ?_,?_⟩
 ·rintro _ G ⟨rfl,rfl⟩;exact⟨_,_,rfl,dQ (g0 (λf=>absurd (show((t.n:Nat):Int)=((s.n:Nat):Int) by omega) f) (λ_=>rfl))⟩
 ·rintro _ G rfl;refine⟨λx low i w'=>w'=G/\∃k:Nat,i=k/\k<=ws.length/\x=((jN (ws.take k) (vs.take k):Nat):Int)/\low=((c8 (ws.take k):Nat):Int)/\∀(j y u:Nat),j<k->ws[j]?=some y->vs[j]?=some u->u<2^y,λ_ _ i _=>(ws.length-i).toNat,
   ⟨rfl,0,rfl,dX _,by simp[jN],rfl,λj _ _ g=>bu⟩,?_⟩
  rintro _ x low i w2 ⟨rfl,k,rfl,hk,rfl,rfl,b⟩;refine cU (λS=>?_) (λR=>?_)
  ·obtain⟨y,c⟩:∃y,ws[k]?=some y:=⟨_,du⟩
   obtain⟨u,hu⟩:∃u,vs[k]?=some u:=⟨_,du⟩
   have B:=q y (eG c);have M:c8 (ws.take (k+1))=c8 (ws.take k)+y:=by rw[take_succ c,wb];rfl
   have hle:=EJ ws (k+1);refine A.el h k rfl (wc c) (D.el h k rfl (wc hu) ?_);have T:=Bi y;have N:2^y<9223372036854775808:=Hb (a:=2) (n:=63) bN bu;have bad:¬ u<2^y->¬ ∀(k y u:Nat),ws[k]?=some y->vs[k]?=some u->u<2^y:=λf b=>f (b k y u c hu);refine⟨λw'=>w'=w2/\u<2^y,cU (λf=>absurd f bu) (λ_=>use (PY B w2) ?_),?_⟩
   ·rintro _ O ⟨rfl,rfl⟩;refine⟨_,rfl,?_⟩;have J:=C u (eG hu);rw[dA (n:=u) bu];exact gv (λf=>⟨.inr ⟨bad bu,rfl⟩,rfl⟩) (λf=>⟨rfl,bu⟩)
   ·rintro _ O ⟨rfl,z⟩;have K:c8 (ws.take k)<64:=by have:=EJ ws k;omega
    have r:jN (ws.take k) (vs.take k)<2^c8 (ws.take k):=EK (λj o m h1 h2=>by
     rw[pI]at h1 h2;split at h1;·next g=>rw[bK g]at h2;exact b j o m g h1 h2
     ·cases h1)
    have p:jN (ws.take (k+1)) (vs.take (k+1))<2^c8 (ws.take (k+1)):=EK (λj o m h1 h2=>by
     rw[pI]at h1 h2;split at h1
     ·next g=>
      rw[bK g]at h2;rcases hE j k with e|e;·exact b j o m e h1 h2
      ·have:j=k:=by omega
       subst this;rw[c]at h1;rw[hu]at h2;rw[<- cV h1,<- cV h2];exact z
     ·cases h1)
    have d:jN (ws.take (k+1)) (vs.take (k+1))<18446744073709551616:=lr p (uD (n:=2) bN (show c8 (ws.take (k+1))<=64 by omega));have l:=P1 c hu;have H:ji .u64 ((jN (ws.take k) (vs.take k):Nat):Int) (u64.wrap ((u64.wrap (u:Int))*2^(min ((c8 (ws.take k):Nat):Int).toNat 64)))=((jN (ws.take (k+1)) (vs.take (k+1)):Nat):Int):=by
     rw[show(min ((c8 (ws.take k):Nat):Int).toNat 64)=c8 (ws.take k) by rw[dt];omega,dA (n:=u) bu,p2,<- uO,xG,dA (by rw[l]at d;exact Bc (Nat.le_add_left _ _) d),vT (lr r (uD (n:=2) bN (show c8 (ws.take k)<=64 by omega))) (by rw[l]at d;exact Bc (Nat.le_add_left _ _) d),aLL r,<- l]
    have I:u64.wrap (((c8 (ws.take k):Nat):Int)+(u64.wrap (y:Int)))=((c8 (ws.take (k+1)):Nat):Int):=by
     rw[dA (n:=y) bu,<- Hv,dA,M]
    rw[H,I];refine⟨bu,⟨rfl,k+1,c4,bu,rfl,rfl,λj o m g h1 h2=>?_⟩,by dsimp only;rw[c4];omega⟩;rcases hE j k with e|e;·exact b j o m e h1 h2
    ·have:j=k:=by omega
     subst this;rw[c]at h1;rw[hu]at h2;rw[<- cV h1,<- cV h2];exact z
  ·have:k=ws.length:=by omega
   subst this;refine⟨.inl ⟨λk y u c hu=>b k y u (c2.1 c).1 c hu,?_⟩,rfl⟩;rw[fB,iq bu]
end Go.Mp
namespace Go.Mp
open Go Go.Vc Go.Sp Go.Proofs Go.Kc Go.Kv Go.Kw
variable{E:Env}{L:cr}{w W:bI}
def _root_.Go.Kw.En.vs(e:En):bA bH:=[Iv e.k,Iv e.id,.bool e.wr,.bool e.tc]
def wid:bA Nat:=[2,24,1,1]
def P3(h:Sep E L w):Calls P Dd #[] w (cC λv w'=>∃p,v=.slice (some ⟨p,0,none⟩) 4 4/\Sep E (bD p (bC (ints wid))::L) w'):=by
 apply axM;unfold O1 qC;exact Al.i h (λp a h1=>⟨p,rfl,h1⟩)
def P4(b:Bool)(w:bI):Calls P DZ #[.bool b] w (cC λv w'=>v=Iv (b.toNat:Int)/\w'=w):=by
 apply aBW;exact cy (λh=>by subst h;exact⟨rfl,rfl⟩) (λh=>by subst h;exact⟨rfl,rfl⟩)
def P5{e:En}(hk:e.k=1\/e.k=2)(h:Sep E L w):Calls P De #[.agg e.vs.toArray] w (cZ E (.bool true) L):=by
 apply ayV;unfold O2 qL zn;refine Al.i h (λp a h1=>ld h1 0 rfl rfl (x:=(e.k:Int)) rfl ?_);refine bF (by rcases hk with hk|hk<;>rw[hk]<;>rfl) (ld h1 0 rfl rfl (x:=(e.k:Int)) rfl ?_);rcases hk with hk|hk;·exact bT (by rw[hk];rfl) ⟨rfl,h1.tail⟩
 ·exact bF (by rw[hk];rfl) (ld h1 0 rfl rfl (x:=(e.k:Int)) rfl ⟨by rw[hk];rfl,h1.tail⟩)
def aIG(e:En):jN wid [e.k,e.id,e.wr.toNat,e.tc.toNat]=e.enc:=by
 simp only[wid,jN,En.enc];omega
def Ad{e:En}(h:e.ok):e.enc<268435456:=by
 obtain⟨hk,a⟩:=h;have:=nz e.wr;have:=nz e.tc;unfold En.enc;omega
def aKe{e:En}(hk:e.k=1\/e.k=2)(eD:e.id<9223372036854775808)(h:Sep E L w):Calls P KD #[.agg e.vs.toArray] w (cZ E (if e.id<16777216 then .tuple #[.int .u64 (e.enc:Nat),Iv 0]else .tuple #[.int .u64 0,Iv 1]) L):=by
 apply aAo;unfold Ph qC qF qJ qQ zB zH za zn;refine Al.i h (λp o h1=>ld h1 0 rfl rfl (x:=(e.k:Int)) rfl (ld h1 0 rfl rfl (x:=(e.id:Int)) rfl (ld h1 0 rfl rfl (x:=e.wr) rfl (ld h1 0 rfl rfl (x:=e.tc) rfl ?_))));have h1:Sep E (bD p e.vs::L) o:=h1;refine use (P5 hk h1) ?_;rintro _ w2 ⟨rfl,h2⟩;refine⟨_,rfl,bF rfl (Dr.i h2 (λA f=>ld f 0 rfl rfl (x:=(e.k:Int)) rfl (ld f 0 rfl rfl (x:=(e.id:Int)) rfl (ld f 0 rfl rfl (x:=e.wr) rfl (ld f 0 rfl rfl (x:=e.tc) rfl (use (P3 f) ?_))))))⟩;rintro _ B ⟨q,rfl,d⟩;refine⟨⟨some ⟨q,0,none⟩,4,4⟩,rfl,ld d 1 rfl rfl (x:=e.tc) rfl ⟨rfl,ld d 1 rfl rfl (x:=e.wr) rfl ⟨rfl,ld d 1 rfl rfl (x:=(e.id:Int)) rfl ⟨rfl,ld d 1 rfl rfl (x:=(e.k:Int)) rfl ⟨rfl,use (P4 e.wr _) ?_⟩⟩⟩⟩⟩;rintro _ _ ⟨rfl,rfl⟩;refine⟨_,rfl,ld d 1 rfl rfl (x:=e.tc) rfl ⟨rfl,ld d 1 rfl rfl (x:=(e.id:Int)) rfl ⟨rfl,ld d 1 rfl rfl (x:=(e.k:Int)) rfl ⟨rfl,use (P4 e.tc _) ?_⟩⟩⟩⟩;rintro _ _ ⟨rfl,rfl⟩;refine⟨_,rfl,ld d 1 rfl rfl (x:=(e.id:Int)) rfl ⟨rfl,ld d 1 rfl rfl (x:=(e.k:Int)) rfl ⟨rfl,Al.i d (λr z g=>?_)⟩⟩⟩;have g:Sep E (bD r (bC (ints [e.k,e.id,e.wr.toNat,e.tc.toNat]))::bD q (bC (ints wid))::bD p e.vs::L) z:=g;have m:=P2 (s:=⟨some ⟨q,0,none⟩,4,4⟩) (t:=⟨some ⟨r,0,none⟩,4,4⟩) (ws:=wid) (vs:=[e.k,e.id,e.wr.toNat,e.tc.toNat]) (Ints.h0 (b:=q) (c:=4) (gs:=ints wid) (q:=1) rfl) (Ints.h0 (b:=r) (c:=4) (gs:=ints [e.k,e.id,e.wr.toNat,e.tc.toNat]) (q:=0) rfl) bN bN bN rfl
  (λu hu=>by
   have:=nz e.wr;have:=nz e.tc;simp only[eH,uN,uT]at hu;omega) g
 refine use m ?_;rintro _ C ⟨n,rfl⟩;rcases n with⟨l,rfl⟩|⟨j,rfl⟩
 ·refine⟨_,_,rfl,?_,g.tail.tail.tail⟩;have i:e.id<2^24:=l 1 24 e.id rfl rfl;rw[eV,aIG]
 ·refine⟨_,_,rfl,?_,g.tail.tail.tail⟩;rw[bJ];intro i;apply j;have:=nz e.wr;have:=nz e.tc;intro k y u a hu
  match k,a,hu with
  |0,a,hu=>simp[wid]at a hu;subst a hu;omega
  |1,a,hu=>simp[wid]at a hu;subst a hu;omega
  |2,a,hu=>simp[wid]at a hu;subst a hu;omega
  |3,a,hu=>simp[wid]at a hu;subst a hu;omega
  |k+4,a,_=>simp[wid]at a
def aER{e:En}(h:e.ok):fields wid e.enc= [e.k,e.id,e.wr.toNat,e.tc.toNat]:=by
 obtain⟨hk,a⟩:=h;have:=nz e.wr;have:=nz e.tc;simp only[wid,fields,En.enc];congr 1;·omega
 congr 1;·omega
 congr 1;·omega
 congr 1;omega
def P6{x k:Nat}(hx:x<18446744073709551616)(hk:k<64):dy .u64 (x:Int) ((2^k:Nat):Int)=((if x/2^k%2=1 then 2^k else 0:Nat):Int):=by
 have h2:(2:Nat)^k<18446744073709551616:=Hb bN hk (n:=64);rw[tA hx h2];congr 1;apply xt;intro i;rw[Nat.testBit_and,sE];have e:(x.testBit k=true)↔x/2^k%2=1:=by rw[be7,gD]
 by_cases b:k=i
 ·subst b;split;·next a=>rw[e.2 a,Nat.testBit_two_pow_self];simp
  ·next a=>
   have:x.testBit k=false:=by
    cases hb:x.testBit k with
    |false=>rfl
    |true=>exact absurd (e.1 hb) a
   rw[this];simp
 ·split;·rw[sE];simp[b]
  ·simp[b]
def aLb{e:En}(h:e.ok):(dy .u64 (e.enc:Int) 67108864 !=0)=e.wr:=by
 have hl:=Ad h;have h1:=P6 (x:=e.enc) (k:=26) bu bN;have h1:dy .u64 (e.enc:Int) 67108864=((if e.enc/2^26%2=1 then 2^26 else 0:Nat):Int):=h1;obtain⟨hk,b⟩:=h;have:=nz e.wr;have:=nz e.tc;have a:e.enc/2^26%2=e.wr.toNat:=by unfold En.enc;omega
 rw[h1,a];cases e.wr<;>rfl
def aLa{e:En}(h:e.ok):(dy .u64 (e.enc:Int) 134217728 !=0)=e.tc:=by
 have hl:=Ad h;have h1:=P6 (x:=e.enc) (k:=27) bu bN;have h1:dy .u64 (e.enc:Int) 134217728=((if e.enc/2^27%2=1 then 2^27 else 0:Nat):Int):=h1;obtain⟨hk,b⟩:=h;have:=nz e.wr;have:=nz e.tc;have a:e.enc/2^27%2=e.tc.toNat:=by unfold En.enc;omega
 rw[h1,a];cases e.tc<;>rfl
def P7{e:En}(ho:e.ok)(h:Sep E L w):Calls P CT #[.int .u64 (e.enc:Nat)] w (cZ E (.tuple #[.agg e.vs.toArray,Iv 0]) L):=by
 apply axL;unfold OO qD qF qJ qU qW zF zG zn zu;have hl:=Ad ho;refine Al.i h (λp A h1=>use (P3 h1) ?_);rintro _ w2 ⟨q,rfl,h2⟩;have o:=P0 (s:=⟨some ⟨q,0,none⟩,4,4⟩) (ws:=wid) (Ints.h0 (b:=q) (c:=4) (gs:=ints wid) (q:=0) rfl) bN bN bN (x:=e.enc) bu h2;refine⟨⟨some ⟨q,0,none⟩,4,4⟩,rfl,use o ?_⟩;have u:c8 wid=28:=rfl;rw[u,aER ho];rintro _ B (⟨_,t,rfl,l,m⟩|⟨k,_⟩)
 ·obtain⟨b,sp,hp,_,_,_,n⟩:=bw.iB m (by rw[l];decide);have g:t.n=4:=l;refine⟨t,_,rfl,bF rfl (Dr.i n (λC i=>⟨_,hp,⟨bN,by rw[g];decide⟩,ld i 0 rfl rfl (x:=(e.k:Int)) rfl ⟨_,hp,⟨bN,by rw[g];decide⟩,ld i 0 rfl rfl (x:=(e.id:Int)) rfl (Al.i i (λr D j=>?_))⟩⟩))⟩;refine ld j 1 rfl rfl (x:=(e.id:Int)) rfl ⟨rfl,ld j 1 rfl rfl (x:=(e.k:Int)) rfl ⟨rfl,ey _ j rfl (λy a=>?_)⟩⟩;rw[aLb ho,aLa ho]at a;have a:Sep E (bD r e.vs::bD b _::bD q _::bD p _::L) y:=a;refine ld a 0 rfl rfl (x:=(e.k:Int)) rfl (ld a 0 rfl rfl (x:=(e.id:Int)) rfl (ld a 0 rfl rfl (x:=e.wr) rfl (ld a 0 rfl rfl (x:=e.tc) rfl (use (P5 ho.1 a) ?_))));rintro _ F ⟨rfl,f⟩;refine⟨_,rfl,bF rfl (ld f 0 rfl rfl (x:=(e.k:Int)) rfl (ld f 0 rfl rfl (x:=(e.id:Int)) rfl (ld f 0 rfl rfl (x:=e.wr) rfl (ld f 0 rfl rfl (x:=e.tc) rfl (ey _ (f.fr 3 rfl) rfl (λz d=>?_))))))⟩;have d:Sep E (bD p e.vs::bD r e.vs::bD b _::bD q _::L) z:=d;exact ld d 0 rfl rfl (x:=(e.k:Int)) rfl (ld d 0 rfl rfl (x:=(e.id:Int)) rfl (ld d 0 rfl rfl (x:=e.wr) rfl (ld d 0 rfl rfl (x:=e.tc) rfl ⟨rfl,d.tail.tail.tail.tail⟩)))
 ·exact absurd bu k
def aKf{e:En}(ho:e.ok)(h:Sep E L w):Calls P Kj #[.int .u64 (e.enc:Nat)] w (cZ E (.bool true) L):=by
 apply aAp;unfold Pd qL qU zt zu;refine use (P7 ho h) ?_;rintro _ b ⟨rfl,h1⟩;refine⟨_,_,_,_,_,rfl,Al.i h1 (λp w2 h2=>ey _ h2 rfl (λc a=>bT rfl (ld a 0 rfl rfl (x:=(e.k:Int)) rfl ⟨?_,a.tail⟩)))⟩;obtain⟨hk|hk,_⟩:=ho<;>rw[hk]<;>rfl
def _root_.Go.Kw.En.cq(e:En):En:={e with tc:=true}
def EL{e:En}(h:e.ok):ji .u64 (e.enc:Int) 134217728=(e.cq.enc:Int):=by
 have hl:=Ad h;obtain⟨hk,i⟩:=h;have:=nz e.wr;have h1:ji .u64 (e.enc:Int) ((2^27:Nat):Int)=((e.enc ||| 2^27:Nat):Int):=vT bu bN;have h1:ji .u64 (e.enc:Int) 134217728=((e.enc ||| 2^27:Nat):Int):=h1;rw[h1];congr 1;obtain⟨x,hx⟩:∃x,e.k+4*e.id+67108864*e.wr.toNat=x:=⟨_,rfl⟩
 have a:x<2^27:=by omega
 have d:e.cq.enc=x+134217728*true.toNat:=by rw[<- hx];rfl
 have g:e.enc=x+134217728*e.tc.toNat:=by rw[<- hx];rfl
 rw[Bool.toNat_true,fY]at d;rw[d,g];cases e.tc with
 |false=>
  rw[Bool.toNat_false,Nat.mul_zero,l2,Nat.or_comm];have c:=G0 a 1;rw[fY]at c;have f:134217728+x=2^27 ||| x:=c;rw[sI];exact f.symm
 |true=>
  rw[Bool.toNat_true,fY];have b:=G0 a 1;have b:134217728+x=134217728 ||| x:=b;rw[sI,b,Nat.or_comm,<- Nat.or_assoc,show 2^27 ||| 134217728=134217728 by decide]
def aIp{e:En}(ho:e.ok)(h:Sep E L w):Calls P JX #[.int .u64 (e.enc:Nat)] w (cZ E (.int .u64 (e.cq.enc:Nat)) L):=by
 apply ayU;unfold OY qF;refine use (aKf ho h) ?_;rintro _ a ⟨rfl,h1⟩;exact⟨_,rfl,bT rfl ⟨by rw[EL ho],h1⟩⟩
end Go.Mp
namespace Go.Kw
open Go Go.Kc Go.Kv
structure Tok(T:c7):Prop where
 c1:T.Pairwise λx y=>x.1<y.1
 low:∀q∈T,q.1<65536/\q.2.ok
def n3(R:RT 3)(T:c7):Prop:=∀p:Nat,p<65536->RT.look 3 R p=(dV T p).map En.enc
def tT{p:Nat}{e:En}:∀ {T:c7},dV T p=some e->(p,e)∈T
 |[],h=>by cases h
 |(q,f)::r,h=>by
  unfold dV at h;split at h;·next a=>cases h;subst a;exact fS
  ·exact gn _ (tT h)
def tU{p:Nat}{e:En}:∀ {T:c7},T.Pairwise (λx y=>x.1<y.1)->(p,e)∈T->dV T p=some e
 |[],_,h=>by cases h
 |(q,f)::r,hr,h=>by
  obtain⟨h1,h2⟩:=ht.1 hr;unfold dV;rcases eH.1 h with h|h;·cases h;rw[bK rfl]
  ·have:=h1 _ h;rw[bJ (by have:q<p:=this;omega)];exact tU h2 h
def Tok.get{T:c7}(h:Tok T){p:Nat}{e:En}(a:dV T p=some e):p<65536/\e.ok:=h.low _ (tT a)
def Tok.filter{T:c7}(h:Tok T)(f:Nat×En->Bool):Tok (T.filter f):=⟨h.c1.filter f,λq a=>h.low q (gp.1 a).1⟩
def EM{p:Nat}{e:En}{x:Nat×En}:∀ {T:c7},x∈fa T p e->x=(p,e)\/x∈T
 |[],h=>.inl (by simpa[fa]using h)
 |(q,f)::r,h=>by
  unfold fa at h;split at h
  ·rcases eH.1 h with h|h;·exact .inl h
   ·exact .inr h
  ·split at h
   ·rcases eH.1 h with h|h;·exact .inl h
    ·exact .inr (gn _ h)
   ·rcases eH.1 h with h|h;·exact .inr (h▸fS)
    ·exact(EM h).imp id (gn _)
def P8{p:Nat}{e:En}:∀ {T:c7},T.Pairwise (λx y=>x.1<y.1)->(fa T p e).Pairwise (λx y=>x.1<y.1)
 |[],_=>by simp[fa]
 |(q,f)::r,h=>by
  obtain⟨h1,h2⟩:=ht.1 h;unfold fa;split
  ·next b=>
   refine ht.2 ⟨λy a=>?_,h⟩;rcases eH.1 a with rfl|a;·exact b
   ·have c:q<y.1:=h1 y a;show p<y.1;omega
  ·split;·next hle he=>subst he;exact ht.2 ⟨h1,h2⟩
   ·next hle he=>
    refine ht.2 ⟨λy a=>?_,P8 h2⟩;rcases EM a with rfl|a;·show q<p;omega
    ·exact h1 y a
def Tok.set{T:c7}(h:Tok T){p:Nat}{e:En}(hp:p<65536)(he:e.ok):Tok (fa T p e):=
 ⟨P8 h.c1,λq a=>(EM a).elim (λe=>by subst e;exact⟨hp,he⟩) (h.low q)⟩
def we{p q:Nat}{e:En}:∀ {T:c7},T.Pairwise (λx y=>x.1<y.1)->dV (fa T p e) q=if q=p then some e else dV T q
 |[],_=>by
  show(if p=q then some e else none)=if q=p then some e else none
  by_cases h:p=q;·rw[bK h,bK h.symm]
  ·rw[bJ h,bJ λe=>h e.symm]
 |(k,f)::r,h=>by
  obtain⟨h1,h2⟩:=ht.1 h;unfold fa;split
  ·next a=>
   show(if p=q then some e else dV ((k,f)::r) q)=_;by_cases h:p=q;·rw[bK h,bK h.symm]
   ·rw[bJ h,bJ λe=>h e.symm]
  ·split
   ·next hle he=>
    subst he;show(if p=q then some e else dV r q)=if q=p then some e else if p=q then some f else dV r q
    by_cases h:p=q;·rw[bK h,bK h.symm]
    ·rw[bJ h,bJ (λe=>h e.symm),bJ h]
   ·next hle he=>
    show(if k=q then some f else dV (fa r p e) q)=if q=p then some e else if k=q then some f else dV r q
    rw[we h2];by_cases h:k=q;·rw[bK h,bK h,cK]
    ·rw[bJ h,bJ h]
def EN{p q:Nat}:∀ {T:c7},dV (T.filter λx=>x.1 !=p) q=if q=p then none else dV T q
 |[]=>by simp[dV]
 |(k,f)::r=>by
  rw[jR];by_cases hk:k=p
  ·subst hk;rw[bJ (by simp),EN];by_cases h:q=k;·rw[bK h,bK h]
   ·rw[bJ h,bJ h];show dV r q=if k=q then some f else dV r q;rw[bJ λe=>h e.symm]
  ·rw[bK (by simpa using hk)];show(if k=q then some f else dV (r.filter λx=>x.1 !=p) q)=if q=p then none else if k=q then some f else dV r q
   rw[EN];by_cases h:k=q;·subst h;rw[bK rfl,bJ hk,bK rfl]
   ·rw[bJ h,bJ h]
def P9:∀ {a b:bA Nat},a.Pairwise (· < ·)->b.Pairwise (· < ·)->(∀x,x∈a↔x∈b)->a=b
 |[],[],_,_,_=>rfl
 |[],y::b,_,_,h=>absurd ((h y).2 fS) (by simp)
 |x::a,[],_,_,h=>absurd ((h x).1 fS) (by simp)
 |x::a,y::b,i,hb,h=>by
  obtain⟨f,g⟩:=ht.1 i;obtain⟨b1,b2⟩:=ht.1 hb;have e:x=y:=by
   rcases eH.1 ((h x).1 fS)with e|e;·exact e
   ·rcases eH.1 ((h y).2 fS)with d|d;·exact d.symm
    ·have:=b1 x e;have:=f y d;omega
  subst e;congr 1;refine P9 g b2 λz=>⟨λc=>?_,λc=>?_⟩
  ·rcases eH.1 ((h z).1 (gn _ c))with e|e;·subst e;exact absurd (f z c) (uQ _)
   ·exact e
  ·rcases eH.1 ((h z).2 (gn _ c))with e|e;·subst e;exact absurd (b1 z c) (uQ _)
   ·exact e
end Go.Kw
namespace Go.Kv
def aHh{t:RT 0}{p:Nat}:slot 0 t (p%16)=(RT.look 0 t p).isSome:=rfl
def Ae:∀(n:Nat) (t:RT n) (a p:Nat),p∈kR n t a↔p/16^(n+1)=a/\(RT.look n t p).isSome=true
 |0,t,a,p=>by
  rw[r5,Bg];have ho:∀d,p∈h3 0 t a d↔slot 0 t d=true/\p=a*16+d:=by
   intro d;show p∈(if(List.getD (t:bA (bX Nat)) d none).isSome then[a*16+d]else[])↔(List.getD (t:bA (bX Nat)) d none).isSome=true/\_;split;·next h=>simp[h]
   ·next h=>simp[h]
  constructor
  ·rintro⟨d,b,h⟩;obtain⟨h1,rfl⟩:=(ho d).1 h;have b:=gq.1 b;refine⟨bu,?_⟩;rw[<- aHh,show(a*16+d)%16=d by omega];exact h1
  ·rintro⟨h1,h2⟩;rw[Nat.pow_one]at h1;exact⟨p%16,gq.2 (k4 _ bN),(ho _).2 ⟨h2,bu⟩⟩
 |n+1,t,a,p=>by
  rw[r5,Bg];have ho:∀d,p∈h3 (n+1) t a d↔∃k s,Mp.g1 t d=some (k,s)/\p∈kR n s (a*16+d):=by
   intro d;show p∈(match Mp.g1 t d with|none=>[]|some (_,s)=>kR n s (a*16+d))↔_;cases Mp.g1 t d with
   |none=>simp
   |some y=>exact⟨λh=>⟨y.1,y.2,rfl,h⟩,λ⟨k,s,e,h⟩=>by cases e;exact h⟩
  have c:p/16^(n+1+1)=p/16^(n+1)/16:=by rw[ry 16 (n+1),G6]
  constructor
  ·rintro⟨d,b,h⟩;have b:=gq.1 b;obtain⟨k,s,hk,h⟩:=(ho d).1 h;obtain⟨h1,h2⟩:=(Ae n s _ p).1 h;refine⟨by rw[c,h1];omega,?_⟩;rw[Mp.n1,h1,show(a*16+d)%16=d by omega,hk];exact h2
  ·rintro⟨h1,h2⟩;rw[Mp.n1]at h2;cases hk:Mp.g1 t (p/16^(n+1)%16)with
   |none=>rw[hk]at h2;cases h2
   |some y=>
    rw[hk]at h2;refine⟨p/16^(n+1)%16,gq.2 (k4 _ bN),(ho _).2 ⟨y.1,y.2,hk,(Ae n y.2 _ p).2 ⟨?_,h2⟩⟩⟩;rw[c]at h1;omega
def aI9:∀(n:Nat) (t:RT n) (a:Nat),(kR n t a).Pairwise (· < ·):=by
 intro n;have key:∀(n:Nat) (t:RT n) (a d x:Nat),d<16->x∈h3 n t a d->x/16^n=a*16+d:=by
  intro n t a d x b hx;cases n with
  |zero=>
   have hx:x∈(if(List.getD (t:bA (bX Nat)) d none).isSome then[a*16+d]else[]):=hx;split at hx;·simp at hx;rw[hx,Bm,Bo]
   ·cases hx
  |succ n=>
   have hx:x∈(match Mp.g1 t d with|none=>[]|some (_,s)=>kR n s (a*16+d)):=hx;split at hx;·cases hx
   ·exact((Ae n _ _ x).1 hx).1
 have sg:∀(n:Nat) (t:RT n) (a:Nat),(∀d,(h3 n t a d).Pairwise (· < ·))->(kR n t a).Pairwise (· < ·):=by
  intro n t a h1;rw[r5,List.pairwise_flatMap];refine⟨λd _=>h1 d,?_⟩;refine G2 ?_ G7;intro d e b he i x hx y f;have j:=key n t a d x (gq.1 b) hx;have k:=key n t a e y (gq.1 he) f;rcases hE x y with h|h;·exact h
  ·have:=Nat.div_le_div_right (c:=16^n) h;omega
 induction n with
 |zero=>
  intro t a;refine sg 0 t a λd=>?_;show(if(List.getD (t:bA (bX Nat)) d none).isSome then[a*16+d]else[]).Pairwise (· < ·);split<;>simp
 |succ n g=>
  intro t a;refine sg (n+1) t a λd=>?_;show(match Mp.g1 t d with|none=>[]|some (_,s)=>kR n s (a*16+d)).Pairwise (· < ·);split;·simp
  ·exact g _ _
end Go.Kv
namespace Go.Mp
open Go Go.Vc Go.Sp Go.Proofs Go.Kc Go.Kv Go.Kw
variable{E:Env}{L:cr}{w W:bI}
def aKL{R:RT 3}{T:c7}(b:Tok T)(hr:n3 R T):kR 3 R 0=T.map Prod.fst:=by
 refine P9 (aI9 3 R 0) (kk.2 b.c1) λx=>?_;rw[Ae,fD];constructor
 ·rintro⟨h1,h2⟩;have hx:x<65536:=by
   have e:(16:Nat)^(3+1)=65536:=rfl;rw[e]at h1;omega
  rw[hr x hx]at h2;cases c:dV T x with
  |none=>rw[c]at h2;cases h2
  |some e=>exact⟨_,tT c,rfl⟩
 ·rintro⟨⟨q,e⟩,d,rfl⟩;have a:=(b.low _ d).1;have a:q<65536:=a;refine⟨?_,?_⟩
  ·have e:(16:Nat)^(3+1)=65536:=rfl;rw[e];show q/65536=0;omega
  ·show(RT.look 3 R q).isSome=true;rw[hr q a,tU b.c1 d];rfl
def c3(t:Nat)(T:c7):Asn:=fo λR:RT 3=>cL (RT.ok 3 R/\n3 R T) (cA (dR 3 t R))
def c3.open{t:Nat}{T:c7}(h:Sep E (c3 t T::L) w):∃R:RT 3,RT.ok 3 R/\n3 R T/\Sep E (dR 3 t R++L) w:=by
 obtain⟨R,h⟩:=Sep.ex.1 h;obtain⟨⟨h1,h2⟩,h⟩:=Sep.cL.1 h;exact⟨R,h1,h2,Sep.cA.1 h⟩
def c3.mk{t:Nat}{T:c7}{R:RT 3}(h1:RT.ok 3 R)(h2:n3 R T)(h:Sep E (dR 3 t R++L) w):Sep E (c3 t T::L) w:=Sep.ex.2 ⟨R,Sep.cL.2 ⟨⟨h1,h2⟩,Sep.cA.2 h⟩⟩
def Qa(h:Sep E L w):Calls P yP #[] w (cC λv w'=>∃t:Nat,v=Pb t/\Sep E (c3 t []::L) w'):=by
 refine(aEL h).mono ?_;rintro e a ⟨v,rfl,t,rfl,h1⟩;exact⟨_,rfl,t,rfl,c3.mk (RT.mb 3) (λp _=>RT.jJ 3 p) h1⟩
def Qb{t:Nat}{T:c7}{bL:Int}(d:Tok T)(h:Sep E (c3 t T::L) w):Calls P tl #[Pb t,Iv bL] w
  (cC λv w'=>((∃e:En,0<=bL/\dV T bL.toNat=some e/\v=.tuple #[.int .u64 (e.enc:Nat),.bool true])\/((if 0<=bL then dV T bL.toNat else none)=none/\v=.tuple #[.int .u64 0,.bool false]))/\Sep E (c3 t T::L) w'):=by
 obtain⟨R,h1,h2,b⟩:=c3.open h;refine(EF h1 b).mono ?_;rintro e f ⟨v,rfl,rfl,c⟩;refine⟨_,rfl,?_,c3.mk h1 h2 c⟩;unfold iC;by_cases hp:0<=bL/\bL<65536
 ·rw[bK hp,bK hp.1,h2 _ bu];cases a:dV T bL.toNat with
  |none=>exact .inr ⟨rfl,rfl⟩
  |some e=>exact .inl ⟨e,hp.1,rfl,rfl⟩
 ·rw[bJ hp];refine .inr ⟨?_,rfl⟩;split
  ·cases a:dV T bL.toNat with
   |none=>rfl
   |some e=>exact absurd (d.get a).1 bu
  ·rfl
def EO{t:Nat}{T:c7}{p:Nat}{e:En}(g:Tok T)(hp:p<65536)(h:Sep E (c3 t T::L) w):Calls P vG #[Pb t,Iv (p:Nat),.int .u64 (e.enc:Nat)] w
  (cZ E (Iv 0) (c3 t (fa T p e)::L)):=by
 obtain⟨R,h1,h2,b⟩:=c3.open h;refine(aLw h1 b).mono ?_;rintro e' j ⟨v,rfl,i|⟨_,rfl,R',c,d,f⟩⟩;·exact absurd bu i.1
 ·refine⟨_,rfl,rfl,c3.mk c (λq a=>?_) f⟩;rw[d q,dt,we g.c1,h2 q a];have e:(16:Nat)^(3+1)=65536:=rfl;rw[e,mZ a,mZ hp];split<;>rfl
def aGf{t:Nat}{T:c7}{p:Nat}(d:Tok T)(hp:p∈T.map Prod.fst)(h:Sep E (c3 t T::L) w):Calls P CY #[Pb t,Iv (p:Nat)] w
  (cZ E (.bool true) (c3 t (T.filter λx=>x.1 !=p)::L)):=by
 obtain⟨R,h1,h2,g⟩:=c3.open h;obtain⟨⟨q,e⟩,c,rfl⟩:=fD.1 hp;have a:q<65536:=(d.low _ c).1;refine(aKr h1 a (by rw[h2 _ a,tU d.c1 c];rfl) g).mono ?_;rintro e' l ⟨v,rfl,rfl,R',i,j,k⟩;refine⟨_,rfl,rfl,c3.mk i (λf b=>?_) k⟩;rw[j f,EN,h2 f b];have e:(16:Nat)^(3+1)=65536:=rfl;rw[e,mZ b,mZ a];split<;>rfl
def lf(T:c7):bA bH:=(T.map Prod.fst).map λp:Nat=>Iv (p:Nat)
def Qc{t:Nat}{R:RT 3}{T:c7}(B:Tok T)(h1:RT.ok 3 R)(h2:n3 R T):Eo P E oC (λy=> #[Pb t,y]) emp emp (cA (dR 3 t R)) (lf T):=by
 intro l J X A L W h;have u:=Sep.cA.1 (h.ro 3 [1,0] rfl);have hp:=aKL B h2;have j:∀ {Z:Asn} {M:cr} {w:bI},Sep E (dR 3 t R++Z::M) w->Sep E (Z::cA (dR 3 t R)::M) w:=λq=>(Sep.cA.2 q).swap;have un:∀ {Z:Asn} {M:cr} {w:bI},Sep E (Z::cA (dR 3 t R)::M) w->Sep E (dR 3 t R++Z::M) w:=λq=>Sep.cA.1 q.swap;have em:∀ {Z S:Asn} {w:bI},Sep E (Z::S::L) w->Sep E (Z::S::emp::L) w:=λq=>(Sep.emp.2 q).ro 3 [1,2,0] rfl;refine Calls.mono (R:=cC λv d=>v=.tuple #[]/\(Sep E (J (lf T).length::cA (dR 3 t R)::L) d\/∃k,k<(lf T).length/\Sep E (X k::cA (dR 3 t R)::L) d)) ?_ (λe d he=>?_);rotate_left
 ·obtain⟨v,rfl,rfl,he⟩:=he;exact⟨⟨_,rfl⟩,he.imp em λ⟨k,hk,q⟩=>⟨k,hk,em q⟩⟩
 apply as2;unfold EA qF;have n:=aKm (E:=E) 3 (b:=t) (a:=0) (k0:=0) (l:=l) (t:=R) (xs:=lf T) (J:=J) (X:=X) (L:=L) (w:=W) bu h1 bN
  (λi p o=>by rw[hp]at o;unfold lf;rw[fz,ez,o];rfl)
  (λk x r hx z=>by
   obtain⟨fn,tmps,m,body,g,c⟩:=A L k x r hx (j z);exact⟨fn,tmps,m,body,g,c.mono λe C he=>he.imp (λq=>⟨q.1,un q.2⟩) (λq=>⟨q.1,un q.2⟩)⟩) u
 have e0:((3-3:Nat):Int)=0:=rfl;rw[e0,fz,hp]at n;have s:(lf T).length=(T.map Prod.fst).length:=by unfold lf;rw[dY]
 rw[s];refine⟨_,rfl,?_⟩;dsimp only;rw[cj];refine use n ?_;rintro _ w2 (⟨rfl,f⟩|⟨rfl,k,hk,f⟩);·exact⟨_,rfl,rfl,.inl (j f)⟩
 ·exact⟨_,rfl,rfl,.inr ⟨k,hk,j f⟩⟩
def Qd{t:Nat}{T:c7}(g:Tok T):zE P E oC (λy=> #[Pb t,y]) (c3 t T) (c3 t T) (lf T):=by
 intro l J X f L W h;obtain⟨R,h1,h2,c⟩:=c3.open h.swap;have a:∀ {Z:Asn} {w:bI},Sep E (Z::cA (dR 3 t R)::emp::L) w->Sep E (Z::c3 t T::L) w:=λq=>(c3.mk h1 h2 (Sep.cA.1 (q.ro 3 [1,0] rfl))).swap;refine(Qc g h1 h2 l J X (λM k x b hx d=>f _ k x b hx d) L W (((Sep.emp.2 (Sep.cA.2 c))).ro 3 [2,1,0] rfl)).mono λe i he=>⟨he.1,he.2.imp a λ⟨k,hk,q⟩=>⟨k,hk,a q⟩⟩
def gh{T:c7}(c:Tok T):T.length<=65536:=by
 have h1:∀(n:Nat) (l:bA Nat),l.Pairwise (· < ·)->(∀x∈l,x<n)->l.length<=n:=by
  intro n;induction n with
  |zero=>intro l _ hl;cases l with
   |nil=>simp
   |cons x l=>exact absurd (hl x fS) bu
  |succ n a=>
   intro l hp hl;have h2:=a (l.filter λx=>x !=n) (hp.filter _) (λx hx=>by
    have b:=gp.1 hx;have:=hl x b.1;have:x≠n:=by simpa using b.2
    omega)
   have g:l.length<=(l.filter λx=>x !=n).length+1:=by
    clear a h2 hl;induction l with
    |nil=>simp
    |cons x l a=>
     obtain⟨f,p2⟩:=ht.1 hp;rw[jR];by_cases hx:x=n
     ·subst hx;rw[bJ (by simp)];have:l.filter (λy=>y !=x)=l:=xw.2 λy e=>by have:=f y e;simp;omega
      rw[this];simp
     ·rw[bK (by simpa using hx)];have:=a p2;simp;omega
   omega
 have h2:=h1 65536 (T.map Prod.fst) (kk.2 c.c1) (λx hx=>by obtain⟨q,d,rfl⟩:=fD.1 hx;exact(c.low q d).1);rwa[dY]at h2
def aLv{t:Nat}{T:c7}(a:Tok T)(h:Sep E (c3 t T::L) w):Calls P Jn #[Pb t] w (cZ E (Iv (T.length:Nat)) (c3 t T::L)):=by
 apply as0;unfold Ov qJ;have hx:lf T=((T.map Prod.fst).map Int.ofNat).map (Value.int .i64):=by unfold lf;rw[uS,uS,uS];rfl
 have hlen:=gh a;refine use (PK (fi:= #[Pb t]) (ca:= #[]) (λy=>by simp) cE (hx▸Qd a) (by rw[dY,dY];omega) h) ?_;rintro _ c ⟨s,rfl,b,h1⟩;refine⟨s,rfl,?_,h1.tail⟩;rw[b,dY,dY]
end Go.Mp
namespace Go.Kw
def walk(T:c7)(a b:Int):bS:=((T.map Prod.fst).filter (hI a b)).map Int.ofNat
end Go.Kw
namespace Go.Mp
open Go Go.Vc Go.Sp Go.Proofs Go.Kc Go.Kv Go.Kw
variable{E:Env}{L:cr}{w W:bI}
def jO(a:Int)(l:bA Nat):bS:=(l.filter λp:Nat=>decide (a<=(p:Int))).map Int.ofNat
def Qe{a b:Int}{l:bA Nat}(h:∀x∈l,(x:Int)<b):(l.filter (hI a b)).map Int.ofNat=jO a l:=by
 unfold jO;congr 1;refine xz λx hx=>?_;unfold hI;have:=h x hx;by_cases c:a<=(x:Int)
 ·rw[dK c,dK ⟨c,this⟩]
 ·rw[dq c,dq λe=>c e.1]
def aKP{a b:Int}{l:bA Nat}{k:Nat}(hr:l.Pairwise (· < ·))(h:∀x∈l.take k,(x:Int)<b)(hk:∀y,l[k]?=some y->b<=(y:Int)):(l.filter (hI a b)).map Int.ofNat=jO a (l.take k):=by
 have e:l.filter (hI a b)=(l.take k).filter (hI a b)++(l.drop k).filter (hI a b):=by rw[<- uH,fP]
 have g:(l.drop k).filter (hI a b)= []:=by
  rw[List.filter_eq_nil_iff];intro x hx;cases c:l[k]? with
  |none=>rw[List.drop_eq_nil_of_le (by rw[G1]at c;exact c)]at hx;cases hx
  |some y=>
   have j:=hk y c;have d:=(c2.1 c).1;rw[kZ d]at hx;have i:l[k]=y:=by rw[ea d]at c;exact cV c
   have:(y:Int)<=x:=by
    rcases eH.1 hx with rfl|hx;·omega
    ·have f:(l.drop k).Pairwise (· < ·):=List.Pairwise.drop hr;rw[kZ d]at f;have:=(ht.1 f).1 x hx;omega
   unfold hI;simp;omega
 rw[e,g,g3];exact Qe h
def wJ(c d e:Nat)(a b:Int)(xs:bA Nat)(k:Nat):Asn:=
 fo λs:Sl=>cL (s.n=(jO a (xs.take k)).length) (cA [bD e [Sv s],bw s 1 (bC (jO a (xs.take k))),bD c [Iv a],bD d [Iv b]])
def Qf{t:Nat}{T:c7}{a b:Int}(X:Tok T)(h:Sep E (c3 t T::L) w):Calls P yJ #[Pb t,Iv a,Iv b] w
  (cC λv w'=>∃s:Sl,v=Sv s/\s.n=(walk T a b).length/\Sep E (bw s 1 (bC (walk T a b))::c3 t T::L) w'):=by
 obtain⟨xs,G⟩:∃xs,T.map Prod.fst=xs:=⟨_,rfl⟩
 have N:xs.Pairwise (· < ·):=by rw[<- G];exact kk.2 X.c1
 have hlen:xs.length<=65536:=by rw[<- G,dY];exact gh X
 have hw:walk T a b=(xs.filter (hI a b)).map Int.ofNat:=by unfold walk;rw[G]
 have Q:lf T=xs.map λp:Nat=>Iv (p:Nat):=by unfold lf;rw[G]
 have aa:∀k,(jO a (xs.take k)).length<=65536:=by
  intro k;unfold jO;rw[dY];have h1:=mw (λp:Nat=>decide (a<=(p:Int))) (xs.take k);have h2:=List.length_take_le k xs;rw[gT]at h1;omega
 apply arT;unfold Ey qC qc;refine Al.i h (λi ai h1=>Al.i h1 (λj w2 h2=>Al.i h2 (λn ae A=>?_)));have I:Sep E (cL (∀x∈xs.take 0,(x:Int)<b) (wJ i j n a b xs 0)::c3 t T::L) ae:=by
  refine Sep.cL.2 ⟨by simp,Sep.ex.2 ⟨⟨none,0,0⟩,Sep.cL.2 ⟨rfl,Sep.cA.2 ?_⟩⟩⟩;exact(bw.none_ (m:=1) A).ro 4 [1,0,3,2] rfl
 refine iJ.iO (fi:= #[Pb t]) (ca:= #[]) (λy=>by simp) (τ:=fV) (ρ:=gZ) (cD:=cD) (An:=tK) (yl:=Ez) mixed bN bN aqX cE (Qd X)
  (λk=>cL (∀x∈xs.take k,(x:Int)<b) (wJ i j n a b xs k)) (λk=>cL ((∀x∈xs.take k,(x:Int)<b)/\∀y,xs[k]?=some y->b<=(y:Int)) (wJ i j n a b xs k)) ?_ I ?_ ?_
 ·intro l r L' k x W R u D hx J O U;obtain⟨y,Y,rfl⟩:∃y:Nat,xs[k]?=some y/\x=Iv (y:Nat):=by
   rw[Q,ez]at hx;cases hk:xs[k]? with
   |none=>rw[hk]at hx;cases hx
   |some y=>rw[hk]at hx;exact⟨y,rfl,(cV hx).symm⟩
  have ah:=(c2.1 Y).1;have F:xs.take (k+1)=xs.take k++[y]:=by rw[l0,Y];rfl
  refine(aq0 (some ⟨t,0,none⟩) a b ⟨i,0,none⟩ ⟨j,0,none⟩ ⟨n,0,none⟩ (y:Nat) l W R).mpr ?_;unfold OK qC qD qc;refine lI.i J u (λaf g=>?_);obtain⟨f,g⟩:=Sep.cL.1 g.swap;obtain⟨s,g⟩:=Sep.ex.1 g;obtain⟨hn,g⟩:=Sep.cL.1 g;have g:=Sep.cA.1 g;have g:Sep E (bD n [Sv s]::bw s 1 (bC (jO a (xs.take k)))::bD i [Iv a]::bD j [Iv b]::da l (.loop {r with state:=.busy})::L') af:=g;have back:∀ {s':Sl} {k':Nat} {o:Obj} {w:bI},s'.n=(jO a (xs.take k')).length->Sep E (da l o::bD n [.slice s'.p s'.n s'.c]::bw s' 1 (bC (jO a (xs.take k')))::bD i [Iv a]::bD j [Iv b]::L') w->Sep E (wJ i j n a b xs k'::da l o::L') w:=by
   intro s' k' o w C q;exact Sep.ex.2 ⟨s',Sep.cL.2 ⟨C,Sep.cA.2 (q.ro 5 [1,2,3,4,0] rfl)⟩⟩
  refine⟨b,g.cellAt 3 rfl 0,hq (λK=>?_) (λM=>⟨a,g.cellAt 2 rfl 0,hq (λK=>⟨s,g.cell 0,Al.i g (λq aj ab=>?_)⟩) (λV=>?_)⟩)⟩
  ·refine fg.i (g.ro 5 [4,0,1,2,3] rfl) (λag S=>U ag (Sep.swap (Sep.cL.2 ⟨⟨f,λz d=>?_⟩,back hn S⟩)));rw[Y]at d;cases d;exact K
  ·refine r4 hn (by have:=aa k;omega) (ab.ro 3 [0,2,1] rfl) (λs' ak C S=>?_);refine St.i S.swap (by show 0<1;decide) (λal ad=>?_);refine fg.i (ad.ro 5 [4,0,1,2,3] rfl) (λZ B=>?_);have e:({ {r with state:=.busy} with state:=if(none:bX Code).isNone then .ready else .done,pending:=none} :Loop)=r:=by
    cases r;simp only at u D;subst u D;rfl
   rw[e]at B;have es:jO a (xs.take (k+1))=jO a (xs.take k)++[(y:Int)]:=by
    unfold jO;rw[F,uH,lu];congr 1;rw[jR,bK (by simpa using K)];rfl
   rw[<- es]at B C;refine O Z (Sep.swap (Sep.cL.2 ⟨λz d=>?_,back C B⟩));rw[F]at d;rcases gb.1 d with d|d;·exact f z d
   ·rw[h9]at d;subst d;exact M
  ·refine fg.i (g.ro 5 [4,0,1,2,3] rfl) (λZ B=>?_);have e:({ {r with state:=.busy} with state:=if(none:bX Code).isNone then .ready else .done,pending:=none} :Loop)=r:=by
    cases r;simp only at u D;subst u D;rfl
   rw[e]at B;have es:jO a (xs.take (k+1))=jO a (xs.take k):=by
    unfold jO;rw[F,uH,lu,jR,bJ (by simpa using V)];simp
   rw[<- es]at B hn;refine O Z (Sep.swap (Sep.cL.2 ⟨λz d=>?_,back hn B⟩));rw[F]at d;rcases gb.1 d with d|d;·exact f z d
   ·rw[h9]at d;subst d;exact M
 ·intro c W J;obtain⟨f,h2⟩:=Sep.cL.1 J.swap;obtain⟨s,h2⟩:=Sep.ex.1 h2;obtain⟨hn,h2⟩:=Sep.cL.1 h2;have h2:=Sep.cA.1 h2;have el:(lf T).length=xs.length:=by rw[Q,dY]
  rw[el,fB]at hn h2 f;have h2:Sep E (bD n [Sv s]::bw s 1 (bC (jO a xs))::bD i [Iv a]::bD j [Iv b]::da c (.deferred (some []))::c3 t T::L) W:=h2;have A:=h2.ro 6 [4,0,1,5,2,3] rfl;have I:=(A.putObj (o':=.deferred none)).tail;have H:walk T a b=jO a xs:=by rw[hw];exact Qe f
  refine⟨s,h2.cell 0,A.dw,s,rfl,by rw[H];exact hn,?_⟩;rw[H];exact(I.ro 5 [1,2] rfl)
 ·intro c k W _ J;obtain⟨⟨f,hk⟩,h2⟩:=Sep.cL.1 J.swap;obtain⟨s,h2⟩:=Sep.ex.1 h2;obtain⟨hn,h2⟩:=Sep.cL.1 h2;have h2:=Sep.cA.1 h2;have h2:Sep E (bD n [Sv s]::bw s 1 (bC (jO a (xs.take k)))::bD i [Iv a]::bD j [Iv b]::da c (.deferred (some []))::c3 t T::L) W:=h2;have A:=h2.ro 6 [4,0,1,5,2,3] rfl;have I:=(A.putObj (o':=.deferred none)).tail;have H:walk T a b=jO a (xs.take k):=by rw[hw];exact aKP N f hk
  refine⟨s,h2.cell 0,A.dw,s,rfl,by rw[H];exact hn,?_⟩;rw[H];exact(I.ro 5 [1,2] rfl)
end Go.Mp
namespace Go.Kw
def Qg{p:Nat}{e:En}:∀ {T:c7},(∀q∈T,q.1<p)->fa T p e=T++[(p,e)]
 |[],_=>rfl
 |(q,f)::r,h=>by
  have h1:q<p:=h _ fS;unfold fa;rw[cK,cK,Qg λx hx=>h x (gn _ hx)];rfl
def Tok.take{T:c7}(h:Tok T)(k:Nat):Tok (T.take k):=⟨h.c1.take,λq a=>h.low q (oo a)⟩
end Go.Kw
namespace Go.Mp
open Go Go.Vc Go.Sp Go.Proofs Go.Kc Go.Kv Go.Kw
variable{E:Env}{L:cr}{w W:bI}
def aIv{t:Nat}{T:c7}(o:Tok T)(h:Sep E (c3 t T::L) w):Calls P C7 #[Pb t] w
  (cC λv w'=>∃c:Nat,v=Pb c/\Sep E (c3 c T::c3 t T::L) w'):=by
 obtain⟨R,H,I,F⟩:=c3.open h;have F:=Sep.cA.2 F;have V:∀ {M:cr} {w:bI},Sep E (cA (dR 3 t R)::M) w->Sep E (c3 t T::M) w:=λq=>c3.mk H I (Sep.cA.1 q);apply aqK;unfold EB qR qb;refine Al.i F (λa ab h1=>use (Qa h1) ?_);rintro _ w2 ⟨c,rfl,h2⟩;refine⟨_,rfl,Al.i h2 (λd ad f=>St.i f (by show 0<1;decide) (λN i=>⟨some ⟨t,0,none⟩,i.cellAt 2 rfl 0,?_⟩))⟩;have i:Sep E (bD d [Pb c]::c3 c []::bD a [Pb t]::cA (dR 3 t R)::L) N:=i;have G:Sep E (cA [bD a [Pb t],bD d [Pb c],c3 c (T.take 0)]::cA (dR 3 t R)::emp::L) N:=
  Sep.cA.2 (Sep.ro (Sep.emp.2 i) 5 [3,1,2,4,0] rfl)
 have C:lf T=(T.map λq=>Iv (q.1:Nat)):=by unfold lf;rw[uS];rfl
 refine iJ.Ep (fi:= #[Pb t]) (ca:= #[]) (λy=>by simp) (τ:=fV) (ρ:=gZ) (cD:=cD) (An:=tL) (yl:=ED) mixed bN bN apz cE (Qc o H I)
  (λk=>cA [bD a [Pb t],bD d [Pb c],c3 c (T.take k)]) (λ_=>cL False emp) ?_ G ?_ ?_
 ·intro l r L' k x W R' n D hx j K _;obtain⟨⟨y,e⟩,p,rfl⟩:∃q,T[k]?=some q/\x=Iv (q.1:Nat):=by
   rw[C,ez]at hx;cases hk:T[k]? with
   |none=>rw[hk]at hx;cases hx
   |some y=>rw[hk]at hx;exact⟨y,rfl,(cV hx).symm⟩
  have m:(y,e)∈T:=eG p;have s:y<65536:=(o.low _ m).1;refine(apC (some ⟨t,0,none⟩) ⟨a,0,none⟩ (some ⟨c,0,none⟩) ⟨d,0,none⟩ (some ⟨t,0,none⟩) (y:Nat) l W R').mpr ?_;unfold Pm qQ qb zh;refine lI.i j n (λX Q=>?_);have u:=Sep.cA.1 Q.swap;have u:Sep E (bD a [Pb t]::bD d [Pb c]::c3 c (T.take k)::da l (.loop {r with state:=.busy})::cA (dR 3 t R)::L') X:=u;refine⟨_,u.cell 0,?_⟩;have J:=EF (bL:=(y:Nat)) H (Sep.cA.1 (u.ro 5 [4,0,1,2,3] rfl));have O:iC R (y:Int)=some e.enc:=by unfold iC;rw[eV,dt,I y s,tU o.c1 m];rfl
  rw[O]at J;refine use J ?_;rintro _ Y ⟨rfl,S⟩;have z:=Sep.cA.2 S;have z:Sep E (cA (dR 3 t R)::bD a [Pb t]::bD d [Pb c]::c3 c (T.take k)::da l (.loop {r with state:=.busy})::L') Y:=z;refine⟨_,_,rfl,_,z.cellAt 2 rfl 0,use (EO (o.take k) s (z.ro 5 [3,0,1,2,4] rfl)) ?_⟩;rintro _ Z ⟨rfl,g⟩;have es:fa (T.take k) y e=T.take (k+1):=by
   rw[l0,p];refine Qg λq U=>?_;have hr:=o.c1;have B:=(c2.1 p).1;rw[<- fP k T,kZ B]at hr;have f:=(jE.1 hr).2.2 q U T[k] fS;rw[ea B]at p;rw[cV p]at f;exact f
  rw[es]at g;have g:Sep E (c3 c (T.take (k+1))::cA (dR 3 t R)::bD a [Pb t]::bD d [Pb c]::da l (.loop {r with state:=.busy})::L') Z:=g;refine⟨_,rfl,fg.i (g.ro 5 [4,2,3,0,1] rfl) (λaa A=>?_)⟩;have er:({ {r with state:=.busy} with state:=if(none:bX Code).isNone then .ready else .done,pending:=none} :Loop)=r:=by
   cases r;simp only at n D;subst n D;rfl
  rw[er]at A;exact K aa (Sep.swap (Sep.cA.2 (A.ro 5 [1,2,3,0,4] rfl)))
 ·intro b W j;have el:(lf T).length=T.length:=by rw[C,dY]
  rw[el,fB]at j;have h2:=Sep.cA.1 j.swap;have h2:Sep E (bD a [Pb t]::bD d [Pb c]::c3 c T::da b (.deferred (some []))::cA (dR 3 t R)::emp::L) W:=h2;have f:=h2.ro 6 [3,2,4,0,1,5] rfl;have i:=(f.putObj (o':=.deferred none)).tail;refine⟨_,h2.cellAt 1 rfl 0,f.dw,c,rfl,?_⟩;have G:=V (i.ro 5 [1,0] rfl);exact G.swap
 ·intro b k W _ j;exact(Sep.cL.1 j.swap).1.elim
end Go.Mp
namespace Go.Sp
open Go Go.Vc
structure j4(w:bI)(s:Sl)(l:bS):Prop where
 n:s.n=l.length
 rd:∀(i:Nat) x,l[i]?=some x->∃a,s.p=some a/\w.cell? (a.add i)=some (Iv x)
variable{E:Env}{L:cr}{w W:bI}{P:cS}
def j4.grow{s:Sl}{l:bS}(h:j4 W s l)(g:Grow W w):j4 w s l:=⟨h.n,λi x hx=>let ⟨a,h1,h2⟩:=h.rd i x hx;⟨a,h1,g.cell h2⟩⟩
def j4.el{s:Sl}{l:bS}{i:Int}{F:Int->Prop}(h:j4 w s l)(k:Nat)(d:i=k){x:Int}(hx:l[k]?=some x)(f:F x):cF s.p s.n i 1 λa=>∃v:Int,w.cell? a=some (Iv v)/\F v:=by
 have c:=(c2.1 hx).1;obtain⟨a,hp,b⟩:=h.rd k x hx;have:=h.n;refine⟨a,hp,⟨bu,bu⟩,x,?_,f⟩;have e:i.toNat=k:=by omega
 rw[e,fY];exact b
def j4.row{s:Sl}{l:bS}{q:Nat}(h:Sep E L w)(c:L[q]?=some (bw s 1 (bC l)))(hn:s.n=l.length):j4 w s l:=by
 refine⟨hn,λi x hx=>?_⟩;have a:=(c2.1 hx).1;have h1:=h.fr q c;obtain⟨b,spare,hp,d,e,f,h2⟩:=bw.iB h1 bu;refine⟨_,hp,?_⟩;rw[cj,fz,bw.cell h2 (by rw[ZT];exact a),z1,hx];rfl
def pn{g:bH}{args:cf bH}{K:bj0}{R:Ending->bi9}(h:fe P g args w (cC K))(k:∀v w',K v w'->R (.returned v) w'):fe P g args w R:=by
 obtain⟨f,ca,b,ho,a⟩:=h;exact⟨f,ca,b,ho,a.mono λe w' he=>by obtain⟨v,rfl,c⟩:=he;exact k v w' c⟩
end Go.Sp
namespace Go.Mp
open Go Go.Vc Go.Sp Go.Proofs Go.Kt
variable{E:Env}{L:cr}{w W:bI}
def EP{s:Sl}{l:bS}(b:j4 w s l)(hb:l.length<4611686018427387904)(v:Int):Calls P qe #[Sv s,Iv v] w (cC λr w'=>r=.bool (l.contains v)/\w'=w):=by
 apply Ef;unfold zp qQ;have key:Calls P vL #[Sv s,Iv v] w (cC λr w'=>(∃x:Int,r=Iv x/\decide (x≥0)=l.contains v)/\w'=w):=by
  apply Ek;unfold zr qD qO qW;have hn:=b.n;refine⟨λi w'=>w'=w/\∃k:Nat,i=k/\k<=l.length/\(l.take k).contains v=false,λi _=>(l.length-i).toNat,⟨rfl,0,rfl,dX _,by simp⟩,?_⟩;rintro _ i d ⟨rfl,k,rfl,hk,a⟩;refine cU (λg=>?_) (λf=>?_)
  ·obtain⟨x,hx⟩:∃x,l[k]?=some x:=⟨_,du⟩
   refine b.el k rfl hx ?_;refine eC (λe=>?_) (λc=>?_)
   ·subst e;refine⟨⟨_,rfl,?_⟩,rfl⟩;rw[dK bu];exact(lq.2 (eG hx)).symm
   ·refine⟨⟨rfl,k+1,c4,bu,?_⟩,by rw[c4];dsimp only;omega⟩;rw[take_succ hx,List.contains_eq_any_beq,Hw,<- List.contains_eq_any_beq,a];simpa using c
  ·refine⟨⟨_,rfl,?_⟩,rfl⟩;have:k=l.length:=by omega
   subst this;rw[fB]at a;rw[a];rfl
 refine use key ?_;rintro _ d ⟨⟨x,rfl,hx⟩,rfl⟩;refine⟨x,rfl,?_,rfl⟩;rw[hx]
def Qh{b:Nat}{l:bA G}{A:Asn}{is:bH}{isB:Nat->Bool}(hw:WF l)(o:∀i x,l[i]?=some x->∀L w,Sep E (eb b l::A::L) w->fe P is #[Iv (i:Nat)] w (cZ E (.bool (isB i)) (eb b l::A::L)))(h:Sep E (eb b l::A::L) w):Calls P Dn #[Pb b,is] w (cC λv w'=>∃s:Sl,v=Sv s/\s.n=(ou l isB).length/\Sep E (bw s 1 (bC (ou l isB))::eb b l::A::L) w'):=by
 apply X7;unfold Mz qC qK qW qf qh qy;obtain⟨C,I,t⟩:=eb.get h;refine⟨_,rfl,C,t.cell 0,?_⟩;let part:Nat->bS:=λk=>((List.range k).filter λi:Nat=>dB l (i:Int)&&isB i).map Int.ofNat;have z:=hw.eI;have r:∀k,k<=l.length->(part k).length<=64:=λk hk=>by
  have:=mw (λi:Nat=>dB l (i:Int)&&isB i) (List.range k);simp only[part,dY];rw[Ho]at this;omega
 refine⟨λs i w'=>∃k:Nat,i=k/\k<=l.length/\s.n=(part k).length/\Sep E (bw s 1 (bC (part k))::eb b l::A::L) w',λ_ i _=>(l.length-i).toNat,⟨0,rfl,dX _,rfl,bw.none_ h⟩,?_⟩;rintro _ s i D ⟨k,rfl,hk,hn,h1⟩;have j:part (k+1)=part k++(if(dB l (k:Int)&&isB k)=true then[Int.ofNat k]else[]):=by
  simp only[part];rw[List.range_succ,uH,lu];congr 1;rw[jR];split<;>rfl
 refine cU (λH=>?_) (λF=>?_)
 ·have a:k<l.length:=by omega
  obtain⟨x,hx⟩:∃x,l[k]?=some x:=⟨_,ea a⟩
  have c:dB l (k:Int)=x.live:=by unfold dB;rw[dt,hx,dK bu];rfl
  refine⟨λy w'=>y=(dB l (k:Int)&&isB k)/\Sep E (bw s 1 (bC (part k))::eb b l::A::L) w',?_,?_⟩
  ·obtain⟨s1,p,h2⟩:=eb.get (h1.fr 1 rfl);refine⟨_,rfl,s1,h2.cell 0,tO 1 h2 rfl p rfl hx (λJ _ u=>⟨x.live,?_,?_⟩)⟩;·rw[cj];exact u 1 bN
   ·refine cy (λd=>?_) (λd=>?_)
    ·refine pn (o k x hx (bw s 1 (bC (part k))::L) D (h1.ro 3 [1,2,0] rfl)) ?_;rintro _ w2 ⟨rfl,m⟩;refine⟨_,rfl,?_,m.ro 3 [2,0,1] rfl⟩;rw[c,d];rfl
    ·refine⟨?_,h1⟩;rw[c,d];rfl
  ·rintro _ y w2 ⟨f,h2⟩;refine cy (λB=>?_) (λhf=>?_)
   ·rw[B]at f;refine Al.i h2 (λq K m=>?_);refine r4 hn (by have:=r k hk;omega) m (λs' M g n=>?_);have e:part (k+1)=part k++[(k:Int)]:=by rw[j,bK f.symm];rfl
    rw[<- e]at g n;exact⟨⟨k+1,c4,a,g,n⟩,by rw[c4];dsimp only;omega⟩
   ·rw[hf]at f;have e:part (k+1)=part k:=by rw[j,bJ (by rw[<- f];decide),g3]
    rw[<- e]at hn h2;exact⟨⟨k+1,c4,a,hn,h2⟩,by rw[c4];dsimp only;omega⟩
 ·have:k=l.length:=by omega
  subst this;exact⟨s,rfl,hn,h1⟩
def wg{b:Nat}{l:bA G}{g:Int}(hw:WF l)(h:Sep E (eb b l::L) w):Calls P tp #[Pb b,Iv g] w (cC λv w'=>∃s:Sl,v=Sv s/\s.n=(iu l g).length/\
  Sep E (bw s 1 (bC (iu l g))::eb b l::L) w'):=by
 apply Xq;unfold LX qC qD qF qJ qb;refine Al.i h (λj r h1=>Al.i h1 (λk w2 h2=>?_));refine⟨_,h2.cellAt 1 rfl 0,_,h2.cell 0,?_⟩;refine use (kQ (q:=2) h2 rfl) ?_;rintro _ p ⟨rfl,rfl⟩;refine⟨_,rfl,cy (λf=>?_) (λf=>?_)⟩
 ·have:dB l g=false:=by simpa using f
  have e:iu l g= []:=by unfold iu;rw[this];rfl
  rw[e];exact⟨⟨none,0,0⟩,rfl,rfl,bw.none_ (h2.ro 3 [2] rfl)⟩
 ·have hl:dB l g=true:=by simpa using f
  refine⟨_,h2.cellAt 1 rfl 0,?_⟩;have n:Sep E (eb b l::star (bD j [Pb b]) (bD k [Iv g])::L) p:=(Sep.star.2 (h2.ro 3 [1,0,2] rfl)).swap;refine use (Qh (isB:=λi=>(dx l i).contains g) hw ?_ n) ?_
  ·intro i x hx L' m a;refine⟨Dp,_,rfl,by kernel_rfl,?_⟩;show Calls P Dp #[Iv (i:Nat),Pb j,Pb k] m _;apply X8;unfold MA qD qF qJ qb zG;have o:Sep E (bD j [Pb b]::bD k [Iv g]::eb b l::L') m:=Sep.star.1 a.swap;refine Dr.i o (λt c=>?_);refine⟨_,c.cell 0,_,c.cellAt 1 rfl 0,?_⟩;refine use (tQ hw (c.fr 2 rfl)) ?_;rintro _ u ⟨s,rfl,hn,d⟩;refine⟨s,rfl,_,d.cellAt 3 rfl 0,rfl,?_⟩;refine use (EP (j4.row (q:=0) d rfl hn) (by have:=qS hw i;omega) g) ?_;rintro _ y ⟨rfl,rfl⟩;refine⟨_,rfl,rfl,?_⟩;exact(Sep.star.2 (d.ro 4 [2,3,1] rfl)).swap
  ·rintro _ m ⟨s,rfl,hn,a⟩;have e:iu l g=ou l (λi=>(dx l i).contains g):=by unfold iu;rw[bK hl]
   rw[e];exact⟨s,rfl,s,rfl,hn,a.ro 3 [0,1] rfl⟩
def aLh{b:Nat}{l:bA G}{g:Int}(hw:WF l)(h:Sep E (eb b l::L) w):Calls P J3 #[Pb b,Iv g] w (cC λv w'=>∃s:Sl,v=Sv s/\s.n=(kD l g).length/\
  Sep E (bw s 1 (bC (kD l g))::eb b l::L) w'):=by
 apply XX;unfold Mo qC qD qF qJ qb;refine Al.i h (λf y h1=>Al.i h1 (λj w2 h2=>?_));refine⟨_,h2.cellAt 1 rfl 0,_,h2.cell 0,?_⟩;refine use (kQ (q:=2) h2 rfl) ?_;rintro _ t ⟨rfl,rfl⟩;refine⟨_,rfl,cy (λd=>?_) (λd=>?_)⟩
 ·have:dB l g=false:=by simpa using d
  have e:kD l g= []:=by unfold kD;rw[this];rfl
  rw[e];exact⟨⟨none,0,0⟩,rfl,rfl,bw.none_ (h2.ro 3 [2] rfl)⟩
 ·have hl:dB l g=true:=by simpa using d
  refine⟨_,h2.cellAt 1 rfl 0,?_⟩;have o:Sep E (eb b l::star (bD f [Pb b]) (bD j [Iv g])::L) t:=(Sep.star.2 (h2.ro 3 [1,0,2] rfl)).swap;refine use (Qh (isB:=λi=>((l[i]?).map G.up).getD (-1)==g) hw ?_ o) ?_
  ·intro i x hx L' k c;refine⟨DH,_,rfl,by kernel_rfl,?_⟩;show Calls P DH #[Iv (i:Nat),Pb f,Pb j] k _;apply YE;unfold M1 qD qK qL qW qb;have p:Sep E (bD f [Pb b]::bD j [Iv g]::eb b l::L') k:=Sep.star.1 c.swap;refine Dr.i p (λz a=>?_);obtain⟨s1,n,m⟩:=eb.get (a.fr 2 rfl);refine⟨_,a.cell 0,⟨_,rfl,s1,m.cell 0,tO 1 m rfl n rfl hx (λu _ r=>⟨x.up,?_,_,a.cellAt 1 rfl 0,?_,?_⟩)⟩⟩;·rw[cj];exact r 0 bN
   ·rw[hx];rfl
   ·exact(Sep.star.2 a).swap
  ·rintro _ k ⟨s,rfl,hn,c⟩;have e:kD l g=ou l (λi=>((l[i]?).map G.up).getD (-1)==g):=by unfold kD;rw[bK hl]
   rw[e];exact⟨s,rfl,s,rfl,hn,c.ro 3 [0,1] rfl⟩
def Qi:hG P Wp=some (16,2,[Iv 0,.bool false]):=by kernel_rfl
def ER{b:Nat}{l:bA G}{p:Int}(hw:WF l)(h:Sep E (eb b l::L) w):Calls P JJ #[Pb b,Iv p] w (cZ E (.tuple #[Iv (gz l p).2.1,Iv (gz l p).2.2]) (eb b (gz l p).1::L)):=by
 apply Xi;unfold LO qF qK qQ;have x:=hw.eI;refine use (kQ (q:=0) h rfl) ?_;rintro _ D ⟨rfl,rfl⟩;refine⟨_,rfl,cy (λj=>?_) (λj=>?_)⟩
 ·have:dB l p=false:=by simpa using j
  unfold gz;rw[bK this];exact⟨rfl,h⟩
 have hl:¬ dB l p=false:=by simpa using j
 refine use (aJ3 hw h) ?_;rintro _ w2 ⟨rfl,h2⟩;refine⟨_,rfl,hq (λd=>?_) (λC=>?_)⟩;·unfold gz;rw[bJ hl,bK d];exact⟨rfl,h2⟩
 obtain⟨s,hn,g⟩:=eb.get h2;refine⟨_,rfl,s,g.cell 0,hq (λd=>?_) (λy=>?_)⟩;·unfold gz;rw[bJ hl,cK,eV];exact⟨rfl,h2⟩
 refine⟨_,rfl,s,g.cell 0,Al.i g (λq F k=>?_)⟩;have z:=Src.bD (n:=1) (c:=1) k (i:=0) rfl Qi rfl (λu hu=>by simp at hu;rcases hu with rfl|rfl<;>rfl);refine bw.append (k.ro 3 [2,0,1] rfl) Qi rfl z bu bu (λs' A f r=>?_);have t:Sep E (bD b [Sv s]::bw s' 2 (bO G.vs (l++[⟨p,true⟩]))::L) A:=by
  have e:bO G.vs (l++[⟨p,true⟩])=bO G.vs l++[Iv p,.bool true]:=by rw[nm,ph];rfl
  rw[e];exact r.ro 3 [2,0] rfl
 refine⟨_,rfl,St.i t (by show 0<1;decide) (λB a=>?_)⟩;have a:Sep E (bD b [.slice s'.p s'.n s'.c]::bw s' 2 (bO G.vs (l++[⟨p,true⟩]))::L) B:=a;refine⟨_,rfl,s',a.cell 0,?_⟩;have m:gz l p=(l++[⟨p,true⟩],(l.length:Int),0):=by unfold gz;rw[bJ hl,cK,cK]
 rw[m];refine⟨?_,eb.mk (by rw[f,hn];simp) a⟩;have o:i64.wrap (((s'.n:Nat):Int)-1)=(l.length:Int):=by rw[f,hn,cX bu bu];omega
 rw[o]
def n4{b:Nat}{l:bA G}{g:Int}(hw:WF l)(h:Sep E (eb b l::L) w):Calls P JL #[Pb b,Iv g] w (cZ E (Iv (jh l g).2) (eb b (jh l g).1::L)):=by
 apply Xk;unfold LQ qF qJ qK qW;refine eC (λa=>?_) (λa=>?_);·unfold jh;rw[bK a];exact⟨rfl,h⟩
 refine use (kQ (q:=0) h rfl) ?_;rintro _ y ⟨rfl,rfl⟩;refine⟨_,rfl,cy (λi=>?_) (λi=>?_)⟩
 ·have:dB l g=false:=by simpa using i
  unfold jh;rw[bJ a,bK this];exact⟨rfl,h⟩
 have hl:dB l g=true:=by simpa using i
 have c:¬ dB l g=false:=by rw[hl];decide
 refine use (aLh hw h) ?_;rintro _ w2 ⟨s,rfl,hn,h2⟩;refine⟨s,rfl,gv (λr=>?_) (λhle=>?_)⟩
 ·have:kD l g≠ []:=λe=>by rw[e]at hn;simp at hn;omega
  unfold jh;rw[bJ a,bJ c,bK this];exact⟨rfl,h2.tail⟩
 have hk:¬ kD l g≠ []:=λk=>k (uC bu);obtain⟨n,rfl,x,hx,t⟩:=jg.1 hl;obtain⟨s1,d,f⟩:=eb.get h2.tail;have m:jh l (n:Int)=(l.set n ⟨x.up,false⟩,0):=by
  unfold jh;rw[bJ a,bJ c,bJ hk,dt,hx];rfl
 rw[m];refine⟨_,rfl,s1,f.cell 0,tO 1 f rfl d rfl hx (λu j _=>?_)⟩;have o:=f.swap;rw[cj];refine tG G.lb (a':=⟨x.up,false⟩) o j hx bN rfl (λz p=>⟨rfl,eb.mk ?_ p.swap⟩);rw[eh];exact d
end Go.Mp
namespace Go.Kw
def Rg.vs(x:Rg):bA bH:=[Iv x.a,Iv x.b,Iv x.kind,Iv x.file,Iv x.idx,.bool x.wr]
def Rg.tV(x:Rg):x.vs.length=6:=rfl
def Qj:∀ {l:bA Rg} {a:Int},fm a l=true->0<=a->l= []\/a+l.length<=65536
 |[],_,_,_=>.inl rfl
 |x::r,a,h,d=>by
  right;simp only[fm,dF,gD,Rg.valid]at h;obtain⟨⟨⟨h1,_⟩,h2⟩,b⟩:=h;rcases Qj b (bu)with rfl|c;·simp;omega
  ·simp;omega
def Af{l:bA Rg}(h:fm 0 l=true):l.length<=65536:=by
 rcases Qj h (hh 0)with rfl|a;·simp
 ·omega
def Ag:∀ {l:bA Rg} {a:Int},fm a l=true->∀x∈l,x.valid=true
 |x::r,a,h,y,b=>by
  simp only[fm,dF]at h;rcases eH.1 b with rfl|b;·exact h.1.1
  ·exact Ag h.2 y b
def ES(q:Rg->Bool):∀l:bA Rg,fZ q l<=l.length
 |[]=>ec _
 |x::r=>by unfold fZ;have:=ES q r;split<;>simp;omega
def ET{q:Rg->Bool}:∀ {l:bA Rg} {k:Nat} {x:Rg},l[k]?=some x->q x=true->(∀j y,j<k->l[j]?=some y->q y=false)->fZ q l=k
 |y::r,0,x,h,b,_=>by simp at h;subst h;unfold fZ;rw[bK b]
 |y::r,k+1,x,h,b,a=>by
  unfold fZ;rw[bJ (by rw[a 0 y bu rfl];decide),ET (l:=r) (k:=k) (by simpa using h) b λj z d c=>a (j+1) z bu (by simpa using c)]
def Qk{q:Rg->Bool}:∀ {l:bA Rg},(∀(j:Nat) y,l[j]?=some y->q y=false)->fZ q l=l.length
 |[],_=>rfl
 |y::r,h=>by
  unfold fZ;rw[bJ (by rw[h 0 y rfl];decide),Qk (l:=r) λj z a=>h (j+1) z (by simpa using a)];rfl
def Ah{q:Rg->Bool}:∀ {l:bA Rg} {x:Rg},l[fZ q l]?=some x->q x=true
 |y::r,x,h=>by
  unfold fZ at h;split at h;·next a=>simp at h;subst h;exact a
  ·exact Ah (l:=r) (by simpa using h)
end Go.Kw
namespace Go.Mp
open Go Go.Vc Go.Sp Go.Proofs Go.Kc Go.Kv Go.Kw
variable{E:Env}{L:cr}{w W:bI}
def cW(s:Sl)(l:bA Rg):Asn:=bw s 6 (bO Rg.vs l)
def gN{b i:Nat}{x:Rg}{F:Int->Int->Int->Int->Int->Bool->Prop}(h:Sep E L w)(a:L[i]?=some (bD b x.vs))(k:F x.a x.b x.kind x.file x.idx x.wr):
  ∃c:Int,w.cell? ((⟨b,0,none⟩:Addr).add 0)=some (Iv c)/\∃d:Int,w.cell? ((⟨b,0,none⟩:Addr).add 1)=some (Iv d)/\∃e:Int,w.cell? ((⟨b,0,none⟩:Addr).add 2)=some (Iv e)/\∃f:Int,w.cell? ((⟨b,0,none⟩:Addr).add 3)=some (Iv f)/\∃g:Int,w.cell? ((⟨b,0,none⟩:Addr).add 4)=some (Iv g)/\∃j:Bool,w.cell? ((⟨b,0,none⟩:Addr).add 5)=some (.bool j)/\F c d e f g j:=
 ld h i rfl a rfl (ld h i rfl a rfl (ld h i rfl a rfl (ld h i rfl a rfl (ld h i rfl a rfl (ld h i rfl a rfl k)))))
def po{s:Sl}{l:bA Rg}{i:Int}{k:Nat}{x:Rg}{F:Addr->Int->Int->Int->Int->Int->Bool->Prop}(q:Nat)(h:Sep E L w)(o:L[q]?=some (cW s l))(hn:s.n=l.length)(n:i=k)(hx:l[k]?=some x)(p:∀a,F a x.a x.b x.kind x.file x.idx x.wr):
  cF s.p s.n i 6 λa=>∃d:Int,w.cell? (a.add 0)=some (Iv d)/\∃e:Int,w.cell? (a.add 1)=some (Iv e)/\∃f:Int,w.cell? (a.add 2)=some (Iv f)/\∃g:Int,w.cell? (a.add 3)=some (Iv g)/\∃j:Int,w.cell? (a.add 4)=some (Iv j)/\∃m:Bool,w.cell? (a.add 5)=some (.bool m)/\F a d e f g j m:=
 jL Rg.tV q h o hn n hx (λb _ c=>⟨_,by rw[cj];exact c 0 _ rfl,_,by rw[cj];exact c 1 _ rfl,_,by rw[cj];exact c 2 _ rfl,_,by rw[cj];exact c 3 _ rfl,_,by rw[cj];exact c 4 _ rfl,_,by rw[cj];exact c 5 _ rfl,p _⟩)
def Ql(x:Rg)(h:Sep E L w):Calls P Du #[.agg x.vs.toArray] w (cZ E (.bool x.valid) L):=by
 apply axT;unfold O4 qL qg zY;refine Al.i h (λp d h1=>?_);have h1:Sep E (bD p x.vs::L) d:=h1;have bad:¬ (0<=x.a/\x.a<x.b/\x.b<=65536)->x.valid=false:=λa=>by unfold Rg.valid;rw[dq a];rfl
 refine⟨λw'=>(0<=x.a/\x.a<x.b/\x.b<=65536)/\w'=d,ld h1 0 rfl rfl rfl (cU (λa=>⟨by rw[bad bu],h1.tail⟩) (λh2=>ld h1 0 rfl rfl rfl (ld h1 0 rfl rfl rfl (ij (λa=>⟨by rw[bad bu],h1.tail⟩) (λf=>ld h1 0 rfl rfl rfl (gv (λa=>⟨by rw[bad bu],h1.tail⟩) (λg=>⟨⟨h2,f,g⟩,rfl⟩))))))),?_⟩;rintro _ _ ⟨ho,rfl⟩;have i:x.valid=(if x.kind=1 then decide (x.file=0/\x.idx=0)else if x.kind=2 then decide (0<=x.file/\x.file<=1048576/\0<=x.idx/\x.idx<=2097152-(x.b-x.a))else false):=by unfold Rg.valid;rw[dK ho,my]
 rw[i];refine ld h1 0 rfl rfl rfl (eC (λhk=>?_) (λhk=>eC (λb=>?_) (λb=>?_)))
 ·rw[bK hk];refine ld h1 0 rfl rfl rfl (eC (λhf=>ld h1 0 rfl rfl rfl ⟨?_,h1.tail⟩) (λhf=>⟨?_,h1.tail⟩))
  ·congr 1;by_cases c:x.idx=0;·rw[dK ⟨hf,c⟩,c];rfl
   ·rw[dq λe=>c e.2];exact beq_false_of_ne c
  ·rw[dq λe=>hf e.1]
 ·rw[bJ hk,bK b];refine ld h1 0 rfl rfl rfl (ij (λf1=>ld h1 0 rfl rfl rfl (ij (λf2=>ld h1 0 rfl rfl rfl (ij (λf3=>ld h1 0 rfl rfl rfl (ld h1 0 rfl rfl rfl (ld h1 0 rfl rfl rfl ⟨?_,h1.tail⟩))) (λa=>⟨?_,h1.tail⟩))) (λa=>⟨?_,h1.tail⟩))) (λa=>⟨?_,h1.tail⟩))
  ·rw[cX (n:=x.b-x.a) bu bu,cX bu bu];exact eO Value.bool (sF.2 ⟨λe=>⟨f1,f2,f3,e⟩,λe=>e.2.2.2⟩)
  ·rw[dq λe=>bu]
  ·rw[dq λe=>bu]
  ·rw[dq λe=>bu]
 ·rw[bJ hk,bJ b];exact⟨rfl,h1.tail⟩
def EU{s:Sl}{l:bA Rg}(hn:s.n=l.length)(hb:l.length<1000000)(h:Sep E (cW s l::L) w):Calls P yW #[Sv s] w (cZ E (.bool (fm 0 l)) (cW s l::L)):=by
 apply axS;unfold O3 qF qI qL qU qW zR zg;refine⟨λa i w'=>∃k:Nat,i=k/\k<=l.length/\fm a (l.drop k)=fm 0 l/\Sep E (cW s l::L) w',λ_ i _=>(l.length-i).toNat,⟨0,rfl,dX _,rfl,h⟩,?_⟩;rintro _ a _ o ⟨k,rfl,hk,hr,h1⟩;refine cU (λn=>?_) (λm=>?_)
 ·obtain⟨x,hx⟩:∃x,l[k]?=some x:=⟨_,du⟩
  have f:l.drop k=x::l.drop (k+1):=by
   have e:=(c2.1 hx).1;rw[kZ e];rw[ea e]at hx;rw[cV hx]
  rw[f]at hr;simp only[fm]at hr;refine po 0 h1 rfl hn rfl hx (λ_=>Al.i h1 (λp w2 h2=>ey _ h2 rfl (λj d=>?_)));have d:Sep E (bD p x.vs::cW s l::L) j:=d;refine gN d (i:=0) rfl (use (Ql x d) ?_);rintro _ q ⟨rfl,c⟩;refine⟨_,rfl,cy (λb=>?_) (λb=>ld c 0 rfl rfl rfl (cU (λg=>?_) (λg=>ld c 0 rfl rfl rfl ⟨⟨k+1,c4,bu,?_,c.tail⟩,?_⟩)))⟩
  ·have b:x.valid=false:=by simpa using b
   rw[b]at hr;exact⟨by rw[<- hr];rfl,c.tail⟩
  ·rw[dq bu,sH,xD]at hr;exact⟨by rw[<- hr],c.tail⟩
  ·have b:x.valid=true:=by simpa using b
   rw[b,dK bu]at hr;exact hr
  ·rw[c4];dsimp only;omega
 ·have:k=l.length:=by omega
  subst this;rw[xC]at hr;exact⟨by rw[<- hr];rfl,h1⟩
def Qm{s:Sl}{l:bA Rg}{f:bH}{q:Rg->Bool}{A:Asn}(m:∀x w,Sep E (A::cW s l::L) w->fe P f #[.agg x.vs.toArray] w (cZ E (.bool (q x)) (A::cW s l::L)))(hn:s.n=l.length)(hb:l.length<1000000)(h:Sep E (A::cW s l::L) w):
  Calls P Dv #[Sv s,f] w (cZ E (Iv (if fZ q l<l.length then(fZ q l:Int)else -1)) (A::cW s l::L)):=by
 apply Yo;unfold MJ qO qW zR;refine⟨λi w'=>∃k:Nat,i=k/\k<=l.length/\(∀j y,j<k->l[j]?=some y->q y=false)/\Sep E (A::cW s l::L) w',λi _=>(l.length-i).toNat,⟨0,rfl,dX _,λj y d=>absurd d bu,h⟩,?_⟩;rintro _ _ n ⟨k,rfl,hk,a,h1⟩;refine cU (λp=>?_) (λo=>?_)
 ·obtain⟨x,hx⟩:∃x,l[k]?=some x:=⟨_,du⟩
  refine po 1 h1 rfl hn rfl hx (λ_=>pn (m x n h1) ?_);rintro _ w2 ⟨rfl,h2⟩;refine⟨_,rfl,cy (λc=>⟨?_,h2⟩) (λc=>⟨⟨k+1,c4,bu,λj y d b=>?_,h2⟩,?_⟩)⟩;·rw[ET hx c a,eV]
  ·rcases hE j k with e|e;·exact a j y e b
   ·have:j=k:=by omega
    subst this;rw[hx]at b;cases b;exact c
  ·rw[c4];dsimp only;omega
 ·have g:k=l.length:=by omega
  subst g;refine⟨?_,h1⟩;rw[Qk λj y b=>a j y (c2.1 b).1 b,cK]
end Go.Mp
namespace Go.Sp
open Go Go.Vc
variable{E:Env}{L:cr}{w:bI}{P:cS}{s:Sl}{m:Nat}{vs:bA bH}
def aLJ{n c:Nat}(a:c<n):Builtin.nextslicecap n c<=4*n:=by
 unfold Builtin.nextslicecap;split;·omega
 ·split;·omega
  ·have go:∀r c,c<=n+(n+768)/4->Builtin.growBy n r c<=n+(n+768)/4:=by
    intro r;induction r with
    |zero=>intro c a;exact a
    |succ r b=>
     intro c a;unfold Builtin.growBy;split;·exact a
     ·exact b _ bu
   have:=go 4 c bu;omega
def bw.pre{x:bH}{k j:Nat}{news:bA bH}{st D ty:bZ}{dj:Nat}{zs:bA bH}(h:Sep E (bw s m vs::L) w)(A:hG P st=some (dj,m,zs))(B:zs.length=m)(r:Src P m D x j news w)(y:0<j)(hk:k<=s.n)(q:4*(k+j)*dj<=281474976710656)(N:k+j<4611686018427387904){G:Sl->bi9}(g:∀s' d,s'.n=k+j->Sep E (bw s' m (vs.take (k*m)++news)::bw s m vs::L) d->G s' d):
  ∃C:Sl,∃d,Sem.run P (Builtin.append_ #[st,D] ty #[.slice (gA s.p 0 k m) (k-0) (k-0),x]) w=.ok (Sv C) d/\G C d:=by
 have l:=r.newsLen;have f:∀c,c<k+j->Builtin.nextslicecap (k+j) c*dj<=281474976710656:=λc K=>lv (k2 _ (aLJ K)) q;rw[HH];have F:=h;unfold bw at h;split at h
 ·next hp=>
  obtain⟨⟨h1,h2,u⟩,h⟩:=Sep.cL.1 h;have z:k=0:=by omega
  subst z;have e:gA s.p 0 0 m=none:=by unfold gA;rw[bK rfl,hp]
  rw[e];rw[fz]at g f;refine jG.i F A r y bu (f 0 y) (λt c' d i n=>g _ d rfl ?_);rw[nA,uP,l1];refine bw.make (spare:=(Builtin.zeroCells zs.toArray (c'-j)).toList) n l ?_ i;rw[tD];simp only[l,Hn,B,<- kC];congr 1;omega
 ·next a p=>
  obtain⟨spare,h⟩:=Sep.ex.1 h;obtain⟨⟨h1,h2,u,n,H⟩,h⟩:=Sep.cL.1 h;obtain⟨b,o,sp⟩:=a;simp only at h1 h2;subst h1 h2;have e:gA s.p 0 k m=some ⟨b,0,none⟩:=by
   unfold gA;split;·exact p
   ·rw[p];show some (Addr.add ⟨b,0,none⟩ (0*m))=_;rw[cj,nA]
  rw[e];have O:k*m<=s.n*m:=k2 _ hk;refine append.i h A r (by simp;omega) (λM=>bu) bu (f _) (λM=>bu) (λ_ t c' d i v=>g _ d rfl ?_);have e:((vs++spare).drop 0).take (k*m)=vs.take (k*m):=by rw[rv,sy bu]
  rw[e]at v;have I:Sep E (bD t (vs.take (k*m)++news++(Builtin.zeroCells zs.toArray (c'-(k+j))).toList)::bw s m vs::L) d:=by
   refine Sep.swap ?_;unfold bw;rw[p];exact Sep.ex.2 ⟨spare,Sep.cL.2 ⟨⟨rfl,rfl,u,n,H⟩,v.swap⟩⟩
  have Q:(k+j)*m=k*m+j*m:=kC _ _ _;refine bw.make (spare:=(Builtin.zeroCells zs.toArray (c'-(k+j))).toList) I (by simp;omega) ?_ i;rw[tD];have J:(vs.take (k*m)++news).length=(k+j)*m:=by simp;omega
  rw[J,Hn,B,<- kC];congr 1;omega
end Go.Sp
namespace Go.Mp
open Go Go.Vc Go.Sp Go.Proofs Go.Kc Go.Kv Go.Kw
variable{E:Env}{L:cr}{w W:bI}
def qT:hG P Wq=some (48,6,[Iv 0,Iv 0,Iv 0,Iv 0,Iv 0,.bool false]):=by kernel_rfl
def EV(x:Rg):∀u∈x.vs,u.oneCell'=true:=by
 intro u hu;simp only[Rg.vs,eH,uN,uT]at hu;rcases hu with rfl|rfl|rfl|rfl|rfl|rfl<;>rfl
def Qn(l:bA Rg):∀u∈bO Rg.vs l,u.oneCell'=true:=by
 intro u hu;obtain⟨c,a,hu⟩:=List.mem_flatten.1 hu;obtain⟨x,_,rfl⟩:=fD.1 a;exact EV x u hu
def aLo{s:Sl}{l:bA Rg}(x:Rg)(hn:s.n=l.length)(hb:l.length<1000000)(h:Sep E (cW s l::L) w):
  Calls P JR #[Sv s,.agg x.vs.toArray] w (cC λv w'=>∃s':Sl,v=.tuple #[.slice s'.p s'.n s'.c,Iv (eN l x).2]/\
   (((eN l x).2≠0/\(eN l x).1=l/\Sep E (cW s l::L) w')\/((eN l x).2=0/\s'.n=(eN l x).1.length/\Sep E (cW s' (eN l x).1::L) w'))):=by
 obtain⟨n,k⟩:∃n,fZ (λy=>decide (x.a<y.b)) l=n:=⟨_,rfl⟩
 have V:n<=l.length:=by rw[<- k];exact ES _ _
 obtain⟨K,hK⟩:∃K:bj0,K= λv w'=>∃s':Sl,v=.tuple #[.slice s'.p s'.n s'.c,Iv (eN l x).2]/\
   (((eN l x).2≠0/\(eN l x).1=l/\Sep E (cW s l::L) w')\/((eN l x).2=0/\s'.n=(eN l x).1.length/\Sep E (cW s' (eN l x).1::L) w')):=⟨_,rfl⟩
 rw[<- hK];have bad:∀w',(fm 0 l=false\/x.valid=false\/64<=l.length)->Sep E (cW s l::L) w'->K (.tuple #[aP8,Iv 1]) w':=by
  intro w' j q;have e:eN l x=(l,1):=by unfold eN;rw[bK j]
  rw[hK,e];exact⟨⟨none,0,0⟩,rfl,.inl ⟨by show(1:Int)≠0;decide,rfl,q⟩⟩
 apply aAr;unfold OP q9 qF qL qQ qW qg zR zY;refine Al.i h (λp Q h1=>?_);have h1:Sep E (bD p x.vs::cW s l::L) Q:=h1;refine⟨λw'=>(fm 0 l=true/\x.valid=true/\l.length<64)/\Sep E (bD p x.vs::cW s l::L) w',use (EU hn hb h1.swap) ?_,?_⟩
 ·rintro _ w2 ⟨rfl,h2⟩;refine⟨_,rfl,cy (λhr=>bad _ (.inl (by simpa using hr)) (h2.fr 0 rfl |>.ro 2 [0] rfl)) (λhr=>gN h2.swap (i:=0) rfl (use (Ql x h2.swap) ?_))⟩;rintro _ C ⟨rfl,d⟩;refine⟨_,rfl,cy (λm=>bad _ (.inr (.inl (by simpa using m))) d.tail) (λm=>hq (λj=>bad _ (.inr (.inr bu)) d.tail) (λj=>⟨⟨by simpa using hr,by simpa using m,bu⟩,d⟩))⟩
 rintro _ w2 ⟨⟨hr,m,O⟩,h2⟩;have a:eN l x=(match l[n]? with|some y=>if y.a<x.b then(l,4)else(l.take n++x::l.drop n,0)|none=>(l.take n++x::l.drop n,0)):=by
  unfold eN;rw[bJ (by rw[hr,m];rintro(e|e|e)<;>first|cases e|omega),k];rfl
 refine use (Qm (q:=λy=>decide (x.a<y.b)) (λy C d=>⟨_,_,rfl,by kernel_rfl,?_⟩) hn hb h2) ?_
 ·show Calls P Ke #[.agg y.vs.toArray,Pb p] C _;apply axQ;unfold O5 qL zY;refine Al.i d (λr M g=>?_);have g:Sep E (bD r y.vs::bD p x.vs::cW s l::L) M:=g;exact ld g 0 rfl rfl rfl (ld g 1 rfl rfl rfl ⟨rfl,g.tail⟩)
 rintro _ C ⟨rfl,d⟩;rw[k];refine⟨_,rfl,λi w'=>i=n/\Sep E (bD p x.vs::cW s l::L) w',cU (λj=>⟨?_,d⟩) (λj=>⟨?_,d⟩),?_⟩;·split at j<;>omega
 ·split at j;·next e=>rw[bK e]
  ·omega
 rintro _ _ M ⟨rfl,g⟩;refine⟨λw'=>(eN l x=(l.take n++x::l.drop n,0))/\Sep E (bD p x.vs::cW s l::L) w',Dr.i g (λR f=>cU (λU=>?_) (λT=>⟨?_,f⟩)),?_⟩
 ·obtain⟨y,I⟩:∃y,l[n]?=some y:=⟨_,du⟩
  rw[I]at a;dsimp only at a;refine jL Rg.tV 1 f rfl hn rfl I (λb _ t=>⟨y.a,by rw[cj];exact t 0 _ rfl,?_⟩);refine ld f 0 rfl rfl rfl (cU (λt=>?_) (λt=>⟨?_,f⟩))
  ·rw[bK t]at a;rw[hK,a];exact⟨⟨none,0,0⟩,rfl,.inl ⟨by show(4:Int)≠0;decide,rfl,f.tail⟩⟩
  ·rw[cK]at a;exact a
 ·rw[gI bu]at a;exact a
 rintro _ R ⟨A,f⟩;have N:=bw.cap f.tail;refine Dr.i f (λW D=>⟨⟨bu,bu⟩,⟨bu,bu⟩,gN D (i:=0) rfl ⟨⟨bu,bu⟩,Al.i D (λq S o=>?_)⟩⟩);have o:Sep E (bD q x.vs::bD p x.vs::cW s l::L) S:=o;rw[dt];have G:=Src.bD (n:=1) (c:=1) o (i:=0) rfl qT rfl (EV x);refine bw.pre (o.ro 3 [2,0,1] rfl) qT rfl G bu bu bu bu (λs' X u z=>?_);rw[Ev Rg.tV]at z;have H:=Src.sub (l:=n) (n':=s.n-n) (c':=s.c-n) z (q:=1) rfl qT bu (Qn l);refine bw.app z qT rfl H (by rw[u];omega) (λJ Y B F=>?_);rw[ZV Rg.tV,Ev Rg.tV (l.drop n),iq (l:=l.drop n) (by rw[ot,hn];exact ec _)]at F;rw[hK,A];refine⟨J,rfl,.inr ⟨rfl,?_,?_⟩⟩;·rw[B,u,hn];simp;omega
 ·have e:bO Rg.vs (l.take n++x::l.drop n)=bO Rg.vs (l.take n)++x.vs++bO Rg.vs (l.drop n):=by
   rw[nm];show _++bO Rg.vs ([x]++l.drop n)=_;rw[nm,ph,dp]
  unfold cW;rw[e];exact F.ro 4 [0] rfl
end Go.Mp
namespace Go.Kw
def Rg.fits(x:Rg):Prop:=(0<=x.a/\x.a<x.b/\x.b<=65536)/\0<=x.idx/\x.idx<=2097152
def Rg.ft{x:Rg}(h:x.valid=true):x.fits:=by
 unfold Rg.valid at h;simp only[dF,gD]at h;refine⟨h.1,?_⟩;obtain⟨h1,h2⟩:=h;split at h2;·simp at h2;omega
 ·split at h2;·simp at h2;omega
  ·cases h2
end Go.Kw
namespace Go.Mp
open Go Go.Vc Go.Sp Go.Proofs Go.Kc Go.Kv Go.Kw
variable{E:Env}{L:cr}{w W:bI}
def aKi{x:Rg}{a b:Int}(hx:x.fits)(s:0<=a/\a<=131072)(h:Sep E L w):Calls P Kg #[.agg x.vs.toArray,Iv a,Iv b] w (cZ E (.agg (prt x a b).vs.toArray) L):=by
 apply ay0;unfold O7 qL qU qg zR zY zg;refine Al.i h (λp t h1=>Al.i h1 (λq w2 h2=>?_));have h2:Sep E (bD q [Iv 0,Iv 0,Iv 0,Iv 0,Iv 0,.bool false]::bD p x.vs::L) w2:=h2;obtain⟨y,g⟩:∃y:Rg,y= {x with idx:=if x.kind=2 then x.idx+(a-x.a)else x.idx} :=⟨_,rfl⟩
 refine⟨λw'=>Sep E (bD p y.vs::bD q [Iv 0,Iv 0,Iv 0,Iv 0,Iv 0,.bool false]::L) w',ld h2 1 rfl rfl rfl (eC (λhk=>ld h2 1 rfl rfl rfl (ld h2 1 rfl rfl rfl ?_)) (λhk=>?_)),?_⟩
 ·obtain⟨o,r⟩:=hx;rw[cX (n:=a-x.a) bu bu,cX bu bu];refine St.i h2.swap (by show 4<6;decide) (λk f=>?_);have e:(x.vs.set 4 (Iv (x.idx+(a-x.a))))=y.vs:=by rw[g];show _= [_,_,_,_,Value.int .i64 (if x.kind=2 then x.idx+(a-x.a)else x.idx),_];rw[bK hk];rfl
  exact e▸f
 ·have e:y=x:=by rw[g,bJ hk]
  rw[e];exact h2.swap
 rintro _ k f;refine St.i f (by show 0<6;decide) (λu j=>St.i j (by show 1<6;decide) (λl c=>?_));have e:((y.vs.set 0 (Iv a)).set 1 (Iv b))=(prt x a b).vs:=by rw[g];rfl
 have c:Sep E (bD p (prt x a b).vs::bD q [Iv 0,Iv 0,Iv 0,Iv 0,Iv 0,.bool false]::L) l:=e▸c;refine gN c (i:=0) rfl (ey _ c.swap rfl (λm d=>?_));have d:Sep E (bD q (prt x a b).vs::bD p (prt x a b).vs::L) m:=d;exact gN d (i:=0) rfl ⟨rfl,d.tail.tail⟩
def EW{x:Rg}{a b:Int}{o:Nat}{s:Sl}{l:bA Rg}(hx:x.fits)(m:0<=a/\a<=131072)(hn:s.n=l.length)(hb:l.length<1000000)(h:Sep E (bD o [Sv s]::cW s l::L) w):
  Calls P yX #[.agg x.vs.toArray,Iv a,Iv b,Pb o] w (cC λv w'=>v=.tuple #[]/\∃s':Sl,s'.n=(l++fU x a b).length/\Sep E (bD o [.slice s'.p s'.n s'.c]::cW s' (l++fU x a b)::L) w'):=by
 apply axR;unfold O6 qc zR zY zf;refine Al.i h (λp t h1=>cU (λf=>?_) (λy=>⟨rfl,s,?_⟩))
 ·have h1:Sep E (bD p x.vs::bD o [Sv s]::cW s l::L) t:=h1;refine Dr.i h1 (λw2 h2=>⟨s,h2.cellAt 1 rfl 0,gN h2 (i:=0) rfl (use (aKi hx m h2) ?_)⟩);rintro _ z ⟨rfl,e⟩;refine⟨_,_,_,_,_,_,rfl,s,e.cellAt 1 rfl 0,rfl,Al.i e (λq u d=>⟨s,d.cellAt 2 rfl 0,rfl,?_⟩)⟩;have d:Sep E (bD q (prt x a b).vs::bD p x.vs::bD o [Sv s]::cW s l::L) u:=d;have r:=Src.bD (n:=1) (c:=1) d (i:=0) rfl qT rfl (EV (prt x a b));refine bw.append (d.ro 4 [3,0,1,2] rfl) qT rfl r bu (by rw[hn];omega) (λs' A g j=>?_);refine St.i (j.ro 4 [3,0] rfl) (by show 0<1;decide) (λB k=>⟨rfl,s',?_⟩);have hk:fU x a b= [prt x a b]:=bK f;rw[hk];refine⟨by rw[g,hn];simp,?_⟩;unfold cW;rw[nm,ph];exact k
 ·have hk:fU x a b= []:=cK;rw[hk,g3];exact⟨hn,h1.tail⟩
def aLp{s:Sl}{l:bA Rg}{a b:Int}(Q:0<=a/\a<=65536)(K:0<=b/\b<=131072)(hn:s.n=l.length)(hb:l.length<400000)(h:Sep E (cW s l::L) w):
  Calls P JT #[Sv s,Iv a,Iv b] w (cC λv w'=>∃s':Sl,v=.slice s'.p s'.n s'.c/\s'.n=(ha l a b).length/\Sep E (cW s' (ha l a b)::cW s l::L) w'):=by
 apply aAs;unfold OR qE qF qO qU qW qc zR zZ zg;refine use (EU hn bu h) ?_;rintro _ S ⟨rfl,h1⟩;refine⟨_,rfl,cy (λhr=>⟨⟨none,0,0⟩,rfl,?_⟩) (λhr=>?_)⟩
 ·have hr:fm 0 l=false:=by simpa using hr
  have e:ha l a b= []:=by unfold ha;rw[hr];rfl
  rw[e];exact⟨rfl,bw.none_ h1⟩
 have hr:fm 0 l=true:=by simpa using hr
 have e:ha l a b=l.flatMap (fG a b):=by unfold ha;rw[bK hr]
 rw[e];have hlen:∀k,((l.take k).flatMap (fG a b)).length<=2*k:=by
  intro k;induction k with
  |zero=>simp
  |succ k R=>
   rw[l0,xx,df];have:(l[k]?.toList.flatMap (fG a b)).length<=2:=by
    cases l[k]? with
    |none=>simp
    |some x=>
     simp only[Option.toList_some,oq,List.flatMap_nil,g3];unfold fG fU;split;·split<;>simp
     ·rw[df];split<;>split<;>simp
   omega
 refine Al.i h1 (λo w2 h2=>⟨λi w'=>∃k:Nat,i=k/\k<=l.length/\∃s':Sl,s'.n=((l.take k).flatMap (fG a b)).length/\Sep E (bD o [.slice s'.p s'.n s'.c]::cW s' ((l.take k).flatMap (fG a b))::cW s l::L) w',λi _=>(l.length-i).toNat,
  ⟨0,rfl,dX _,⟨none,0,0⟩,rfl,(bw.none_ (m:=6) h2).swap⟩,?_⟩)
 rintro _ _ T ⟨k,rfl,hk,s',j,r⟩;refine cU (λO=>?_) (λz=>?_)
 ·obtain⟨x,hx⟩:∃x,l[k]?=some x:=⟨_,du⟩
  have A:=Rg.ft (Ag hr x (eG hx));have N:=hlen k;have c:(l.take (k+1)).flatMap (fG a b)=(l.take k).flatMap (fG a b)++fG a b x:=by rw[l0,hx,xx];simp
  obtain⟨t,u⟩:=A;refine po 2 r rfl hn rfl hx (λ_=>Al.i r (λp U F=>ey _ F rfl (λJ d=>?_)));have d:Sep E (bD p x.vs::bD o [.slice s'.p s'.n s'.c]::cW s' ((l.take k).flatMap (fG a b))::cW s l::L) J:=d;have g:((l.length:Int)-((k+1:Nat):Int)).toNat<((l.length:Int)-(k:Int)).toNat:=by omega
  have em:∀p q:Int,min1 p q=min p q:=λp q=>by unfold min1;split<;>omega
  have D:∀p q:Int,eR p q=max p q:=λp q=>by unfold eR;split<;>omega
  simp only[em,D];refine hq (λz=>gN d (i:=0) rfl (ld d 0 rfl rfl rfl (ld d 0 rfl rfl rfl (use (EW ⟨t,u⟩ bu j bu (d.ro 3 [1,2,0] rfl)) ?_)))) (λH=>gN d (i:=0) rfl (ld d 0 rfl rfl rfl (ld d 0 rfl rfl rfl (use (EW ⟨t,u⟩ bu j bu (d.ro 3 [1,2,0] rfl)) ?_))))
  ·rintro _ C ⟨rfl,s2,y,f⟩;have n:fG a b x=fU x x.a x.b:=bK z;refine⟨rfl,⟨k+1,c4,bu,s2,?_,?_⟩,?_⟩;·rw[c,n];exact y
   ·rw[c,n];exact f.ro 4 [0,1,3] rfl
   ·rw[c4];exact g
  ·rintro _ C ⟨rfl,s2,y,f⟩;have n:fG a b x=fU x x.a (min x.b a)++fU x (max x.a b) x.b:=cK;have M:(fU x x.a (min x.b a)).length<=1:=by unfold fU;split<;>simp
   have f:Sep E (bD o [Sv s2]::cW s2 ((l.take k).flatMap (fG a b)++fU x x.a (min x.b a))::bD p x.vs::cW s l::L) C:=f;refine⟨rfl,gN f (i:=2) rfl (ld f 2 rfl rfl rfl (ld f 2 rfl rfl rfl (use (EW ⟨t,u⟩ bu y (by rw[df];omega) f) ?_)))⟩;rintro _ V ⟨rfl,I,B,G⟩;refine⟨rfl,⟨k+1,c4,bu,I,?_,?_⟩,?_⟩;·rw[c,n,<- dp];exact B
   ·rw[c,n,<- dp];exact G.ro 4 [0,1,3] rfl
   ·rw[c4];exact g
 ·have:k=l.length:=by omega
  subst this;rw[fB]at j r;exact⟨s',r.cell 0,s',rfl,j,r.tail⟩
def tW(o:bX Rg):bH:=match o with
 |some x=>.tuple #[.agg x.vs.toArray,.bool true]
 |none=>.tuple #[.agg (Rg.vs ⟨0,0,0,0,0,false⟩).toArray,.bool false]
def aKh{s:Sl}{l:bA Rg}{p:Int}(hn:s.n=l.length)(hb:l.length<1000000)(h:Sep E (cW s l::L) w):Calls P Kh #[Sv s,Iv p] w (cZ E (tW (j0 l p)) (cW s l::L)):=by
 apply ayZ;unfold O8 qC qF qQ qU qW zR zg;refine Al.i h (λq J h1=>Al.i h1 (λr w2 h2=>?_));have h2:Sep E (bD r (Rg.vs ⟨0,0,0,0,0,false⟩)::bD q [Iv p]::cW s l::L) w2:=h2;refine use (Qm (A:=bD q [Iv p]) (L:=bD r (Rg.vs ⟨0,0,0,0,0,false⟩)::L) (q:=λx=>x.has p) (λy k d=>⟨_,_,rfl,by kernel_rfl,?_⟩) hn hb (h2.ro 3 [1,2,0] rfl)) ?_
 ·show Calls P Kz #[.agg y.vs.toArray,Pb q] k _;apply awu;unfold Pe qD qL zY;refine Al.i d (λt m a=>?_);have a:Sep E (bD t y.vs::bD q [Iv p]::cW s l::bD r (Rg.vs ⟨0,0,0,0,0,false⟩)::L) m:=a;refine ld a 0 rfl rfl rfl (ld a 1 rfl rfl rfl (ij (λg=>ld a 1 rfl rfl rfl (ld a 0 rfl rfl rfl ⟨?_,a.tail⟩)) (λg=>⟨?_,a.tail⟩)));·exact eO Value.bool (sF.2 ⟨λe=>⟨g,e⟩,λe=>e.2⟩)
  ·exact eO Value.bool (dq λe=>bu).symm
 rintro _ k ⟨rfl,d⟩;have d:Sep E (bD q [Iv p]::cW s l::bD r (Rg.vs ⟨0,0,0,0,0,false⟩)::L) k:=d;have hle:=ES (λx=>x.has p) l;obtain⟨n,j⟩:∃n,fZ (λx=>x.has p) l=n:=⟨_,rfl⟩
 have hf:j0 l p=if fm 0 l then l[n]? else none:=by unfold j0;rw[j]
 rw[j]at hle ⊢;have zero:∀ {w:bI},j0 l p=none->Sep E (bD q [Iv p]::cW s l::bD r (Rg.vs ⟨0,0,0,0,0,false⟩)::L) w->k5 (Rg.vs ⟨0,0,0,0,0,false⟩) ⟨r,0,none⟩ (λb=>∃z:Int,b.cell? ((⟨r,0,none⟩:Addr).add 0)=some (Iv z)/\∃B:Int,b.cell? ((⟨r,0,none⟩:Addr).add 1)=some (Iv B)/\∃C:Int,b.cell? ((⟨r,0,none⟩:Addr).add 2)=some (Iv C)/\∃D:Int,b.cell? ((⟨r,0,none⟩:Addr).add 3)=some (Iv D)/\∃F:Int,b.cell? ((⟨r,0,none⟩:Addr).add 4)=some (Iv F)/\∃G:Bool,b.cell? ((⟨r,0,none⟩:Addr).add 5)=some (.bool G)/\
   Value.tuple #[.agg #[Iv z,Iv B,Iv C,Iv D,Iv F,.bool G],.bool false]=tW (j0 l p)/\Sep E (cW s l::L) b) w:=by
  intro w g H;refine ey _ (H.ro 3 [2,0,1] rfl) rfl (λb o=>gN o (i:=0) rfl ⟨by rw[g];rfl,o.ro 3 [2] rfl⟩)
 refine⟨_,rfl,cU (λc=>zero ?_ d) (λu=>use (EU hn hb (d.ro 3 [1,0,2] rfl)) ?_)⟩
 ·rw[hf];split at c;·omega
  ·rw[gI bu];split<;>rfl
 rintro _ m ⟨rfl,a⟩;have a:Sep E (cW s l::bD q [Iv p]::bD r (Rg.vs ⟨0,0,0,0,0,false⟩)::L) m:=a;have c:n<l.length:=by
  rcases hE n l.length with e|e;·exact e
  ·rw[cK]at u;omega
 rw[bK c];refine⟨_,rfl,cy (λhr=>zero ?_ (a.ro 3 [1,0,2] rfl)) (λhr=>?_)⟩
 ·have hr:fm 0 l=false:=by simpa using hr
  rw[hf,hr];rfl
 ·have hr:fm 0 l=true:=by simpa using hr
  obtain⟨x,hx⟩:∃x,l[n]?=some x:=⟨_,ea c⟩
  refine po 0 a rfl hn rfl hx (λ_=>ey _ (a.ro 3 [2,0,1] rfl) rfl (λI f=>?_));have f:Sep E (bD r x.vs::cW s l::bD q [Iv p]::L) I:=f;refine gN f (i:=0) rfl ⟨?_,f.ro 3 [1] rfl⟩;rw[hf,hr,bK rfl,hx];rfl
def aLq{x:Rg}{p:Int}(hx:x.fits)(hp:0<=p/\p<65536)(h:Sep E L w):Calls P JV #[.agg x.vs.toArray,Iv p] w (cZ E (.agg #[Iv (dM x p).1,Iv (dM x p).2]) L):=by
 apply aAt;unfold OV qL qU zY zZ;refine Al.i h (λq f h1=>Al.i h1 (λr w2 h2=>?_));have h2:Sep E (bD r [Iv 0,Iv 0]::bD q x.vs::L) w2:=h2;obtain⟨c,d⟩:=hx;refine ld h2 1 rfl rfl rfl (eC (λhk=>ld h2 1 rfl rfl rfl (ld h2 1 rfl rfl rfl (ld h2 1 rfl rfl rfl (ey _ h2 rfl (λb a=>?_))))) (λhk=>ey _ h2 rfl (λb a=>?_)))
 ·rw[cX (n:=x.idx+p) bu bu,cX bu bu]at a;have e:dM x p=(x.file,x.idx+p-x.a):=bK hk;rw[e];exact ld a 0 rfl rfl rfl (ld a 0 rfl rfl rfl ⟨rfl,a.tail.tail⟩)
 ·have e:dM x p=(-1,p):=bJ hk;rw[e];exact ld a 0 rfl rfl rfl (ld a 0 rfl rfl rfl ⟨rfl,a.tail.tail⟩)
end Go.Mp
