/- A part of the proof. -/
import Derived.Test.YtafigbgagbolgaaGreatDoorD11
import Derived.Laws.IdiomRangeMap
set_option linter.all false
set_option maxRecDepth 100000
open Go.IntKind(i64 u64)
open Go.Proofs.Tryz
namespace Go.Mp
open Go Go.Vc Go.Sp Go.Stab
section
variable{E:Env}{L:cr}{w:bI}{s:Sl}{cmp:bH}{lt:Int->Int->Bool}{R b:Int->Int->Prop}
def fw(b:Int->Int->Prop)(X Y:bS):Prop:=∀x∈X,∀y∈Y,b x y
def fw.merge{Ps Qs:bA (bS)}{X Y Z:bS}(h:(Ps++X::Y::Qs).Pairwise (fw b))(j:Z.Perm (X++Y)):(Ps++Z::Qs).Pairwise (fw b):=by
 have hm:∀z,z∈Z->z∈X\/z∈Y:=λz a=>gb.1 (j.mem_iff.1 a);rw[jE,ht,ht]at h;rw[jE,ht];obtain⟨h1,⟨h2,g,i⟩,d⟩:=h;refine⟨h1,⟨λQ c z a y f=>?_,i⟩,λP' e Q c=>?_⟩
 ·rcases hm z a with a|a;·exact h2 Q (by simp[c]) z a y f
  ·exact g Q c z a y f
 ·rcases eH.1 c with rfl|c
  ·intro x hx z a;rcases hm z a with a|a;·exact d P' e X (by simp) x hx z a
   ·exact d P' e Y (by simp) x hx z a
  ·exact d P' e Q (by simp[c])
def fw.perm{Ps Qs:bA (bS)}{X Z:bS}(h:(Ps++X::Qs).Pairwise (fw b))(g:Z.Perm X):(Ps++Z::Qs).Pairwise (fw b):=by
 have hm:∀z,z∈Z->z∈X:=λz c=>g.mem_iff.1 c;rw[jE,ht]at h ⊢;obtain⟨h1,⟨h2,f⟩,d⟩:=h;refine⟨h1,⟨λQ a z c y i=>h2 Q a z (hm z c) y i,f⟩,λP' e Q a=>?_⟩;rcases eH.1 a with rfl|a;·intro x hx z c;exact d P' e X (by simp) x hx z (hm z c)
 ·exact d P' e Q (by simp[a])
def fw.split{Ps:bA (bS)}{a M2:bS}(h:(Ps++[a++M2]).Pairwise (fw b))(c:(a++M2).Pairwise b):(Ps++[a,M2]).Pairwise (fw b):=by
 rw[jE]at h c ⊢;obtain⟨h1,_,f⟩:=h;refine⟨h1,by simpa[fw]using c.2.2,λP' g Q d x hx y e=>?_⟩;have:=f P' g (a++M2) (by simp) x hx y;simp only[eH,uN,uT]at d;rcases d with rfl|rfl;·exact this (by simp[e])
 ·exact this (by simp[e])
def fI(R:Int->Int->Prop)(b:Nat)(a:bA (bS)):Prop:=∀F∈a,F.length=b/\F.Pairwise R
def fI.length{b:Nat}:∀ {a:bA (bS)},fI R b a->a.flatten.length=b*a.length
 |[],_=>by simp
 |F::a,h=>by
  have h1:=(h F (by simp)).1;have h2:a.flatten.length=b*a.length:=fI.length (λG c=>h G (by simp[c]));rw[uI,df,h1,h2,hN,nB,fY,sI]
def fI.snoc{b:Nat}{c:bA (bS)}{F:bS}(h:fI R b c)(h1:F.length=b)(h2:F.Pairwise R):fI R b (c++[F]):=by
 intro G a;rcases gb.1 a with a|a;·exact h G a
 ·rw[h9.1 a];exact⟨h1,h2⟩
def E7{l:bS}(K:lO R b lt)(ag:l.Pairwise b)(hn:s.n=l.length)(ah:l.length<288230376151711744)(Q:gO E L s cmp lt l.length)(h:Sep E (bw s 1 (bC l)::L) w):
  Calls P KF #[Sv s,Iv (s.n:Nat),cmp] w (cC λv w'=>v=.tuple #[]/\∃l',l'.Perm l/\l'.Pairwise R/\Sep E (bw s 1 (bC l')::L) w'):=by
 apply Zi;unfold Ny qE qI qO;rw[hn];refine⟨λa e w=>∃c M,a=(20*c.length:Nat)/\e=(20*c.length+20:Nat)/\fI R 20 c/\M.Pairwise b/\(c++[M]).Pairwise (fw b)/\(c.flatten++M).Perm l/\Sep E (bw s 1 (bC (c.flatten++M))::L) w,λa _ _=>(l.length-a).toNat,
  ⟨[],l,rfl,rfl,λF i=>(by cases i),ag,by simp,by simp,by simpa using h⟩,?_⟩
 rintro _ a e ar ⟨c,M,rfl,rfl,i,S,p,j,h1⟩;have hlen:=j.length_eq;have k:=i.length;rw[df,k]at hlen;refine ij (λhle=>?_) (λad=>?_)
 ·have m:c.flatten++M=c.flatten++M.take 20++M.drop 20:=by rw[dp,fP]
  have ae:(M.take 20).length=20:=by simp;omega
  have u:=S;rw[<- fP 20 M]at u p;have ab:=fw.split p u;rw[jE]at u;have C:(c.flatten++M.take 20++M.drop 20).length=l.length:=by rw[<- m];exact j.length_eq
  rw[m]at h1;rw[<- hn];refine use (wv K u.1 (by rw[C];exact hn) bu (by rw[C];exact Q) h1 (by rw[k]) (by rw[k,ae];omega)) ?_;rintro _ w2 ⟨rfl,X,G,aa,h2⟩;rw[cX bu bu];have ak:X.length=20:=by rw[G.length_eq,ae]
  refine⟨rfl,⟨c++[X],M.drop 20,by simp;omega,by simp;omega,i.snoc ak aa,u.2.1,?_,?_,?_⟩,by dsimp only;omega⟩
  ·have:=fw.perm (Ps:=c) (Qs:=[M.drop 20]) ab G;simpa using this
  ·refine List.Perm.trans ?_ j;rw[m];simp only[Hf,uI,Bf,g3];exact(G.append_left _).append_right _
  ·simpa using h2
 ·have m:c.flatten++M=c.flatten++M++[]:=by simp
  rw[m]at h1;rw[<- hn];refine use (wv K S (by rw[<- m,j.length_eq];exact hn) (by rw[<- m,j.length_eq];omega) (by rw[<- m,j.length_eq];exact Q) h1 (by rw[k]) (by rw[k];omega)) ?_;rintro _ w2 ⟨rfl,T,W,q,h2⟩;rw[g3]at h2;have aq:=W.length_eq;refine⟨rfl,λz w=>∃(f:Nat) (c:bA (bS)) (T:bS),z=f/\20<=f/\fI R f c/\T.length<f/\T.Pairwise R/\(c++[T]).Pairwise (fw b)/\(c.flatten++T).Perm l/\Sep E (bw s 1 (bC (c.flatten++T))::L) w,λz _=>(l.length-z).toNat,
   ⟨20,c,T,rfl,ec _,i,bu,q,fw.perm p W,(W.append_left _).trans j,h2⟩,?_⟩
  rintro _ z au ⟨f,c,T,rfl,an,i,I,q,p,j,O⟩;have hlen:=j.length_eq;have k:=i.length;rw[df,k]at hlen;refine cU (λap=>?_) (λao=>⟨rfl,_,j,?_,O⟩)
  ·have aj:f<l.length:=by omega
   rw[cX (n:=2*(f:Int)) bu bu];refine⟨λa e w=>∃d c T,a=(2*f*d.length:Nat)/\e=(2*f*d.length+2*f:Nat)/\fI R (2*f) d/\fI R f c/\T.length<f/\T.Pairwise R/\(d++(c++[T])).Pairwise (fw b)/\
     (d.flatten++(c.flatten++T)).Perm l/\Sep E (bw s 1 (bC (d.flatten++(c.flatten++T)))::L) w,λa _ _=>(l.length-a).toNat,
    ⟨[],c,T,by simp,by simp,λF i=>(by cases i),i,I,q,by simpa using p,by simpa using j,by simpa using O⟩,?_⟩
   rintro _ a e av ⟨d,c,T,rfl,rfl,V,i,I,q,p,j,x⟩;have hlen:=j.length_eq;have t:=V.length;have k:=i.length;rw[df,df,k,t]at hlen;have hmul:f*c.length<=l.length:=by omega
   have af:2*f*d.length<=l.length:=by omega
   rw[cX (n:=((2*f*d.length:Nat):Int)+f) bu bu];refine ij (λhle=>?_) (λad=>?_)
   ·obtain⟨r,o,g,rfl⟩:∃r o g,c=r::o::g:=by
     match c,hlen with
     |[],hl=>simp at hl;omega
     |[F],hl=>simp at hl;omega
     |r::o::g,_=>exact⟨r,o,g,rfl⟩
    have f1:=i r (by simp);have f2:=i o (by simp);have y:=p;rw[jE]at y;have N:fw b r o:=(ht.1 y.2.1).1 o (by simp);have m:d.flatten++((r::o::g).flatten++T)=d.flatten++r++o++(g.flatten++T):=by simp
    have C:(d.flatten++r++o++(g.flatten++T)).length=l.length:=by rw[<- m];exact j.length_eq
    rw[m]at x;rw[<- hn];refine use (wx K bu hn Q _ (ec _) bu bu f1.2 f2.2 N C x (by rw[t]) (by rw[t,f1.1]) (by rw[t,f1.1,f2.1];omega)) ?_;rintro _ am ⟨rfl,Z,A,J,D⟩;have al:Z.length=2*f:=by rw[A.length_eq,df,f1.1,f2.1];omega
    rw[cX bu bu];refine⟨rfl,⟨d++[Z],g,T,?_,?_,V.snoc al J,λF Y=>i F (by simp[Y]),I,q,?_,?_,?_⟩,?_⟩;·rw[df,mx,nB,fY]
    ·rw[df,mx,nB,fY];omega
    ·have:=fw.merge (Ps:=d) (Qs:=g++[T]) (by simpa using p) A;simpa using this
    ·refine List.Perm.trans ?_ j;rw[m];simp only[Hf,uI,Bf,g3];have:d.flatten++r++o++(g.flatten++T)=d.flatten++(r++o)++(g.flatten++T):=by simp
     rw[this];exact(A.append_left _).append_right _
    ·simpa using D
    ·dsimp only;omega
   ·have fin:∀ {T':bS} {w':bI},T'.length<2*f->T'.Pairwise R->T'.Perm (c.flatten++T)->(d++[T']).Pairwise (fw b)->Sep E (bw s 1 (bC (d.flatten++T'))::L) w'->
      ((∃(B:Nat) (c:bA (bS)) (T:bS),i64.wrap ((f:Int)*2)=B/\20<=B/\fI R B c/\T.length<B/\T.Pairwise R/\(c++[T]).Pairwise (fw b)/\(c.flatten++T).Perm l/\Sep E (bw s 1 (bC (c.flatten++T))::L) w')/\
       (l.length-i64.wrap ((f:Int)*2)).toNat<(l.length-(f:Int)).toNat):=by
     intro T' w' h1 h2 O x D;rw[cX bu bu];exact⟨⟨2*f,d,T',bu,bu,V,h1,h2,x,(O.append_left _).trans j,D⟩,bu⟩
    rcases c with _|⟨F,_|⟨o,g⟩⟩
    ·refine cU (λU=>?_) (λ_=>?_);·exfalso;simp at hlen;omega
     ·exact fin (T':=T) bu q (by simp) (by simpa using p) (by simpa using x)
    ·have f1:=i F (by simp);simp only[mx,fY]at hlen;refine cU (λU=>?_) (λU=>?_)
     ·have y:=p;rw[jE]at y;have N:fw b F T:=(ht.1 y.2.1).1 T (by simp);have m:d.flatten++([F].flatten++T)=d.flatten++F++T++[]:=by simp
      have C:(d.flatten++F++T++[]).length=l.length:=by rw[<- m];exact j.length_eq
      rw[m]at x;rw[<- hn];refine use (wx K bu hn Q _ (ec _) bu bu f1.2 q N C x (by rw[t]) (by rw[t,f1.1]) (by rw[t,f1.1];omega)) ?_;rintro _ am ⟨rfl,Z,A,J,D⟩;refine⟨rfl,?_⟩;rw[hn];refine fin (T':=Z) (by rw[A.length_eq,df,f1.1];omega) J (by simpa using A) ?_ (by simpa using D);exact fw.merge (Ps:=d) (Qs:=[]) (by simpa using p) A
     ·have H:T= []:=by
       have:T.length=0:=by omega
       exact xo.1 this
      subst H;refine fin (T':=F) bu f1.2 (by simp) ?_ (by simpa using x);have:(d++F::[]::[]).Pairwise (fw b):=by simpa using p
      exact fw.merge (Ps:=d) (Qs:=[]) this (by simp)
    ·exfalso;simp only[hN,nB,fY]at hlen;omega
  ·have ai:l.length<=f:=by omega
   match c,i,k,hlen,p with
   |[],_,_,_,_=>simpa using q
   |[F],i,_,hlen,_=>
    have f1:=i F (by simp);have H:T= []:=by
     have:T.length=0:=by simp at hlen;omega
     exact xo.1 this
    subst H;simpa using f1.2
   |r::o::g,_,_,hlen,_=>
    exfalso;simp only[hN,nB,fY]at hlen;omega
def E8{l:bS}(K:lO R b lt)(c:l.Pairwise b)(hn:s.n=l.length)(a:l.length<288230376151711744)(d:gO E L s cmp lt l.length)(h:Sep E (bw s 1 (bC l)::L) w):
  Calls P Kr #[Sv s,cmp] w (cC λv w'=>v=.tuple #[]/\∃l',l'.Perm l/\l'.Pairwise R/\Sep E (bw s 1 (bC l')::L) w'):=by
 apply YW;unfold Ng qE;refine use (E7 K c hn a d h) ?_;rintro _ e ⟨rfl,h1⟩;exact⟨rfl,rfl,h1⟩
end
end Go.Mp
namespace Go.Sp
open Go Go.Vc
def Sep.Fu{E:Env}{A A':Asn}{L:cr}{w:bI}(h:Sep E (A::L) w)(hw:∀F,A.holds w.heap F->∃F',A'.holds w.heap F'/\∀x,F' x->F x):Sep E (A'::L) w:=by
 obtain⟨he,F,h1,h2,c⟩:=h;obtain⟨F',d,a⟩:=hw F h1;exact⟨he,F',d,λb hb=>h2 b (a b hb),c.weaken (λb hb=>hb.imp id (a b))⟩
def aI1{P:cS}(w:bI)(ty:bZ)(it c ck:Nat)(seen:cf Nat)(es:cf MapEntry)(hb:w.heap[c]?=some (.map es ck))(l:w.heap[it]?=some (.mapIter (some c) ck seen ck))(hold:∀x∈es.toList,x.born<ck):
  ((leftOf es seen).size=0/\(Instr.next (.pointer (some ⟨it,0,none⟩)) false ty).run P w=.ok (.tuple #[.bool false]) w)\/
  ∃e∈(leftOf es seen).toList,∃a:bI,World.env a=World.env w/\a.heap=w.heap.setIfInBounds it (.mapIter (some c) ck (seen.push e.born) ck)/\(Instr.next (.pointer (some ⟨it,0,none⟩)) false ty).run P w=.ok (.tuple #[.bool true,e.key,e.val]) a:=by
 simp only[Instr.next,getObj,Sem.run_bind,Sem.run,l,hb,Result.andThen,next_test_false seen es ck ck hold (ec _),lZ,gU];unfold leftOf;have b:∀x∈(Array.filter (λe=> !seen.contains e.born) es).toList,x.born<ck:=λx hx=>hold x (by simp at hx ⊢;exact hx.1);generalize Array.filter (λe=> !seen.contains e.born) es=L at b ⊢;have o:L.filter (λx=>decide (x.born<ck))=L:=Array.filter_eq_self.2 (λx hx=>by simpa using b x (by simpa using hx));have p:L.filter (λx=>decide (x.born≥ck))= #[]:=by
  rw[Array.filter_eq_empty_iff];intro x hx;have:=b x (by simpa using hx);simp;omega
 simp only[o,p,Array.append_empty];by_cases h:L.size=0
 ·left;have:L= #[]:=Array.eq_empty_of_size_eq_zero h;subst this;refine⟨rfl,?_⟩;simp[choose,Sem.run,Question.forced]
 ·right;have n:L.isEmpty=false:=by simp[Array.isEmpty,h]
  simp only[n,lZ,gU,Array.empty_append,Array.size_map];have k:∃(j:Nat) (a:bI),j<L.size/\World.env a=World.env w/\a.heap=w.heap/\(choose (Question.mapNext L.size)).run P w=.ok j a:=by
   by_cases hf:L.size<=1;·exact⟨0,w,bu,rfl,rfl,by simp[choose,Sem.run,Question.forced,hf]⟩
   ·exact⟨_,w.drew,k4 _ bu,rfl,rfl,by
     simp only[choose,Sem.run,Question.forced,gD,hf,gU,Question.cut];rfl⟩
  obtain⟨j,a,q,i,d,f⟩:=k;have m:a.heap[it]?=some (.mapIter (some c) ck seen ck):=by rw[d];exact l
  have g:∀(o':Obj),(setObj it o').run P a=.ok () {a with heap:=a.heap.setIfInBounds it o'} :=λo'=>by
   simp only[setObj,Sem.run,m]
  refine⟨L[j],by simp, {a with heap:=a.heap.setIfInBounds it (.mapIter (some c) ck (seen.push L[j].born) ck)},i,by rw[<- d],?_⟩;simp only[f,Array.getElem?_map,oQ q,fC,Sem.run_bind,g,Result.andThen];rfl
def aGx{P:cS}(w:bI)(it a ck:Nat)(seen:cf Nat)(es:cf MapEntry)(e:MapEntry)(hb:w.heap[a]?=some (.map es ck))(b:w.heap[it]?=some (.mapIter (some a) ck seen ck))(c:seen.back? =some e.born)(he:e∈es.toList)(hn:(es.toList.map (·.born)).Nodup):(Instr.entry (.pointer (some ⟨it,0,none⟩))).run P w=.ok (.tuple #[e.key,e.val]) w:=by
 have hf:es.find? (·.born==e.born)=some e:=by rw[<- Array.find?_toList];exact find_born e es.toList hn he
 simp only[Instr.entry,getObj,Sem.run_bind,Sem.run,b,hb,Result.andThen,c,bne_self_eq_false,lZ,gU,hf];rfl
section
variable{E:Env}{L:cr}{w:bI}{P:cS}{κ:Type}[DecidableEq κ]{enc:κ->bH}{f:κ->bX bH}{done:κ->Prop}{cur:bX κ}{it b n:Nat}
structure wF{κ:Type}(enc:κ->bH)(f:κ->bX bH)(done:κ->Prop)(cur:bX κ)(n:Nat)(es:bA MapEntry)(ck:Nat)(seen:cf Nat):Prop where
 ok:iH enc f es ck
 dn:∀e∈es,∀k,e.key=enc k->(seen.contains e.born=true↔done k)
 cu:∀k,cur=some k->∃e∈es,e.key=enc k/\seen.back? =some e.born
 len:(leftOf es.toArray seen).size=n
def fN{κ:Type}(it b:Nat)(enc:κ->bH)(f:κ->bX bH)(done:κ->Prop)(cur:bX κ)(n:Nat):Asn:=
 ⟨λh F=>(∃es ck seen,h[b]?=some (.map es.toArray ck)/\h[it]?=some (.mapIter (some b) ck seen ck)/\wF enc f done cur n es ck seen)/\∀x,F x↔x=b\/x=it,
  λa hl=>⟨by rw[hl b ((a.2 b).2 (.inl rfl)),hl it ((a.2 it).2 (.inr rfl))];exact a.1,a.2⟩⟩
omit [DecidableEq κ] in
def fN.start{t kt:bZ}{z:bH}(h:Sep E (cM b enc f::L) w)(j:mQ P t=some (kt,z)){G:cm->bi9}(g:∀it a n,Sep E (fN it b enc f (λ_=>False) none n::L) a->G (some ⟨it,0,none⟩) a):
  ∃x:cm,∃a,Sem.run P (Instr.range t (.map (some b))) w=.ok (.pointer x) a/\G x a:=by
 obtain⟨e,l,_⟩:=vi j;obtain⟨es,ck,hb,M⟩:=cM.at_ (i:=0) h rfl;have c:b<w.heap.size:=(pG.1 hb).1;refine⟨_,_,run_range_map w t kt e b es.toArray ck l hb,g w.heap.size _ (leftOf es.toArray #[]).size ?_⟩;refine h.change (A':=fN w.heap.size b enc f (λ_=>False) none _) rfl (by rw[size_alloc];omega) (λF d hl=>⟨λx hx _=>(Grow.alloc w _).heap x hx,λx=>x=b\/x=w.heap.size,⟨⟨es,ck,#[],?_,?_,M,?_,?_,rfl⟩,λ_=>mz⟩,λx hx=>⟨?_,?_⟩⟩);·rw[(Grow.alloc w _).heap b c];exact hb
 ·exact heap_alloc w _
 ·intro e _ k _;simp
 ·intro k hk;cases hk
 ·rw[size_alloc];rcases hx with rfl|rfl<;>omega
 ·rcases hx with rfl|rfl;·exact .inl ((d.2 _).2 rfl)
  ·exact .inr (ec _)
omit [DecidableEq κ] in
def fN.over(h:Sep E (fN it b enc f done cur n::L) w):Sep E (cM b enc f::L) w:=
 h.Fu (λF ⟨⟨es,ck,_,h1,_,a⟩,c⟩=>⟨λx=>x=b,⟨⟨es,ck,h1,a.ok⟩,λ_=>mz⟩,λx hx=>(c x).2 (.inl hx)⟩)
omit [DecidableEq κ] in
def fN.get(h:Sep E (fN it b enc f done cur n::L) w):∃es ck seen,w.heap[b]?=some (.map es.toArray ck)/\w.heap[it]?=some (.mapIter (some b) ck seen ck)/\wF enc f done cur n es ck seen:=by
 obtain⟨_,F,⟨h1,_⟩,_⟩:=h;exact h1
def Ax(w:bI)(it b:Nat):Nat:=match w.heap[b]?,w.heap[it]? with
 |some (.map es _),some (.mapIter _ _ seen _)=>(leftOf es seen).size
 |_,_=>0
omit [DecidableEq κ] in
def fN.left(h:Sep E (fN it b enc f done cur n::L) w):Ax w it b=n:=by
 obtain⟨es,ck,seen,hb,a,c⟩:=fN.get h;unfold Ax;rw[hb,a];exact c.len
omit [DecidableEq κ] in
def fN.next{ty:bZ}(N:∀a b,enc a=enc b->a=b)(h:Sep E (fN it b enc f done cur n::L) w){A:bi9}{B:bH->bH->bi9}(ag:(∀k v,f k=some v->done k)->∀w',Sep E (fN it b enc f done cur n::L) w'->A w')(ah:∀k v n',f k=some v->¬ done k->n=n'+1->∀w',Sep E (fN it b enc f (λx=>done x\/x=k) (some k) n'::L) w'->B (enc k) v w'):
  (∃w',Sem.run P (Instr.next (.pointer (some ⟨it,0,none⟩)) false ty) w=.ok (.tuple #[.bool false]) w'/\A w')\/
  (∃k v:bH,∃w',Sem.run P (Instr.next (.pointer (some ⟨it,0,none⟩)) false ty) w=.ok (.tuple #[.bool true,k,v]) w'/\B k v w'):=by
 obtain⟨es,ck,seen,hb,D,Q⟩:=fN.get h;have M:=Q.ok;have t:∀e,e∈(leftOf es.toArray seen).toList↔e∈es/\seen.contains e.born=false:=by
  intro e;unfold leftOf;simp
 rcases aI1 (P:=P) w ty it b ck seen es.toArray hb D (λx hx=>M.born x (by simpa using hx))with⟨aj,hr⟩|⟨e,he,Y,K,d,hr⟩
 ·refine .inl ⟨w,hr,ag (λk v hk=>?_) w h⟩;obtain⟨e,he,g,_⟩:=M.has k v hk;refine(Q.dn e he k g).1 ?_;cases J:seen.contains e.born with
  |true=>rfl
  |false=>
   have:e∈(leftOf es.toArray seen).toList:=(t e).2 ⟨he,J⟩;have:=List.length_pos_of_mem this;rw[uF]at this;omega
 ·obtain⟨o,C⟩:=(t e).1 he;obtain⟨k,g,T⟩:=M.key e o;have W:¬ done k:=λab=>by rw[(Q.dn e o k g).2 ab]at C;cases C
  have ai:=left_shrinks es.toArray seen e he;refine .inr ⟨e.key,e.val,Y,hr,?_⟩;rw[g];have O:(leftOf es.toArray (seen.push e.born)).size+1=(leftOf es.toArray seen).size:=by
   have go:∀(c:Nat->Bool) (l:bA MapEntry),c e.born=false->l.Pairwise (λa b=>a.born≠b.born)->e∈l->(l.filter λx=> !(c x.born||x.born==e.born)).length+1=(l.filter λx=> !c x.born).length:=by
    intro c l J;induction l with
    |nil=>intro _ h;cases h
    |cons x l af=>
     intro hp hm;obtain⟨I,X⟩:=ht.1 hp;rcases eH.1 hm with rfl|hm
     ·have G:l.filter (λx=> !(c x.born||x.born==e.born))=l.filter (λx=> !c x.born):=by
       apply xz;intro y ae;have:(y.born==e.born)=false:=by simpa using(I y ae).symm
       rw[this,pN]
      rw[jR,jR,J,G];simp
     ·have:=af X hm;have hx:(x.born==e.born)=false:=by simpa using I e hm
      rw[jR,jR,hx,pN];cases c x.born;·simp only[Bool.not_false,g4,hN];omega
      ·simpa using this
   have ad:=go (λy=>seen.contains y) es C M.lF o;have Z:(leftOf es.toArray (seen.push e.born)).size=(es.filter λx=> !(seen.contains x.born||x.born==e.born)).length:=by
    unfold leftOf;rw[<- uF,Hg];congr 2;funext x;rw[contains_push]
   have aa:(leftOf es.toArray seen).size=(es.filter λx=> !seen.contains x.born).length:=by
    unfold leftOf;rw[<- uF,Hg]
   rw[Z,aa];exact ad
  refine ah k e.val (leftOf es.toArray (seen.push e.born)).size T W (by rw[O];exact Q.len.symm) Y ?_;have U:it<w.heap.size:=(pG.1 D).1;refine h.change (A':=fN it b enc f (λx=>done x\/x=k) (some k) _) K (by rw[d];simp) (λF R hl=>⟨λx hx S=>?_,F,⟨⟨es,ck,seen.push e.born,?_,?_,M,?_,?_,rfl⟩,R.2⟩,λx hx=>⟨?_,.inl hx⟩⟩)
  ·have:it≠x:=λe=>S ((R.2 x).2 (.inr e.symm));rw[d,oP,bJ this]
  ·have:it≠b:=by
    intro e;rw[e]at D;rw[D]at hb;cases hb
   rw[d,oP,bJ this];exact hb
  ·rw[d,oP,bK rfl,bK U]
  ·intro e' z k' r;rw[contains_push,jS,Q.dn e' z k' r];refine or_congr mz ⟨λu=>?_,λhk=>?_⟩
   ·have u:=oV.1 u;by_cases s:e'=e;·subst s;exact N _ _ (r.symm.trans g)
    ·exfalso;have:e'.born≠e.born:=by
      have hp:=M.lF;obtain⟨i,p,rfl⟩:=jn.1 z;obtain⟨j,q,rfl⟩:=jn.1 o;rcases Hm i j with m|rfl|m;·exact mV.1 hp i j p q m
      ·exact absurd rfl s
      ·exact(mV.1 hp j i q p m).symm
     exact this u
   ·have H:e'.key=e.key:=by rw[r,g,hk]
    have:e'=e:=by
     refine sA λs=>?_;have hp:=M.one;obtain⟨i,p,rfl⟩:=jn.1 z;obtain⟨j,q,rfl⟩:=jn.1 o;rcases Hm i j with m|rfl|m;·exact mV.1 hp i j p q m H
     ·exact s rfl
     ·exact mV.1 hp j i q p m H.symm
    rw[this];simp
  ·intro k' V;cases V;exact⟨e,o,g,by simp⟩
  ·rw[d];simpa using hl x hx
omit [DecidableEq κ] in
def fN.entry{k:κ}{v:bH}(h:Sep E (fN it b enc f done (some k) n::L) w)(g:∀a b,enc a=enc b->a=b)(hf:f k=some v):Sem.run P (Instr.entry (.pointer (some ⟨it,0,none⟩))) w=.ok (.tuple #[enc k,v]) w:=by
 obtain⟨es,ck,seen,hb,l,j⟩:=fN.get h;obtain⟨e,he,c,m⟩:=j.cu k rfl;obtain⟨k',i,d⟩:=j.ok.key e he;have:k'=k:=g _ _ (i.symm.trans c);subst this;rw[hf]at d;have o:e.val=v:=(cV d).symm;rw[<- c,<- o];refine aGx w it b ck seen es.toArray e hb l m (by simpa using he) ?_;show(es.map (·.born)).Nodup;rw[nx,kk];exact j.ok.lF
def fN.update{t kt:bZ}{z v0:bH}(h:Sep E (fN it b enc f done cur n::L) w)(K:ih P kt enc)(s:mQ P t=some (kt,z))(k:κ)(v:bH)(hf:f k=some v0){G:bi9}(g:∀p,Sep E (fN it b enc (cR f k (some v)) done cur n::L) p->G p):∃p,Sem.run P (Instr.mapUpdate t (.map (some b)) (enc k) v) w=.ok () p/\G p:=by
 obtain⟨e,U,Y⟩:=vi s;obtain⟨es,ck,seen,hb,m,Q⟩:=fN.get h;have M:=Q.ok;obtain⟨j,x,o,hk,X,r⟩:=M.gW K hf w;obtain⟨N,u⟩:=c2.1 o;have hm:es.modify j (λe=> {e with key:=enc k,val:=v})=es.set j {x with key:=enc k,val:=v} :=by
  apply gJ;intro q;simp only[List.getElem?_modify,hv];by_cases s:j=q;·subst s;simp[N,u]
  ·simp[s]
 have D:b<w.heap.size:=(pG.1 hb).1;have W:({x with key:=enc k,val:=v} :MapEntry).born=x.born:=rfl;have O:x∈es:=eG o;have ek:∀e∈es.set j ({x with key:=enc k,val:=v} :MapEntry),∃e0∈es,e.key=e0.key/\e.born=e0.born:=by
  intro e he;obtain⟨i,m,rfl⟩:=jn.1 he;rw[Hr];split;·exact⟨x,O,hk.symm,rfl⟩
  ·exact⟨_,oT _,rfl,rfl⟩
 have new:∀e0∈es,∃e∈es.set j ({x with key:=enc k,val:=v} :MapEntry),e.key=e0.key/\e.born=e0.born:=by
  intro e0 he;obtain⟨i,m,rfl⟩:=jn.1 he;refine⟨(es.set j ({x with key:=enc k,val:=v} :MapEntry))[i]'(by simpa using m),oT _,?_⟩;rw[Hr];split;·next I=>subst I;rw[u];exact⟨hk.symm,rfl⟩
  ·exact⟨rfl,rfl⟩
 refine⟨{w with heap:=w.heap.setIfInBounds b (.map (es.set j ({x with key:=enc k,val:=v} :MapEntry)).toArray ck)},?_,g _ ?_⟩;·simp[Instr.mapUpdate,run_underlying U,MapKept.run_getObj_map hb,K.pX,r,Instr.keyThatStays,o,hk,K.stay,hm,MapKept.run_setObj_map _ hb]
 ·refine h.change (A':=fN it b enc (cR f k (some v)) done cur n) rfl (by simp) (λF B hl=>⟨λy A C=>?_,F,⟨⟨_,ck,seen,?_,?_,M.put K o hk v,?_,?_,?_⟩,B.2⟩,λy A=>⟨?_,.inl A⟩⟩)
  ·have:b≠y:=λe=>C ((B.2 y).2 (.inl e.symm));show(w.heap.setIfInBounds b _)[y]?=_;rw[oP,bJ this]
  ·show(w.heap.setIfInBounds b _)[b]?=_;rw[oP,bK rfl,bK D]
  ·have:b≠it:=by
    intro e;rw[e]at hb;rw[m]at hb;cases hb
   show(w.heap.setIfInBounds b _)[it]?=_;rw[oP,bJ this];exact m
  ·intro e he k' H;obtain⟨e0,d,h1,h2⟩:=ek e he;rw[h2];exact Q.dn e0 d k' (h1.symm.trans H)
  ·intro k' J;obtain⟨e0,d,h1,h2⟩:=Q.cu k' J;obtain⟨e,he,R,S⟩:=new e0 d;exact⟨e,he,R.trans h1,by rw[S];exact h2⟩
  ·rw[<- Q.len];unfold leftOf;have go:∀(c:Nat->Bool) (l:bA MapEntry) (j:Nat) (x y:MapEntry),l[j]?=some x->y.born=x.born->((l.set j y).filter λe=> !c e.born).length=(l.filter λe=> !c e.born).length:=by
    intro c l;induction l with
    |nil=>intro j x y h;simp at h
    |cons a l V=>
     intro j x y h1 h2;cases j with
     |zero=>
      simp only[k1,fT]at h1;subst h1;rw[Bd,jR,jR,h2];cases c a.born<;>simp
     |succ j=>
      rw[Up,jR,jR];have:=V j x y (by simpa using h1) h2;cases c a.born;·simp only[Bool.not_false,g4,hN];omega
      ·simpa using this
   have T:=go (λy=>seen.contains y) es j x {x with key:=enc k,val:=v} o rfl;rw[<- uF,Hg,<- uF,Hg];exact T
  ·simpa using hl y A
end
end Go.Sp
namespace Go.Mp.Gp
open Go Go.Vc Go.Sp Go.Kc Go.Mp
abbrev encI:Int->bH:=Value.int .i64
def fx(g a:Int):bH:=.agg #[Iv g,Iv a]
def gm(R:bA dI):Int->bX bH:=λk=>(fq R k).map λe=>fx e.group e.dD
def Ay(a b:Int)(h:encI a=encI b):a=b:=by simpa using h
def mS:ih P gu encI:=ih.int cE
variable{R R':bA dI}
def fA(l:Nat)(R:bA dI):Asn:=fo λm:Nat=>star (bD l [.map (some m)]) (cM m encI (gm R))
variable{E:Env}{L:cr}{w:bI}{l:Nat}
def fA.open(h:Sep E (fA l R::L) w):∃m,Sep E (bD l [.map (some m)]::cM m encI (gm R)::L) w:=by
 obtain⟨m,h⟩:=Sep.ex.1 h;exact⟨m,Sep.star.1 h⟩
def fA.shut{m:Nat}(h:Sep E (bD l [.map (some m)]::cM m encI (gm R)::L) w):Sep E (fA l R::L) w:=Sep.ex.2 ⟨m,Sep.star.2 h⟩
def mq:mQ P CB=some (gu,fx 0 0):=by kernel_rfl
def wC(h:Sep E L w):Calls P CG #[] w (cC λv w'=>∃l,v=Pb l/\Sep E (fA l []::L) w'):=by
 apply WJ;unfold Lp;exact cM.new (enc:=encI) h (λm a h1=>Al.i h1 (λp w2 h2=>⟨p,rfl,fA.shut h2⟩))
def look{m i:Nat}(h:Sep E L w)(a:L[i]?=some (cM m encI (gm R)))(k:Int):
  gE P CB (.map (some m)) (Iv k) true w (.tuple #[fx ((fq R k).elim 0 (·.group)) ((fq R k).elim 0 (·.dD)),.bool (fq R k).isSome]):=by
 have:=gE.i true i h a mS mq k;unfold gm at this;cases hf:fq R k<;>simpa[hf]using this
def Fv{m i:Nat}(h:Sep E L w)(a:L[i]?=some (cM m encI (gm R)))(k:Int):
  gE P CB (.map (some m)) (Iv k) false w (fx ((fq R k).elim 0 (·.group)) ((fq R k).elim 0 (·.dD))):=by
 have:=gE.i false i h a mS mq k;unfold gm at this;cases hf:fq R k<;>simpa[hf]using this
def aLD(G:Kc.Good R){x:dI}(hn:∀e∈R,e.id≠x.id)(a:Kc.Good (iU R x)):cR (gm R) x.id (some (fx x.group x.dD))=gm (iU R x):=by
 funext k;unfold cR gm;by_cases hk:k=x.id;·rw[bK hk,(k7 a.c1).2 ⟨(x6 hn).2 (.inl rfl),hk.symm⟩];rfl
 ·rw[bJ hk,Ca G.c1 a.c1 (λe he=>?_)];rw[x6 hn];exact⟨λh=>h.resolve_left (λe'=>hk (by rw[<- he,e'])),.inr⟩
def ER(G:Kc.Good R)(id g:Int)(ek:Bool)(h:Sep E (fA l R::L) w):Calls P KJ #[Pb l,Iv id,Iv g,.bool ek] w (cZ E (Iv (jW R id g ek).2) (fA l (jW R id g ek).1::L)):=by
 apply Zr;unfold NI qL qM qU qg qw zZ;unfold jW;have bad:ix id g->(Value.int .i64 1=Iv (if ix id g then(R,(1:Int))else if(fq R id).isSome then(R,4)else(iU R ⟨id,g,if ek then 1 else 0⟩,0)).2/\Sep E (fA l (if ix id g then(R,(1:Int))else if(fq R id).isSome then(R,4)else(iU R ⟨id,g,if ek then 1 else 0⟩,0)).1::L) w):=by
  intro hb;rw[bK hb];exact⟨rfl,h⟩
 refine⟨λw=>¬ ix id g/\Sep E (fA l R::L) w,?_,?_⟩
 ·refine cU (λc=>bad (.inl c)) (λz=>gv (λc=>bad (.inr (.inl c))) (λA=>cU (λc=>bad (.inr (.inr (.inl c)))) (λB=>gv (λc=>bad (.inr (.inr (.inr c)))) (λC=>⟨?_,h⟩))));unfold ix;omega
 rintro _ D ⟨hb,h1⟩;rw[bJ hb];obtain⟨m,h2⟩:=fA.open h1;refine⟨_,rfl,ld h2 0 rfl rfl rfl ⟨_,_,_,look (i:=1) h2 rfl id,Al.i h2 (λp F o=>ey _ (vs:=[Iv _,Iv _]) o rfl (λH j=>?_))⟩⟩;cases hf:fq R id with
 |some e=>exact eM ⟨rfl,fA.shut j.tail⟩
 |none=>
  refine dQ (Al.i j (λq I r=>ey _ (vs:=[Iv g,Iv 0]) r rfl (λJ f=>?_)));refine⟨λw=>Sep E (bD q [Iv g,Iv (if ek then 1 else 0)]::bD l [.map (some m)]::cM m encI (gm R)::L) w,?_,?_⟩
  ·refine cy (λho=>?_) (λho=>?_)
   ·refine ld f 0 rfl rfl rfl (St.i f (show 0+1<2 by decide) (λt a=>?_));rw[cX (n:=0+1) bN bN]at a;rw[bK ho];exact(a.fr 1 rfl).tail.fr 0 rfl |> λx=>(a.ro 4 [0,2,3] rfl)
   ·rw[bJ (by simp[ho])];exact f.ro 4 [0,2,3] rfl
  ·rintro _ t a;refine Dr.i a (λK b=>⟨_,rfl,ld b 1 rfl rfl rfl (ld b 0 rfl rfl rfl (ld b 0 rfl rfl rfl ?_))⟩);refine mapUpdate.i (b.ro 3 [2,0,1] rfl) mS mq id _ (λu s=>⟨rfl,?_⟩);have hn:=(s0 G.c1).1 hf;have y:¬ (id<0\/16777216<id\/g<0\/16777216<g):=hb;have k:Kc.Good (iU R ⟨id,g,if ek then 1 else 0⟩):=G.ins (x:=⟨id,g,if ek then 1 else 0⟩) hn ⟨⟨by simp only;omega,by simp only;omega⟩,⟨by simp only;omega,by simp only;omega⟩,by simp only;split<;>omega⟩;have e:=aLD G (x:=⟨id,g,if ek then 1 else 0⟩) hn k;have d:Sep E (cM m encI (cR (gm R) id (some (fx g (if ek then 1 else 0))))::bD q [Iv g,Iv (if ek then 1 else 0)]::bD l [.map (some m)]::L) u:=s;rw[show cR (gm R) id (some (fx g (if ek then 1 else 0)))=gm (iU R ⟨id,g,if ek then 1 else 0⟩)from e]at d;exact fA.shut (d.ro 3 [2,0] rfl)
def Fw(G:Kc.Good R)(id:Int)(h:Sep E (fA l R::L) w):Calls P yS #[Pb l,Iv id] w (cZ E (Iv (hH R id).2) (fA l (hH R id).1::L)):=by
 apply XD;unfold L9 qL qM qU qw;obtain⟨m,h2⟩:=fA.open h;refine⟨_,rfl,ld h2 0 rfl rfl rfl ⟨_,_,_,look (i:=1) h2 rfl id,Al.i h2 (λp t o=>ey _ (vs:=[Iv _,Iv _]) o rfl (λu d=>?_))⟩⟩;have c:=G.cq id;unfold hH at c ⊢;cases hf:fq R id with
 |none=>exact eM ⟨rfl,fA.shut d.tail⟩
 |some e=>
  rw[hf]at d c;have g:Kc.Good (R.map (λe=>if e.id=id then {e with dD:=0} else e)):=c;refine dQ (Dr.i d (λz f=>⟨_,rfl,ld f 1 rfl rfl rfl (ld f 0 rfl rfl rfl ?_)⟩));refine mapUpdate.i (f.ro 3 [2,0,1] rfl) mS mq id _ (λs q=>⟨rfl,?_⟩);have he:=(k7 G.c1).1 hf;have n:cR (gm R) id (some (fx e.group 0))=gm (R.map (λe=>if e.id=id then {e with dD:=0} else e)):=by
   funext k;unfold cR gm;by_cases hk:k=id;·rw[bK hk,(k7 g.c1 (e:={e with dD:=0})).2 ⟨fD.2 ⟨e,he.1,bK he.2⟩,by simp only;omega⟩];rfl
   ·rw[bJ hk,Ca G.c1 g.c1 (λx hx=>?_)];simp only[g4,Hk,fD];constructor
    ·rintro⟨y,r,rfl⟩;by_cases a:y.id=id;·rw[bK a]at hx;simp only at hx;omega
     ·rw[bJ a];exact r
    ·intro j;exact⟨x,j,cK⟩
  have b:Sep E (cM m encI (cR (gm R) id (some (fx e.group 0)))::bD p _::bD l [.map (some m)]::L) s:=q;rw[n]at b;exact fA.shut (b.ro 3 [2,0] rfl)
def wE(G:Kc.Good R)(id:Int)(h:Sep E (fA l R::L) w):Calls P C9 #[Pb l,Iv id] w (cZ E (Iv (jv R id).2) (fA l (jv R id).1::L)):=by
 apply XM;unfold Mi qM qU qw;obtain⟨m,h2⟩:=fA.open h;refine⟨_,rfl,ld h2 0 rfl rfl rfl ⟨_,_,_,look (i:=1) h2 rfl id,Al.i h2 (λp j g=>ey _ (vs:=[Iv _,Iv _]) g rfl (λn b=>?_))⟩⟩;have a:=G.drop id;unfold jv at a ⊢;cases hf:fq R id with
 |none=>exact eM ⟨rfl,fA.shut b.tail⟩
 |some e=>
  rw[hf]at a;have c:Kc.Good (R.filter (λe=>e.id !=id)):=a;refine dQ ⟨_,rfl,ld b 1 rfl rfl rfl ?_⟩;refine gX.i (b.ro 3 [2,0,1] rfl) mS mq id (λo d=>⟨rfl,?_⟩);have f:cR (gm R) id none=gm (R.filter (λe=>e.id !=id)):=by
   funext k;unfold cR gm;by_cases hk:k=id
   ·have:fq (R.filter (λe=>e.id !=id)) k=none:=(s0 c.c1).2 (λe he=>by have:=(gp.1 he).2;simp at this;omega);rw[bK hk,this];rfl
   ·rw[bJ hk,Ca G.c1 c.c1 (λx hx=>?_)];simp only[g4,Hk,gp];exact⟨λh=>h.1,λh=>⟨h,by simp;omega⟩⟩
  rw[f]at d;exact fA.shut (d.ro 3 [2,0] rfl)
end Go.Mp.Gp
namespace Go.Mp.Gp
open Go Go.Vc Go.Sp Go.Kc Go.Mp
variable{R:bA dI}{E:Env}{L:cr}{w:bI}{l:Nat}
def jB(R:bA dI)(d:Int->Bool)(p:dI->Bool):Nat:=(R.filter (λe=>d e.id&&p e)).length
def plus(d:Int->Bool)(k:Int):Int->Bool:=λx=>d x||x==k
def RD(p:dI->Bool):jB R (λ_=>false) p=0:=by unfold jB;simp
def RE{d:Int->Bool}(p:dI->Bool)(h:∀e∈R,d e.id=true):jB R d p=(R.filter p).length:=by
 unfold jB;congr 1;apply xz;intro e he;rw[h e he,my]
def RF(d:Int->Bool)(p:dI->Bool):jB R d p<=R.length:=mw _ _
def RG(G:R.Pairwise (λa b:dI=>a.id<b.id)){d:Int->Bool}(p:dI->Bool){k:Int}{e:dI}(he:fq R k=some e)(h:d k=false):jB R (plus d k) p=jB R d p+(if p e then 1 else 0):=by
 obtain⟨h1,h2⟩:=(k7 G).1 he;clear he;unfold jB plus;induction R with
 |nil=>cases h1
 |cons x R j=>
  obtain⟨f,g⟩:=ht.1 G;rw[jR,jR];rcases eH.1 h1 with rfl|h1
  ·have c:R.filter (λy=>(d y.id||y.id==k)&&p y)=R.filter (λy=>d y.id&&p y):=by
    apply xz;intro y i;have:(y.id==k)=false:=by have:=f y i;simp;omega
    rw[this,pN]
   rw[c,h2,h];cases p e<;>simp
  ·have:=j g h1;have hx:(x.id==k)=false:=by have:=f e h1;simp;omega
   rw[hx,pN];cases(d x.id&&p x);·simpa using this
   ·simp only[g4,hN];omega
def gd(R:bA dI)(d:Int->Bool)(F:dI->dI):Int->bX bH:=λk=>(fq R k).map λe=>if d k then fx (F e).group (F e).dD else fx e.group e.dD
def aKA(F:dI->dI):gd R (λ_=>false) F=gm R:=by
 funext k;unfold gd gm;cases fq R k<;>simp
def aKz(F:dI->dI)(a:∀e,(F e).id=e.id)(k:Int):fq (R.map F) k=(fq R k).map F:=by
 unfold fq;rw[List.find?_map];congr 2;funext e;simp[a]
def aLB(G:R.Pairwise (λa b:dI=>a.id<b.id)){d:Int->Bool}{F:dI->dI}(c:∀e,(F e).id=e.id)(h:∀e∈R,d e.id=true):gd R d F=gm (R.map F):=by
 funext k;unfold gd gm;rw[aKz F c];cases hf:fq R k with
 |none=>rfl
 |some e=>
  obtain⟨h1,h2⟩:=(k7 G).1 hf;have:=h e h1;rw[h2]at this;simp[this]
def aKB{d:Int->Bool}{F:dI->dI}{k:Int}{e:dI}(he:fq R k=some e)(a:F e=e):gd R (plus d k) F=gd R d F:=by
 funext x;unfold gd plus;by_cases hx:x=k;·subst hx;rw[he];simp[a]
 ·have:(x==k)=false:=by simpa using hx
  rw[this,pN]
def aLC{d:Int->Bool}{F:dI->dI}{k:Int}{e:dI}(he:fq R k=some e):cR (gd R d F) k (some (fx (F e).group (F e).dD))=gd R (plus d k) F:=by
 funext x;unfold cR gd plus;by_cases hx:x=k;·subst hx;rw[bK rfl,he];simp
 ·have:(x==k)=false:=by simpa using hx
  rw[bJ hx,this,pN]
def RH(d:Int->Bool)(k:Int):(λx=>d x=true\/x=k)= λx=>plus d k x=true:=by
 funext x;unfold plus;simp
def aJ2(G:Kc.Good R)(g:Int)(hb:R.length<4611686018427387904)(h:Sep E (fA l R::L) w):Calls P JP #[Pb l,Iv g] w (cZ E (Iv (o9 R g)) (fA l R::L)):=by
 apply Xv;unfold L1 qL qM qO qU qw;obtain⟨m,h2⟩:=fA.open h;refine⟨_,rfl,ld h2 0 rfl rfl rfl (fN.start h2.swap mq (λit A n h1=>?_))⟩;refine⟨λc w=>∃d cur n,c=jB R d (λe=>e.group==g)/\Sep E (fN it m encI (gm R) (λx=>d x=true) cur n::bD l [.map (some m)]::L) w,λ_ w=>Ax w it m,⟨λ_=>false,none,n,by rw[RD];rfl,?_⟩,?_⟩
 ·have e:(λx:Int=>((λ_=>false:Int->Bool) x)=true)= λ_=>False:=by funext x;simp
  rw[e];exact h1
 rintro _ c w2 ⟨d,cur,n,rfl,q⟩;have hle:=RF (R:=R) d (λe=>e.group==g);refine fN.next Ay q (λi u a=>?_) (λk v n' hk r hn u a=>?_)
 ·refine⟨?_,fA.shut (fN.over a).swap⟩;unfold o9;rw[RE];intro e he;exact i e.id (fx e.group e.dD) (by unfold gm;rw[(k7 G.c1).2 ⟨he,rfl⟩];rfl)
 ·have j:=fN.entry (P:=P) a Ay hk;obtain⟨e,he,t⟩:∃e,fq R k=some e/\fx e.group e.dD=v:=by
   unfold gm at hk;cases hf:fq R k with
   |none=>rw[hf]at hk;cases hk
   |some e=>rw[hf]at hk;exact⟨e,rfl,by simpa using hk⟩
  subst t;rw[RH]at a;have y:=fN.left q;refine⟨_,_,_,_,j,Al.i a (λp B s=>ey _ (vs:=[Iv e.group,Iv e.dD]) s rfl (λC b=>?_))⟩;have z:=fN.left b.tail;have f:=RG G.c1 (λe=>e.group==g) he (uK.2 r);refine ld b 0 rfl rfl rfl (eC (λo=>?_) (λo=>?_))
  ·rw[cX bu bu];refine⟨⟨plus d k,_,_,?_,b.tail⟩,by dsimp only;omega⟩;rw[f];simp[o]
  ·refine⟨⟨plus d k,_,_,?_,b.tail⟩,by dsimp only;omega⟩;rw[f];simp[o]
def aKI(a b:Int×Int):∃q,kE P .neq yp (fx a.1 a.2) (fx b.1 b.2) q/\(q=false↔a=b):=by
 have c:∀p:Int×Int,Typed P yp [.int .i64,.int .i64] (fx p.1 p.2):=λp=>by
  unfold Typed;rw[show eB P yp=some true by kernel_rfl];exact⟨_,rfl,⟨_,rfl⟩,⟨_,rfl⟩,trivial⟩
 obtain⟨q,h1,h2⟩:=kE.neq (d:=4) (by kernel_rfl:kK P 4 yp=_) bN cE cE (c a) (c b);refine⟨q,h1,h2.trans ⟨λe=>?_,λe=>by rw[e]⟩⟩;simp[fx]at e;exact Prod.ext e.1 e.2
def RI(G:Kc.Good R)(g:Int)(b:Int->Int->Int×Int){change:bH}(U:∀(A:Asn) (x a:Int) (w:bI),Sep E (A::L) w->fe P change #[fx x a] w λe w'=>e=.returned (fx (b x a).1 (b x a).2)/\Sep E (A::L) w')(hb:R.length<4611686018427387904)(h:Sep E (fA l R::L) w):Calls P Di #[Pb l,Iv g,change] w (cZ E (Iv (iI R g b).2) (fA l (iI R g b).1::L)):=by
 apply X1;unfold Mt qL qM qO qU qh qw zZ;obtain⟨m,h2⟩:=fA.open h;refine⟨_,rfl,ld h2 0 rfl rfl rfl (fN.start h2.swap mq (λit ak n h1=>?_))⟩;refine⟨λc w=>∃d cur n,c=jB R d (ox g b)/\Sep E (fN it m encI (gd R d (jX g b)) (λx=>d x=true) cur n::bD l [.map (some m)]::L) w,λ_ w=>Ax w it m,⟨λ_=>false,none,n,by rw[RD];rfl,?_⟩,?_⟩
 ·have e:(λx:Int=>((λ_=>false:Int->Bool) x)=true)= λ_=>False:=by funext x;simp
  rw[e,aKA];exact h1
 rintro _ c w2 ⟨d,cur,n,rfl,Q⟩;have hle:=RF (R:=R) d (ox g b);refine fN.next Ay Q (λM af u=>?_) (λk v n' hk W hn af u=>?_)
 ·have t:∀e∈R,d e.id=true:=λe he=>by
   have hf:=(k7 G.c1).2 ⟨he,rfl⟩;exact M e.id _ (by unfold gd;rw[hf];rfl)
  refine⟨by unfold iI;rw[RE _ t],?_⟩;rw[aLB G.c1 (s3 g b) t]at u;exact fA.shut (fN.over u).swap
 ·have N:=fN.entry (P:=P) u Ay hk;have B:=uK.2 W;obtain⟨e,he,ae⟩:∃e,fq R k=some e/\fx e.group e.dD=v:=by
   unfold gd at hk;cases hf:fq R k with
   |none=>rw[hf]at hk;cases hk
   |some e=>rw[hf]at hk;exact⟨e,rfl,by simpa[B]using hk⟩
  subst ae;rw[RH]at u;have ai:=fN.left Q;have D:=RG G.c1 (ox g b) he B;refine⟨_,_,_,_,N,Al.i u (λp al aa=>ey _ (vs:=[Iv e.group,Iv e.dD]) aa rfl (λZ I=>?_))⟩;refine ld I 0 rfl rfl rfl (ld I 0 rfl rfl rfl ?_);have ab:Sep E (cA [bD p [Iv e.group,Iv e.dD],fN it m encI (gd R d (jX g b)) (λx=>plus d k x=true) (some k) n',bD l [.map (some m)]]::L) Z:=Sep.cA.2 I;refine fe.use (U _ e.group e.dD Z ab) ?_;rintro _ ag ⟨rfl,J⟩;have J:Sep E (bD p [Iv e.group,Iv e.dD]::fN it m encI (gd R d (jX g b)) (λx=>plus d k x=true) (some k) n'::bD l [.map (some m)]::L) ag:=Sep.cA.1 J;refine⟨_,_,rfl,Al.i J (λq am ad=>ey _ (vs:=[Iv (b e.group e.dD).1,Iv (b e.group e.dD).2]) ad rfl (λan i=>?_))⟩;refine⟨λc w=>c=ox g b e/\Sep E (bD q [Iv (b e.group e.dD).1,Iv (b e.group e.dD).2]::bD p [Iv e.group,Iv e.dD]::fN it m encI (gd R d (jX g b)) (λx=>plus d k x=true) (some k) n'::bD l [.map (some m)]::L) w,?_,?_⟩
  ·refine ld i 1 rfl rfl rfl (eC (λs=>?_) (λs=>⟨by unfold ox;simp[s],i⟩));refine ld i 1 rfl rfl rfl (ld i 1 rfl rfl rfl (ld i 0 rfl rfl rfl (ld i 0 rfl rfl rfl ?_)));obtain⟨r,X,C⟩:=aKI (e.group,e.dD) (b e.group e.dD);refine⟨r,X,?_,i⟩;unfold ox;cases r with
   |false=>
    have H:=C.1 rfl;rw[<- H];simp
   |true=>
    have H:¬ b e.group e.dD=(e.group,e.dD):=λe'=>by have:=C.2 e'.symm;cases this
    have y:(b e.group e.dD==(e.group,e.dD))=false:=by simpa using H
    rw[y];simp[s]
  rintro _ c ah ⟨rfl,z⟩;refine cy (λo=>?_) (λo=>?_)
  ·have S:e.group=g/\b e.group e.dD≠(e.group,e.dD):=by unfold ox at o;simpa using o
   have K:jX g b e=⟨e.id,(b e.group e.dD).1,(b e.group e.dD).2⟩:=by unfold jX;rw[bK S.1]
   refine Dr.i z (λaj f=>⟨_,rfl,ld f 3 rfl rfl rfl (ld f 0 rfl rfl rfl (ld f 0 rfl rfl rfl ?_))⟩);refine fN.update (f.ro 4 [2,0,1,3] rfl) mS mq k _ hk (λY O=>?_);have y:=aLC (d:=d) (F:=jX g b) he;rw[K]at y;have j:Sep E (fN it m encI (cR (gd R d (jX g b)) k (some (fx (b e.group e.dD).1 (b e.group e.dD).2))) (λx=>plus d k x=true) (some k) n'::bD q _::bD p _::bD l [.map (some m)]::L) Y:=O;rw[y]at j;have V:=fN.left j;rw[cX bu bu];refine⟨⟨plus d k,_,_,?_,j.ro 4 [0,3] rfl⟩,by dsimp only;omega⟩;rw[D,bK o];simp
  ·have K:jX g b e=e:=by
    unfold ox at o;unfold jX;by_cases s:e.group=g
    ·have T:b e.group e.dD=(e.group,e.dD):=by simpa[s]using o
     rw[bK s,T]
    ·rw[bJ s]
   have f:Sep E (fN it m encI (gd R d (jX g b)) (λx=>plus d k x=true) (some k) n'::bD l [.map (some m)]::L) ah:=z.tail.tail;rw[<- aKB (d:=d) he K]at f;have V:=fN.left f;refine⟨⟨plus d k,_,_,?_,f⟩,by dsimp only;omega⟩;rw[D,bJ (by simp[o])];simp
def aL5(G:Kc.Good R)(g:Int)(hb:R.length<4611686018427387904)(h:Sep E (fA l R::L) w):Calls P JO #[Pb l,Iv g] w (cZ E (Iv (iI R g jY).2) (fA l (iI R g jY).1::L)):=by
 apply Xr;unfold LY qQ;refine use (RI G g jY (λA x a f h1=>⟨J6,_,rfl,by kernel_rfl,?_⟩) hb h) ?_
 ·refine use (K:=λv w'=>v=fx (jY x a).1 (jY x a).2/\Sep E (A::L) w') (X9 x a ?_) (λv w' ⟨e,d⟩=>⟨by rw[e],d⟩);unfold MB qU qw zZ;refine Al.i h1 (λp w2 h2=>Al.i h2 (λq i b=>ld b 1 rfl rfl rfl (ld b 1 rfl rfl rfl (ey _ (vs:=[Iv x,Iv _]) b rfl (λj c=>?_)))));exact ld c 0 rfl rfl rfl (ld c 0 rfl rfl rfl ⟨rfl,c.tail.tail⟩)
 ·rintro _ f ⟨rfl,h1⟩;exact⟨_,rfl,rfl,h1⟩
def aLi(G:Kc.Good R)(f t:Int)(hb:R.length<4611686018427387904)(h:Sep E (fA l R::L) w):Calls P JN #[Pb l,Iv f,Iv t] w (cZ E (Iv (m9 R f t).2) (fA l (m9 R f t).1::L)):=by
 apply Xn;unfold LU qC qD qQ qg;unfold m9;have bad:∀ {d:bI} {g:Nat},(t<0\/16777216<t)->Sep E (bD g [Iv t]::fA l R::L) d->(Value.int .i64 0=Iv (if t<0\/16777216<t then(R,(0:Int))else iI R f (λ_ a=>(t,a))).2/\Sep E (fA l (if t<0\/16777216<t then(R,(0:Int))else iI R f (λ_ a=>(t,a))).1::L) d):=by
  intro d g hb h;rw[bK hb];exact⟨rfl,h.tail⟩
 refine Al.i h (λp d h1=>⟨λw=>¬ (t<0\/16777216<t)/\Sep E (bD p [Iv t]::fA l R::L) w,?_,?_⟩);·exact ld h1 0 rfl rfl rfl (cU (λc=>bad (.inl c) h1) (λn=>ld h1 0 rfl rfl rfl (gv (λc=>bad (.inr c) h1) (λo=>⟨bu,h1⟩))))
 rintro _ w2 ⟨i,h2⟩;rw[bJ i];refine use (RI (L:=bD p [Iv t]::L) G f (λ_ a=>(t,a)) (λA x a d h1=>⟨J5,_,rfl,by kernel_rfl,?_⟩) hb h2.swap) ?_
 ·refine use (K:=λv w'=>v=fx t a/\Sep E (A::bD p [Iv t]::L) w') (X2 x a ⟨p,0,none⟩ ?_) (λv w' ⟨k,j⟩=>⟨by rw[k],j⟩);unfold Mu qD qL qU qw zZ;refine Al.i h1 (λg w2 h2=>Al.i h2 (λq m b=>ld b 3 rfl rfl rfl (ld b 1 rfl rfl rfl (ey _ (vs:=[Iv t,Iv a]) b rfl (λr e=>?_)))));exact ld e 0 rfl rfl rfl (ld e 0 rfl rfl rfl ⟨rfl,e.tail.tail⟩)
 ·rintro _ m ⟨rfl,b⟩;exact⟨_,rfl,rfl,(b.fr 1 rfl).tail⟩
end Go.Mp.Gp
namespace Go.Sp
open Go
variable{E:Env}{L:cr}{w:bI}
def Sep.put{A A':Asn}{q:Nat}(a:L[q]?=some A)(h:Sep E (A'::L.eraseIdx q) w):Sep E (L.set q A') w:=by
 refine h.perm ?_;obtain⟨hl,_⟩:=c2.1 a;rw[be9,be3,bK hl];exact jo.symm
def Sep.hC{A A' B:Asn}{q:Nat}(a:L[q]?=some A)(h:Sep E (B::A'::L.eraseIdx q) w):Sep E (B::L.set q A') w:=by
 refine h.perm (List.Perm.cons _ ?_);obtain⟨hl,_⟩:=c2.1 a;rw[be9,be3,bK hl];exact jo.symm
end Go.Sp
namespace Go.Mp
open Go Go.Vc Go.Sp Go.Proofs Go.Kc
variable{E:Env}{L:cr}{w:bI}
structure At where
 c:Nat
 t:Nat
 fp:Nat
 fb:Nat
 fu:Nat
 sp:Nat
 sb:Nat
 su:Nat
 fi:Nat
 ge:Nat
 lg:Nat
 pg:Nat
 m:Nat
 gs:Sl
 us:Sl
 o:cf Obj
def eP.vs(x:eP):bA bH:=[Iv x.min,Iv x.low,.bool x.whole]
def eP.kv(x:eP):(eP.vs x).length=3:=rfl
def At.row(A:At):bA bH:=[Pb A.t,Pb A.fp,Pb A.fb,Pb A.fu,Pb A.sp,Pb A.sb,Pb A.su,
 Pb A.fi,Pb A.ge,Pb A.lg,Pb A.pg,.map (some A.m),.slice A.gs.p A.gs.n A.gs.c,.slice A.us.p A.us.n A.us.c]
def oc(m:Nat)(f:Int->bX Int):Asn:=cL (∀k x,f k=some x->0<=x/\x<18446744073709551616) (cM m (Value.int .i64) (λk=>(f k).map (Value.int .u64)))
def iX(s:Sl)(l:bA eP):Asn:=cL (s.n=l.length) (bw s 3 (bO eP.vs l))
def jC(s:Sl)(l:bA Kt.G):Asn:=cL (s.n=l.length) (bw s 1 (bC (l.map Kt.G.up)))
def cO(H:cf Obj):Asn:=cL (∃o,H[2]?=some o/\qt o) (ek H)
def ch(A:At)(S:Cs):cr:=
 [bD A.c A.row,eb A.t S.tree,gM A.fp S.fr.cb,gx A.fb S.fr.cb.length S.fr.dj,de A.fu S.fr.used,gM A.sp S.sl.cb,gx A.sb S.sl.cb.length S.sl.dj,de A.su S.sl.used,
  iK A.fi S.files,Gp.fA A.ge S.bV,fW A.lg S.log,Tp.c7 A.pg S.bt,oc A.m S.kept,iX A.gs S.guards,jC A.us S.tree,cO A.o]
variable{A:At}{S:Cs}
def Fx(g:Int)(h:Sep E (ch A S++L) w):Calls P ti #[Pb A.c,Iv g] w (cZ E (Iv (S.memory g)) (ch A S++L)):=by
 apply Wx;unfold Le qQ qZ;refine⟨_,rfl,ld h 0 rfl rfl rfl (use (Aq h (q:=4) rfl g) ?_)⟩;rintro _ a ⟨rfl,h1⟩;exact⟨_,rfl,rfl,h1⟩
def RJ(g:Int)(h:Sep E (ch A S++L) w):Calls P vy #[Pb A.c,Iv g] w (cZ E (Iv (S.swap g)) (ch A S++L)):=by
 apply Wy;unfold Lf qQ qZ;refine⟨_,rfl,ld h 0 rfl rfl rfl (use (Aq h (q:=7) rfl g) ?_)⟩;rintro _ a ⟨rfl,h1⟩;exact⟨_,rfl,rfl,h1⟩
def Az(p:Pg)(h:Sep E (ch A S++L) w):Calls P vK #[Pb A.c,.agg p.vs.toArray] w (cZ E (hS (S.text p)) (ch A S++L)):=by
 apply Yv;unfold MQ qL qZ zQ zZ;refine Al.i h (λb g h1=>?_);have h1:Sep E (bD b p.vs::(ch A S++L)) g:=h1;refine ld h1 0 rfl rfl rfl (eC (λc=>?_) (λe=>eC (λd=>?_) (λf=>?_)))
 ·refine Dr.i h1 (λw2 h2=>⟨_,rfl,ld h2 1 rfl rfl rfl (ld h2 0 rfl rfl rfl (use (Rt p.at_ (h2.fr 4 rfl)) ?_))⟩);rintro _ _ ⟨rfl,rfl⟩;refine⟨_,_,rfl,?_,h2.tail⟩;unfold Cs.text;rw[bK c];rfl
 ·refine Dr.i h1 (λw2 h2=>⟨_,rfl,ld h2 1 rfl rfl rfl (ld h2 0 rfl rfl rfl (use (Rt p.at_ (h2.fr 7 rfl)) ?_))⟩);rintro _ _ ⟨rfl,rfl⟩;refine⟨_,_,rfl,?_,h2.tail⟩;unfold Cs.text;rw[cK,bK d];rfl
 ·refine Dr.i h1 (λw2 h2=>⟨_,rfl,ld h2 1 rfl rfl rfl (ld h2 0 rfl rfl rfl (ld h2 0 rfl rfl rfl (use (PW (p.kf,p.ki) (h2.fr 9 rfl)) ?_)))⟩);rintro _ i ⟨rfl,a⟩;have a:Sep E (bD b p.vs::(ch A S++L)) i:=a.put (q:=9) rfl;refine⟨_,_,rfl,?_,a.tail⟩;unfold Cs.text;rw[bJ e,bJ f];rfl
def RK{p b u:Nat}{s:e9}{d:Sl}{l:bS}(at_:Int)(f:Ints E L d l)(hb:l.length<=64)(h:Sep E (gM p s.cb::gx b s.cb.length s.dj::de u s.used::L) w):
  Calls P rY #[.agg #[Pb p,Pb b,Pb u],Iv at_,Sv d] w
  (cZ E (.tuple #[]) (gM p (s.dE at_ l).cb::gx b (s.dE at_ l).cb.length (s.dE at_ l).dj::de u (s.dE at_ l).used::L)):=by
 apply XL;unfold Mh qQ qZ;refine Al.i h (λq g h1=>?_);have h1:Sep E (bD q [Pb p,Pb b,Pb u]::gM p s.cb::gx b s.cb.length s.dj::de u s.used::L) g:=h1;refine ld h1 0 rfl rfl rfl (use (aAh at_ (h1.fr 2 rfl)) ?_);rintro _ w2 ⟨rfl,h2⟩;have h2:Sep E (bD q [Pb p,Pb b,Pb u]::gM p s.cb::gx b s.cb.length (By.cl s.cb.length s.dj at_).1::de u s.used::L) w2:=h2.put (q:=2) rfl;refine⟨_,rfl,ld h2 0 rfl rfl rfl (use (Z7 (h2.fr 1 rfl) at_) ?_)⟩;rintro _ i ⟨rfl,a⟩;have a:Sep E (bD q [Pb p,Pb b,Pb u]::gM p (nK s.cb at_).1::gx b s.cb.length (By.cl s.cb.length s.dj at_).1::de u s.used::L) i:=a.put (q:=1) rfl;refine⟨_,rfl,ld a 0 rfl rfl rfl (use (Ar f.cons.cons.cons bu 1 (a.fr 3 rfl)) ?_)⟩;rintro _ j ⟨rfl,c⟩;have c:Sep E (bD q [Pb p,Pb b,Pb u]::gM p (nK s.cb at_).1::gx b s.cb.length (By.cl s.cb.length s.dj at_).1::de u (gB s.used l 1).1::L) j:=c.ro 4 [1,2,3,0] rfl;refine⟨_,rfl,rfl,?_⟩;have e:(s.dE at_ l).cb.length=s.cb.length:=B3 _ _;rw[e];exact c.tail
end Go.Mp
namespace Go.Sp
open Go
variable{E:Env}{L Q:cr}{X:Asn}{w:bI}
def Sep.eK(h:Sep E (X::(Q++L)) w):Sep E (Q++X::L) w:=h.perm jo.symm
def Sep.mT(h:Sep E (Q++X::L) w):Sep E (X::(Q++L)) w:=h.perm jo
def Sep.cut(h:Sep E (Q++X::L) w):Sep E (Q++L) w:=h.mT.tail
def Sep.right(h:Sep E (Q++L) w):Sep E L w:=(h.perm mu).left
end Go.Sp
namespace Go.Mp
open Go Go.Vc Go.Sp Go.Proofs Go.Kc
variable{E:Env}{L:cr}{w:bI}{A:At}{S:Cs}
def _root_.Go.Sp.Ints.er{s:Sl}{gs:bS}{q:Nat}(a:Ints E L s gs)(b:q<16):Ints E ((ch A S++L).eraseIdx q) s gs:=
 a.of (λ_ h=>by
  rw[List.eraseIdx_append_of_lt_length (show q<(ch A S).length from b)]at h;exact h.right)
def _root_.Go.Sp.Ints.pre{s:Sl}{gs:bS}(a:Ints E L s gs):Ints E (ch A S++L) s gs:=a.of (λ_ h=>h.right)
def RL(id:Int)(p:Pg)(h:Sep E (ch A S++L) w):Calls P C8 #[Pb A.c,Iv id,.agg p.vs.toArray] w (cZ E (.tuple #[]) (ch A (S.clean id p)++L)):=by
 apply XK;unfold Mg qG qL qQ qY qZ qh qy zJ zZ;refine Al.i h (λb m h1=>?_);have h1:Sep E (ch A S++bD b p.vs::L) m:=Sep.eK h1;have i:(0<=p.kf/\p.fl=true)=False->∀w',Sep E (ch A S++bD b p.vs::L) w'->Sep E (ch A (S.clean id p)++L) w':=by
  intro hf w' h';have:S.clean id p=S:=by unfold Cs.clean;rw[bJ (by rw[hf];exact not_false)]
  rw[this];exact h'.cut
 refine⟨λx w'=>(x=true↔(0<=p.kf/\p.fl=true))/\Sep E (ch A S++bD b p.vs::L) w',ld h1 16 rfl rfl rfl (hq (λg=>ld h1 16 rfl rfl rfl ⟨⟨λc=>⟨g,c⟩,λc=>c.2⟩,h1⟩) (λr=>⟨⟨λc=>(by cases c),λc=>bu⟩,h1⟩)),?_⟩;rintro _ x w2 ⟨hx,h2⟩;refine cy (λk=>?_) (λj=>⟨rfl,i (by rw[<- hx,j];simp) _ h2⟩);have l:=hx.1 k;refine Dr.i h2 (λs f=>⟨_,rfl,ld f 0 rfl rfl rfl ?_⟩)
 iterate 11 refine ld f 16 rfl rfl rfl ?_
 refine use (Az p f) ?_;rintro _ t ⟨rfl,e⟩;refine⟨_,rfl,ld e 16 rfl rfl rfl (ld e 16 rfl rfl rfl ⟨rfl,ld e 0 rfl rfl rfl ⟨rfl,use (aBf (p.kf,p.ki) (S.text p) (e.fr 8 rfl)) ?_⟩⟩)⟩;rintro _ n ⟨rfl,a⟩;have a:=a.put (q:=8) rfl;have a:Sep E (ch A {S with files:=(nN S.files (p.kf,p.ki) (S.text p)).1} ++bD b p.vs::L) n:=a;refine⟨_,rfl,_,rfl,ld a 0 rfl rfl rfl (use (Tp.RB id false (a.fr 11 rfl)) ?_)⟩;rintro _ o ⟨rfl,d⟩;have d:=d.put (q:=11) rfl;have d:Sep E (ch A {S with files:=(nN S.files (p.kf,p.ki) (S.text p)).1,bt:=(S.bt.mark id false).1} ++bD b p.vs::L) o:=d;refine⟨_,rfl,rfl,?_⟩;have:S.clean id p= {S with files:=(nN S.files (p.kf,p.ki) (S.text p)).1,bt:=(S.bt.mark id false).1} :=by unfold Cs.clean;rw[bK l]
 rw[this];exact d.cut
def cO.open{H:cf Obj}(h:Sep E (cO H::L) w):(∃o,w.heap[2]?=some o/\qt o)/\Sep E (ek H::L) w:=by
 obtain⟨⟨o,ho,a⟩,h⟩:=Sep.cL.1 h;exact⟨⟨o,by rw[h.kJ 2 (pG.1 ho).1];exact ho,a⟩,h⟩
def RM{p:Nat}{T:bA Bool}{H:cf Obj}{M:cr}{q:Nat}(a:M[q]?=some (cO H))(h:Sep E (gM p T::M) w):Calls P tu #[Pb p] w
  (cZ E (.tuple #[Iv (gf T).2.1,Iv (gf T).2.2]) (gM p (gf T).1::M)):=by
 obtain⟨⟨o,ho,b⟩,_⟩:=cO.open (h.fr (q+1) (by simpa using a));exact Z6 b h ho
def aLm(id:Int)(p:Pg){u:Sl}{l:bS}(r:Ints E L u l)(hb:l.length<=64)(h:Sep E (ch A S++L) w):Calls P Kx #[Pb A.c,Iv id,.agg p.vs.toArray,Sv u] w
  (cZ E (.bool (S.fF id p l).2) (ch A (S.fF id p l).1++L)):=by
 apply YZ;unfold Nj qD qG qO qQ qW qY qZ qj zJ;refine Al.i h (λb F h1=>?_);have h1:Sep E (ch A S++bD b p.vs::L) F:=Sep.eK h1;have hn:=r.1;refine⟨λi w'=>(∃k:Nat,i=k/\k<=l.length/\(l.take k).any (λg=>decide (hy S.sl.used g<=c0 S.sl.used g))=false)/\Sep E (ch A S++bD b p.vs::L) w',λi _=>(l.length-i).toNat,⟨⟨0,rfl,dX _,rfl⟩,h1⟩,?_⟩;rintro _ i w2 ⟨⟨k,rfl,hk,d⟩,h2⟩;refine cU (λJ=>?_) (λI=>?_)
 ·have m:k<l.length:=by omega
  obtain⟨g,s⟩:∃g,l[k]?=some g:=⟨_,ea m⟩
  refine r.cons.pre.el h2 k rfl s ?_;refine Dr.i h2 (λt a=>⟨_,rfl,ld a 0 rfl rfl rfl ?_⟩);refine use (RJ g a) ?_;rintro _ B ⟨rfl,c⟩;refine⟨_,rfl,ld c 0 rfl rfl rfl ⟨rfl,use (aJ5 c (q:=7) rfl g) ?_⟩⟩;rintro _ G ⟨rfl,f⟩;refine⟨_,rfl,hq (λy=>?_) (λy=>?_)⟩
  ·have:S.fF id p l=(S,false):=by
    unfold Cs.fF;rw[bK (uM.2 ⟨g,eG s,dK y⟩)]
   rw[this];exact⟨rfl,f.cut⟩
  ·rw[c4];refine⟨⟨⟨k+1,rfl,m,?_⟩,f⟩,by show(((l.length:Nat):Int)-((k+1:Nat):Int)).toNat<(((l.length:Nat):Int)-(k:Int)).toNat;omega⟩;have z:¬ hy S.sl.used g<=c0 S.sl.used g:=by have K:S.swap g=c0 S.sl.used g:=rfl;omega
   rw[take_succ s,Hw,d];simp[z]
 ·have:k=l.length:=by omega
  subst this;rw[fB]at d;refine⟨_,rfl,ld h2 0 rfl rfl rfl (use (RM (q:=14) rfl (h2.fr 5 rfl)) ?_)⟩;rintro _ t ⟨rfl,a⟩;have a:=a.put (q:=5) rfl;refine⟨_,_,rfl,g0 (λhf=>?_) (λhe=>?_)⟩
  ·have e:S.fF id p l=(S,false):=by
    unfold Cs.fF;rw[bJ (by rw[d];decide)];simp only;rw[bK hf]
   have C:=(Cf hf).2;rw[C]at a;rw[e];have a:Sep E (ch A S++bD b p.vs::L) t:=a;exact⟨rfl,a.cut⟩
  ·have e:S.fF id p l=({S with sl:=⟨(gf S.sl.cb).1,(By.wr (gf S.sl.cb).1.length S.sl.dj (gf S.sl.cb).2.1 (S.text p)).1,(ds S.sl.used l 1).1⟩,bt:=(S.bt.put id 2 (gf S.sl.cb).2.1).1},true):=by
    unfold Cs.fF;rw[bJ (by rw[d];decide)];simp only;rw[cK]
   have n:=B2 S.sl.cb;have a:Sep E (ch A {S with sl:=⟨(gf S.sl.cb).1,S.sl.dj,S.sl.used⟩} ++bD b p.vs::L) t:=by
    unfold ch;simp only;rw[n];exact a
   rw[e];refine⟨_,rfl,ld a 0 rfl rfl rfl (use (Rm (r.cons.er bN) bu 1 (a.fr 7 rfl)) ?_)⟩;rintro _ B ⟨rfl,c⟩;have c:=c.put (q:=7) rfl;have c:Sep E (ch A {S with sl:=⟨(gf S.sl.cb).1,S.sl.dj,(ds S.sl.used l 1).1⟩} ++bD b p.vs::L) B:=c;refine⟨_,_,rfl,Dr.i c (λG f=>⟨_,rfl,ld f 0 rfl rfl rfl ?_⟩)⟩
   iterate 9 refine ld f 16 rfl rfl rfl ?_
   have D:({S with sl:=⟨(gf S.sl.cb).1,S.sl.dj,(ds S.sl.used l 1).1⟩} :Cs).text p=S.text p:=by
    unfold Cs.text;simp only;rw[n]
   refine use (Az p f) ?_;rintro _ M ⟨rfl,x⟩;rw[D];refine⟨_,rfl,ld x 0 rfl rfl rfl ⟨rfl,use (Ru (gf S.sl.cb).2.1 _ (x.fr 6 rfl)) ?_⟩⟩;rintro _ H ⟨rfl,j⟩;have j:=j.put (q:=6) rfl;have j:Sep E (ch A {S with sl:=⟨(gf S.sl.cb).1,(By.wr (gf S.sl.cb).1.length S.sl.dj (gf S.sl.cb).2.1 (S.text p)).1,(ds S.sl.used l 1).1⟩} ++bD b p.vs::L) H:=j;refine⟨_,rfl,_,rfl,ld j 0 rfl rfl rfl (use (Tp.uc id 2 _ (j.fr 11 rfl)) ?_)⟩;rintro _ N ⟨rfl,o⟩;have o:=o.put (q:=11) rfl;refine⟨_,rfl,rfl,?_⟩;exact Sep.cut (Q:=ch A {S with sl:=⟨(gf S.sl.cb).1,(By.wr (gf S.sl.cb).1.length S.sl.dj (gf S.sl.cb).2.1 (S.text p)).1,(ds S.sl.used l 1).1⟩,bt:=(S.bt.put id 2 (gf S.sl.cb).2.1).1}) o
def RN{a:Sl}{l:bS}(at_:Int)(b:Ints E L a l)(hb:l.length<=64)(h:Sep E (ch A S++L) w):
  Calls P rY #[.agg #[Pb A.fp,Pb A.fb,Pb A.fu],Iv at_,Sv a] w
  (cZ E (.tuple #[]) (ch A {S with fr:=S.fr.dE at_ l} ++L)):=by
 have h1:=h.ro 16 [2,3,4,0,1,5,6,7,8,9,10,11,12,13,14,15] rfl;refine use (RK (s:=S.fr) at_ b.cons.cons.cons.cons.cons.cons.cons.cons.cons.cons.cons.cons.cons hb h1) ?_;rintro _ c ⟨rfl,h2⟩;exact⟨_,rfl,rfl,h2.ro 16 [3,4,0,1,2,5,6,7,8,9,10,11,12,13,14,15] rfl⟩
def RO{a:Sl}{l:bS}(at_:Int)(b:Ints E L a l)(hb:l.length<=64)(h:Sep E (ch A S++L) w):
  Calls P rY #[.agg #[Pb A.sp,Pb A.sb,Pb A.su],Iv at_,Sv a] w
  (cZ E (.tuple #[]) (ch A {S with sl:=S.sl.dE at_ l} ++L)):=by
 have h1:=h.ro 16 [5,6,7,0,1,2,3,4,8,9,10,11,12,13,14,15] rfl;refine use (RK (s:=S.sl) at_ b.cons.cons.cons.cons.cons.cons.cons.cons.cons.cons.cons.cons.cons hb h1) ?_;rintro _ c ⟨rfl,h2⟩;exact⟨_,rfl,rfl,h2.ro 16 [3,4,5,6,7,0,1,2,8,9,10,11,12,13,14,15] rfl⟩
def aG7{g c:Int}(a:gg g=true):0<=sV g c/\sV g c<18446744073709551616:=by
 have d:0<=g/\g<64:=by simpa[gg]using a
 unfold sV;have h1:top=1099511627776:=rfl;have h2:=Hx c (b:=top) bu;have e:=Int.emod_lt_of_pos c (b:=top) bu;omega
def aK5(l:bS)(g:Int):0<=(dZ l g).2/\(dZ l g).2<18446744073709551616:=by
 unfold dZ;split;·exact⟨by simp,by simp⟩
 ·next h=>
  simp only;split;·exact⟨bu,bu⟩
  ·exact aG7 (by simpa using h)
def RP:mQ P Cz=some (gu,.int .u64 0):=by kernel_rfl
def oc.Fy{m:Nat}{f:Int->bX Int}(h:Sep E (oc m f::L) w){id x:Int}(hx:0<=x/\x<18446744073709551616){G:bi9}(g:∀a,Sep E (oc m (cR f id (some x))::L) a->G a):
  ∃a,Sem.run P (Instr.mapUpdate Cz (.map (some m)) (Iv id) (.int .u64 x)) w=.ok () a/\G a:=by
 obtain⟨hk,h1⟩:=Sep.cL.1 h;refine mapUpdate.i h1 Tp.mS RP id _ (λa h2=>g a (Sep.cL.2 ⟨λk y b=>?_,?_⟩))
 ·unfold cR at b;split at b;·cases b;exact hx
  ·exact hk k y b
 ·have e:cR (λk=>(f k).map (Value.int .u64)) id (some (.int .u64 x))= λk=>(cR f id (some x) k).map (Value.int .u64):=by
   funext k;unfold cR;split<;>rfl
  rw[e]at h2;exact h2
def aL7(id:Int)(hw:Kt.WF S.tree)(G:Kc.Good S.bV)(h:Sep E (ch A S++L) w):Calls P J9 #[Pb A.c,Iv id] w
  (cZ E (.bool (S.out id).2) (ch A (S.out id).1++L)):=by
 apply Yl;unfold MI qE qF qJ qL qM qP qQ qU qV qX qY qZ qg zS zU;refine⟨_,rfl,ld h 0 rfl rfl rfl (use (Tp.pw id (h.fr 11 rfl)) ?_)⟩;rintro _ H ⟨rfl,h1⟩;have h1:Sep E (ch A S++L) H:=h1.put (q:=11) rfl;obtain⟨p,hp⟩:∃p,(S.bt.get id).1=p:=⟨_,rfl⟩
 rw[hp];refine⟨_,_,_,_,_,_,_,_,_,_,rfl,Al.i h1 (λb w2 h2=>ey (vs:=p.vs) _ h2 rfl (λI n=>?_))⟩;have n:Sep E (ch A S++bD b p.vs::L) I:=Sep.eK n;refine Dr.i n (λV o=>⟨_,rfl,ld o 0 rfl rfl rfl (ld o 16 rfl rfl rfl (use (tQ hw (o.fr 1 rfl)) ?_))⟩);rintro _ J ⟨j,rfl,y,d⟩;have d:=d.hC (q:=1) rfl;have d:Sep E (ch A S++bw j 1 (bC (S.chain p.owner))::bD b p.vs::L) J:=Sep.eK (Q:=ch A S) d;have s:Ints E (bw j 1 (bC (S.chain p.owner))::bD b p.vs::L) j (S.chain p.owner):=Ints.row y;have m:(S.chain p.owner).length<=64:=qS hw _;let O:Cs×Bool:=if 0<=p.kf then({S.clean id p with bt:=((S.clean id p).bt.put id 0 0).1},true)else S.fF id p (S.chain p.owner)
 have t:S.out id=if O.2=true then(O.1.leave id p (S.chain p.owner),true)else(S,false):=by
  unfold Cs.out;rw[hp];simp only[O];split;·rfl
  ·rfl
 have l:O.1.bV=S.bV:=by
  simp only[O];split;·unfold Cs.clean;split<;>rfl
  ·unfold Cs.fF;split;·rfl
   ·simp only;split<;>rfl
 refine⟨_,rfl,λw'=>O.2=true/\Sep E (ch A O.1++bw j 1 (bC (S.chain p.owner))::bD b p.vs::L) w',ld d 17 rfl rfl rfl (hq (λz=>?_) (λN=>?_)),?_⟩
 ·iterate 9 refine ld d 17 rfl rfl rfl ?_
  refine use (RL id p d) ?_;rintro _ C ⟨rfl,f⟩;refine⟨rfl,_,rfl,ld f 0 rfl rfl rfl (use (Tp.uc id 0 0 (f.fr 11 rfl)) ?_)⟩;rintro _ K ⟨rfl,g⟩;have g:=g.put (q:=11) rfl;have e:O=({S.clean id p with bt:=((S.clean id p).bt.put id 0 0).1},true):=bK z;rw[e];exact⟨_,rfl,rfl,g⟩
 ·iterate 9 refine ld d 17 rfl rfl rfl ?_
  refine use (aLm id p s m d) ?_;rintro _ C ⟨rfl,f⟩;have e:O=S.fF id p (S.chain p.owner):=cK;refine⟨_,rfl,cy (λhf=>?_) (λF=>⟨by rw[e];simpa using F,by rw[e];exact f⟩)⟩;have hf:(S.fF id p (S.chain p.owner)).2=false:=by simpa using hf
  rw[t,e,bJ (by rw[hf];decide)];have D:(S.fF id p (S.chain p.owner)).1=S:=by
   unfold Cs.fF at hf ⊢;split;·rfl
   ·next i=>
    rw[bJ i]at hf;simp only at hf ⊢;split;·rfl
    ·next a=>rw[bJ a]at hf;cases hf
  rw[D]at f;exact⟨rfl,f.cut.cut⟩
 rintro _ C ⟨u,f⟩;rw[t,bK u];obtain⟨T,x⟩:∃T,O.1=T:=⟨_,rfl⟩
 rw[x]at f ⊢;rw[x]at l;refine Dr.i f (λK g=>⟨_,rfl,ld g 0 rfl rfl rfl (ld g 0 rfl rfl rfl (ld g 0 rfl rfl rfl (ld g 17 rfl rfl rfl ?_)))⟩);refine use (RN p.at_ s m g) ?_;rintro _ W ⟨rfl,r⟩;refine⟨rfl,_,rfl,ld r 0 rfl rfl rfl (use (Gp.wE (by show Kc.Good T.bV;rw[l];exact G) id (r.fr 9 rfl)) ?_)⟩;rintro _ M ⟨rfl,i⟩;have i:=i.put (q:=9) rfl;have i:Sep E (ch A {T with fr:=T.fr.dE p.at_ (S.chain p.owner),bV:=(jv T.bV id).1} ++bw j 1 (bC (S.chain p.owner))::bD b p.vs::L) M:=i;refine⟨_,rfl,Dr.i i (λR a=>⟨_,rfl,ld a 0 rfl rfl rfl ⟨_,rfl,ld a 0 rfl rfl rfl (ld a 17 rfl rfl rfl (use (aLl (a.fr 10 rfl) p.owner) ?_))⟩⟩)⟩;rintro _ B ⟨rfl,c⟩;have c:=c.put (q:=10) rfl;have c:Sep E (ch A {T with fr:=T.fr.dE p.at_ (S.chain p.owner),bV:=(jv T.bV id).1,log:=(dZ T.log p.owner).1} ++bw j 1 (bC (S.chain p.owner))::bD b p.vs::L) B:=c;refine⟨_,rfl,ld c 0 rfl rfl rfl ⟨rfl,oc.Fy (c.fr 12 rfl) (aK5 _ _) (λU k=>?_)⟩⟩;have k:=k.put (q:=12) rfl;exact⟨rfl,Sep.cut (Sep.cut (Q:=ch A (T.leave id p (S.chain p.owner))) k)⟩
def RQ(id:Int)(h:Sep E (ch A S++L) w):Calls P C4 #[Pb A.c,Iv id] w
  (cZ E (.tuple #[Iv (S.here id).1,.bool (S.here id).2]) (ch A S++L)):=by
 apply XB;unfold L7 qL qU qV qX qZ;refine⟨_,rfl,ld h 0 rfl rfl rfl (use (Tp.pw id (h.fr 11 rfl)) ?_)⟩;rintro _ g ⟨rfl,h1⟩;have h1:Sep E (ch A S++L) g:=h1.put (q:=11) rfl;obtain⟨p,hp⟩:∃p,(S.bt.get id)=p:=⟨_,rfl⟩
 have f:S.here id=(p.1.at_,p.2==0&&p.1.place==1):=by unfold Cs.here;rw[hp]
 rw[hp,f];refine⟨_,_,_,_,_,_,_,_,_,_,rfl,Al.i h1 (λb w2 h2=>ey (vs:=p.1.vs) _ h2 rfl (λi c=>?_))⟩;have c:Sep E (ch A S++bD b p.1.vs::L) i:=Sep.eK c;refine Dr.i c (λj a=>ld a 16 rfl rfl rfl (eC (λe=>ld a 16 rfl rfl rfl ⟨?_,a.cut⟩) (λd=>⟨?_,a.cut⟩)));·rw[e];simp
 ·rw[show(p.2==0)=false by simpa using d];simp
def RR(id at_ g:Int)(t:bA UInt8)(ek:Bool)(G:Kc.Good S.bV)(h:Sep E (ch A S++L) w):Calls P DQ #[Pb A.c,Iv id,Iv at_,Iv g,hS t,.bool ek] w
  (cZ E (.tuple #[]) (ch A (S.place id at_ g t ek)++L)):=by
 apply Y3;unfold Nn qQ qZ;refine⟨_,rfl,ld h 0 rfl rfl rfl (use (Ru at_ _ (h.fr 3 rfl)) ?_)⟩;rintro _ c ⟨rfl,h1⟩;have h1:=h1.put (q:=3) rfl;have h1:Sep E (ch A {S with fr:={S.fr with dj:=(By.wr S.fr.cb.length S.fr.dj at_ t).1}} ++L) c:=h1;refine⟨_,rfl,_,rfl,ld h1 0 rfl rfl rfl (use (Tp.RA id g (h1.fr 11 rfl)) ?_)⟩;rintro _ w2 ⟨rfl,h2⟩;have h2:=h2.put (q:=11) rfl;have h2:Sep E (ch A {S with fr:={S.fr with dj:=(By.wr S.fr.cb.length S.fr.dj at_ t).1},bt:=(S.bt.own id g).1} ++L) w2:=h2;refine⟨_,rfl,_,rfl,ld h2 0 rfl rfl rfl (use (Tp.uc id 1 at_ (h2.fr 11 rfl)) ?_)⟩;rintro _ d ⟨rfl,a⟩;have a:=a.put (q:=11) rfl;have a:Sep E (ch A {S with fr:={S.fr with dj:=(By.wr S.fr.cb.length S.fr.dj at_ t).1},bt:=((S.bt.own id g).1.put id 1 at_).1} ++L) d:=a;refine⟨_,rfl,_,rfl,ld a 0 rfl rfl rfl (use (Gp.ER G id g ek (a.fr 9 rfl)) ?_)⟩;rintro _ e ⟨rfl,b⟩;have b:=b.put (q:=9) rfl;exact⟨_,rfl,rfl,b⟩
def en(l:bA Bool):bA bH:=l.map Value.bool
@[simp] theorem aLc(l:bA Bool):(en l).length=l.length:=by simp[en]
@[simp] theorem RS(l:bA Bool)(i:Nat):(en l)[i]?=l[i]?.map Value.bool:=by simp[en]
def aLX(n:Nat):((List.range (((n:Nat):Int).toNat*1)).map λi=>(([Value.bool false]:bA bH).toArray)[i%([Value.bool false]:bA bH).length]!)=en (List.replicate n false):=by
 rw[dt,fY];apply gJ;intro i;rw[ez,RS,oh];by_cases a:i<n
 ·rw[ny a,bK a];simp[Nat.mod_one]
 ·rw[gI (by simpa using a),bJ a];rfl
def aGN{n:Nat}(hb:n<1000000)(h:Sep E L w){G:Sl->bi9}(k:∀s a,s.n=n->Sep E (bw s 1 (en (List.replicate n false))::L) a->G s a):
  ∃x:Sl,∃a,Sem.run P (Instr.makeSlice mc (Iv ((n:Nat):Int)) (Iv ((n:Nat):Int))) w=.ok (Sv x) a/\G x a:=by
 refine makeSlice.i h (by kernel_rfl:hG P mc=some (1,1,[.bool false])) bu (hh _) bu bu (λb a h1=>k _ a (by simp) ?_);rw[aLX]at h1;exact bw.make (spare:=[]) (by simpa using h1) (by simp) (by simp) (ec _)
def aMb{s:Sl}{l:bA Bool}{i:Int}{x:Bool}{F:bi9}(h:Sep E (bw s 1 (en l)::L) w)(hn:s.n=l.length)(d:0<=i)(h1:i<l.length)(k:∀c,Sep E (bw s 1 (en (l.set i.toNat x))::L) c->F c):cF s.p s.n i 1 λa=>St a (.bool x) F w:=by
 refine bw.el 0 h rfl d bu (λb hb _=>?_);rw[fY];refine bw.st h hb (by simp;omega) (λc h1=>k c ?_);have:en (l.set i.toNat x)=(en l).set i.toNat (.bool x):=by simp[en,hT]
 rw[this];exact h1
def wG{s:Sl}{l:bA Bool}{i:Int}{F:Bool->Prop}(q:Nat)(h:Sep E L w)(e:L[q]?=some (bw s 1 (en l)))(hn:s.n=l.length)(c:0<=i)(h1:i<l.length)(k:F (hQ l i)):cF s.p s.n i 1 λa=>∃x:Bool,w.cell? a=some (.bool x)/\F x:=by
 refine bw.el q h e c bu (λb _ d=>⟨_,?_,k⟩);have:=d 0 bu;rw[l2]at this;rw[this,RS,fY,ea (show i.toNat<l.length by omega)];unfold hQ;rw[dC,ea (show i.toNat<l.length by omega)];rfl
def RU:hG P yq=some (24,3,[Iv 0,Iv 0,Iv 0]):=by kernel_rfl
def aGQ{s:Sl}{q:Nat}{l:bA eL}{x:eL}(hn:s.n=l.length)(hb:l.length<1000000)(h:Sep E (bD q x.vs::eE s l::L) w){G:Sl->bi9}(g:∀s' a,s'.n=l.length+1->Sep E (eE s' (l++[x])::L) a->G s' a):
  ∃d:Sl,∃a,Sem.run P (Builtin.append_ #[yq,yq] yq #[Sv s,.slice (some ⟨q,0,none⟩) 1 1]) w=.ok (Sv d) a/\G d a:=by
 have e:=Src.bD (n:=1) (c:=1) h (i:=0) rfl RU rfl (λu hu=>by simp[eL.vs]at hu;rcases hu with rfl|rfl|rfl<;>rfl);refine bw.append h.swap RU rfl e bu (by rw[hn];omega) (λs' a b h1=>?_);refine g s' a (by rw[b,hn]) ?_;unfold eE;rw[nm,ph];exact(h1.fr 0 rfl).ro 2 [0] rfl
def Cs.ud(S:Cs)(own:eP->Int)(g:Nat):eL:=if S.live g then⟨((S.tree[g]?).map Kt.G.up).getD (-1),S.memory g,own (S.na g)⟩else⟨((S.tree[g]?).map Kt.G.up).getD (-1),0,0⟩
def RV(own:eP->Int){k:Nat}(hk:k<S.guards.length):(S.nodes own)[k]?=some (Cs.ud S own k):=by
 unfold Cs.nodes Cs.ud;rw[ez,ny hk];rfl
def Fz(own:eP->Int):(S.nodes own).length=S.guards.length:=by simp[Cs.nodes]
def wH(t:Int)(own:eP->Int):(S.held t own).length=S.guards.length:=by simp[Cs.held,Fz]
def aIN(t:Int)(own:eP->Int){k:Nat}(hk:k<S.guards.length):(S.held t own)[k]?=some (nP (S.nodes own) (m7 (S.nodes own) t) t k):=by
 unfold Cs.held;simp only;rw[ez,ny (by rw[Fz];exact hk)];rfl
def iX.open{s:Sl}{l:bA eP}(h:Sep E (iX s l::L) w):s.n=l.length/\Sep E (bw s 3 (bO eP.vs l)::L) w:=Sep.cL.1 h
def jC.open{s:Sl}{l:bA Kt.G}(h:Sep E (jC s l::L) w):s.n=l.length/\Sep E (bw s 1 (bC (l.map Kt.G.up))::L) w:=Sep.cL.1 h
def FA(E:Env)(own:bH)(et:eP->Int):Prop:=∀(L:cr) (x:eP) (w:bI),Sep E L w->fe P own #[.agg #[Iv x.min,Iv x.low,.bool x.whole]] w λe w'=>e=.returned (Iv (et x))/\Sep E L w'
def RW:FA E (.func (.func vD) #[] #[]) eP.min:=by
 intro L x w h;refine⟨vD,_,rfl,by kernel_rfl,?_⟩;refine use (K:=λv w'=>v=Iv x.min/\Sep E L w') (Xt _ _ _ (Al.i h (λb d h1=>⟨_,h1.cell 0,rfl,h1.tail⟩))) (λv w' ⟨c,a⟩=>⟨by rw[c],a⟩)
def RX:FA E (.func (.func vF) #[] #[]) eP.low:=by
 intro L x w h;refine⟨vF,_,rfl,by kernel_rfl,?_⟩;refine use (K:=λv w'=>v=Iv x.low/\Sep E L w') (Xu _ _ _ (Al.i h (λb d h1=>⟨_,h1.cell 1,rfl,h1.tail⟩))) (λv w' ⟨c,a⟩=>⟨by rw[c],a⟩)
def AA{t:Int}{own:bH}{et:eP->Int}(K:FA E own et)(an:S.guards.length=S.tree.length)(aj:S.guards.length<=64)(hu:∀g,S.memory g<2147483648)(h:Sep E (ch A S++L) w):
  Calls P rX #[Pb A.c,Iv t,own] w (cC λv w'=>∃e:Sl,v=Sv e/\e.n=(S.held t et).length/\Sep E (ch A S++bw e 1 (en (S.held t et))::L) w'):=by
 apply Xs;unfold LZ qD qF qJ qK qO qQ qU qW qZ qa qf qg qi ql qx;have R:=(iX.open (h.fr 13 rfl)).1;have Z:=(jC.open (h.fr 14 rfl)).1;have B:=Fz (S:=S) et;refine⟨_,rfl,A.gs,h.cellAt 0 rfl 12,?_⟩;refine⟨λs i w'=>∃k:Nat,i=k/\k<=S.guards.length/\s.n=k/\Sep E (ch A S++eE s ((S.nodes et).take k)::L) w',λ_ i _=>(S.guards.length-i).toNat,⟨0,rfl,dX _,rfl,Sep.eK (bw.none_ h)⟩,?_⟩;rintro _ s _ al ⟨k,rfl,hk,ao,h1⟩;refine cU (λW=>?_) (λO=>?_)
 ·have c:k<S.guards.length:=by omega
  obtain⟨x,hx⟩:∃x,S.guards[k]?=some x:=⟨_,ea c⟩
  obtain⟨y,M⟩:∃y,S.tree[k]?=some y:=⟨_,du⟩
  have ak:S.na (k:Int)=x:=by unfold Cs.na;rw[dt,dC,hx];rfl
  obtain⟨m,z⟩:∃m,Cs.ud S et k=m:=⟨_,rfl⟩
  refine jL eP.kv 0 (iX.open (h1.fr 13 rfl)).2 rfl R rfl hx (λb _ H=>⟨x.min,by rw[cj];exact H 0 _ rfl,x.low,by rw[cj];exact H 1 _ rfl,x.whole,by rw[cj];exact H 2 _ rfl,?_⟩);refine Al.i h1 (λl w2 h2=>ey (vs:=eP.vs x) _ h2 rfl (λad d=>?_));have d:Sep E (ch A S++bD l (eP.vs x)::eE s ((S.nodes et).take k)::L) ad:=Sep.eK d;refine⟨_,rfl,A.us,d.cellAt 0 rfl 13,?_⟩;refine(Ints.at_ (q:=0) rfl (by simpa using Z)).el (jC.open (d.fr 14 rfl)).2 k rfl (by rw[ez,M];rfl) ?_;refine Al.i d (λp am u=>ey (vs:=[Iv y.up,Iv 0,Iv 0]) _ u rfl (λae f=>?_));have f:Sep E (ch A S++bD p [Iv y.up,Iv 0,Iv 0]::bD l (eP.vs x)::eE s ((S.nodes et).take k)::L) ae:=Sep.eK f;refine⟨λw'=>Sep E (ch A S++bD p m.vs::bD l (eP.vs x)::eE s ((S.nodes et).take k)::L) w',⟨_,rfl,ld f 0 rfl rfl rfl (use (kQ f (q:=1) rfl) ?_)⟩,?_⟩
  ·rintro _ _ ⟨rfl,rfl⟩;refine⟨_,rfl,cy (λhl=>?_) (λhl=>?_)⟩
   ·refine Dr.i f (λaf a=>ld a 17 rfl rfl rfl (ld a 17 rfl rfl rfl (ld a 17 rfl rfl rfl (use (Fx _ a) ?_))));rintro _ ag ⟨rfl,j⟩;refine⟨_,rfl,ld j 17 rfl rfl rfl (ld j 17 rfl rfl rfl (ld j 17 rfl rfl rfl ⟨rfl,fe.use (K _ x _ j) ?_⟩))⟩;rintro e ah ⟨rfl,r⟩;have r:Sep E (bD p [Iv y.up,Iv 0,Iv 0]::(ch A S++bD l (eP.vs x)::eE s ((S.nodes et).take k)::L)) ah:=r.mT;refine⟨_,rfl,St.i r (by simp) (λaq ai=>St.i ai (by simp) (λap N=>?_))⟩;have e:m=⟨y.up,S.memory k,et x⟩:=by
     rw[<- z];unfold Cs.ud;rw[bK (show S.live k=true from hl),M,ak];rfl
    rw[e];exact Sep.eK N
   ·have e:m=⟨y.up,0,0⟩:=by
     rw[<- z];unfold Cs.ud;rw[bJ (by rw[show S.live k=false from hl];decide),M];rfl
    rw[e];exact f
  ·intro _ af a;refine ld a 16 rfl rfl rfl (ld a 16 rfl rfl rfl (ld a 16 rfl rfl rfl (Al.i a (λab ag j=>?_))));have j:Sep E (bD ab m.vs::eE s ((S.nodes et).take k)::(ch A S++bD p m.vs::bD l (eP.vs x)::L)) ag:=(j.fr 19 rfl).swap;refine aGQ (by rw[gT,B];omega) (by rw[gT,B];omega) j (λs' ah Y r=>?_);have F:=RV (S:=S) et c;rw[z]at F;rw[<- take_succ F]at r;rw[c4];refine⟨⟨k+1,rfl,c,by rw[Y,gT,B];omega,Sep.eK (Sep.cut (Q:=eE s' ((S.nodes et).take (k+1))::ch A S) (Sep.cut (Q:=eE s' ((S.nodes et).take (k+1))::ch A S) r))⟩,?_⟩;show(((S.guards.length:Nat):Int)-((k+1:Nat):Int)).toNat<(((S.guards.length:Nat):Int)-(k:Int)).toNat;omega
 ·have V:k=(S.nodes et).length:=by omega
  rw[V,fB]at h1;have h1:Sep E (eE s (S.nodes et)::(ch A S++L)) al:=h1.mT;have I:=bw.cap h1;refine use (aCZ bu bu I (λx hx=>?_) h1) ?_
  ·obtain⟨i,J⟩:=rk.1 hx;have U:i<S.guards.length:=by have:=(c2.1 J).1;omega
   rw[RV et U]at J;cases J;unfold Cs.ud;split;·exact hu _
   ·show(0:Int)<2147483648;decide
  rintro _ w2 ⟨e,rfl,he,h2⟩;refine⟨e,rfl,?_⟩;refine aGN (n:=s.n) bu h2 (λaa ad C d=>?_);have X:s.n=S.guards.length:=by omega
  rw[X]at d C;have o:=wH (S:=S) t et;refine⟨λx w'=>∃k:Nat,x=k/\k<=S.guards.length/\Sep E (eE s (S.nodes et)::bw e 1 (bC (m7 (S.nodes et) t))::bw aa 1 (en ((S.held t et).take k++List.replicate (S.guards.length-k) false))::(ch A S++L)) w',
   λx _=>(S.guards.length-x).toNat,⟨0,rfl,dX _,d.ro 3 [2,1,0] rfl⟩,?_⟩
  rintro _ _ am ⟨k,rfl,hk,u⟩;refine cU (λW=>?_) (λO=>?_)
  ·have c:k<S.guards.length:=by omega
   refine use (aLg bu he bu u) ?_;rintro _ ae ⟨rfl,f⟩;have T:=aIN (S:=S) t et c;have D:((S.held t et).take k++List.replicate (S.guards.length-k) false).length=S.guards.length:=by simp[o];omega
   refine⟨_,rfl,aMb (f.fr 2 rfl) (by rw[D];exact C) bu (by rw[D];omega) (λaf a=>?_)⟩;have G:((S.held t et).take k++List.replicate (S.guards.length-k) false).set ((k:Nat):Int).toNat (nP (S.nodes et) (m7 (S.nodes et) t) t k)=(S.held t et).take (k+1)++List.replicate (S.guards.length-(k+1)) false:=by
    rw[dt,take_succ T,iD k _ (by simp;omega),dp];congr 1;rw[gT,o,pM hk,iE,show S.guards.length-k=(S.guards.length-(k+1))+1 by omega,oS];rfl
   rw[G]at a;rw[c4];refine⟨⟨k+1,rfl,c,a.ro 3 [1,2,0] rfl⟩,?_⟩;show(((S.guards.length:Nat):Int)-((k+1:Nat):Int)).toNat<(((S.guards.length:Nat):Int)-(k:Int)).toNat;omega
  ·have:k=S.guards.length:=by omega
   subst this;rw[iE,<- o,fB,Hc,g3]at u;exact⟨aa,rfl,by rw[o];exact C,Sep.eK u.tail.tail⟩
end Go.Mp
namespace Go.Mp
open Go Go.Vc
def wI(id:Nat):Code->bX (cf Oper)
 |.region i ops _=>bif Nat.beq i id then some ops else none
 |.seq x y=>match wI id x with
  |some o=>some o
  |none=>wI id y
 |_=>none
def wK:dU:={fork:=λr=>[3].contains r,join:=λr=>(bif r==4 then some [(9,.ptr),(10,.ptr)]else none)}
noncomputable def AB:cf Oper:=((f128.body.bind (wI 3)).getD #[])
def RY(c:cm)(target:Int)(a:Sl)(all:Bool)(K:bj0)(w:bI):Prop:=
 Al (.cells #[(Pv c)] 28) (λf w2=>∃o,w2.cell? f=some (Pv o)/\NN o λa4=>∃p,w2.cell? (a4.add 0)=some (Pv p)/\
  Calls P ku #[(Pv p),(Iv target)] w2 λD B=>∃i,D=.returned (.bool i)/\bif(!i)then(K aP2 B)else(∃q:bX
  Addr->cm->bi9,(Dr (λv=>g5 P fV gZ cD wK AB (m4 (nE [(9,.ptr),(10,.ptr)] q) (o3 P fV [.tmp 8] K
  (λ_ _=>False))) AB.size (Array.replicate AB.size false) ((((((((((js [(Pv c),(Iv target),(.slice a.p a.n
  a.c),(.bool all)] 0 .nil).put (some 4) (Pv (some f))).put (some 8) (.bool false)).put (some 13) (Pv o)).put (some 14) (Pv (some a4))).put (some 15)
  (Pv (some (a4.add 0)))).put (some 16) (Pv p)).put (some 17) (Iv target)).put (some 18) (.bool i)).put (some 19) (.bool (!i))) v) B)/\(∀C:Nat->
  bH,∀b:cm,∀d:cm,∀e:bI,q b d e->∃j,e.cell? f=some (Pv j)/\NN j λr=>∃k:
  cm,e.cell? (r.add 8)=some (Pv k)/\Calls P J8 #[(Pv k),(Sv a)] e λs x=>∃l:Sl,s
  =.returned (Sv l)/\Al (.cells #[(aP8)] 22) (λg y=>St g (Sv l) (λz=>Calls P Dt #[(.func
  (.func Ka) #[] #[(Pv b),(Pv d)]),(Pv (some g)),(Pv (some f))] z λt h=>∃m:Bool,t=.returned (.bool
  m)/\bif m then(K aP3 h)else(bif all then(Calls P Dt #[(.func (.func Kb) #[] #[(Pv b)]),(Pv (some g)),
  (Pv (some f))] h λu A=>∃n,u=.returned (.bool n)/\K (.bool n) A)else(K aP2 h))) y) x))) w
def atW(c:cm)(target:Int)(a:Sl)(all:Bool)(K:bj0)(w:bI):kI P fV gZ cD wK f128 #[(.pointer c),(.int .i64 target),(.slice a.p a.n a.c),(.bool all)] K (λ_ _=>False) w=RY c target a all K w:=by kernel_rfl
def atp:lA P wK f128 4=true:=by kernel_rfl
def asM(c:cm)(target:Int)(a:Sl)(all:Bool){K:bj0}{w:bI}(h:RY c target a all K w):Calls P yQ #[(Pv c),(Iv target),(Sv a),(.bool all)] w (cC K):=B0 mixed func128 atp (by rw[atW];exact h)
end Go.Mp
namespace Go.Vc
open Go
section
variable{P:cS}{τ:bZ->K1}{ρ:bZ->Kd}{cD:bj6->Bool}{A:dU}
def RZ{f:Nat->Prop}:∀ {l:bA Nat},(∀i∈l,f i)->u4 f l
 |[],_=>trivial
 |_::_,h=>⟨h _ (fS ..),RZ (λi a=>h i (gn _ a))⟩
def AD{ops:cf Oper}{listed:cf Bool}{i:Nat}(h:i∈Region.ready .any ops listed):i<ops.size/\listed.getD i true=false/\
  ∀o,ops[i]?=some o->∀e∈o.after.toList,Region.binds .any e=true->listed.getD e.on false=true:=by
 unfold Region.ready at h;rw[gp,gq]at h;obtain⟨h1,h2⟩:=h;simp only[dF,ir]at h2;refine⟨h1,h2.1,λo ho e he hb=>?_⟩;have a:=h2.2;rw[ho]at a;simp only[fC,mY]at a;rw[<- Array.all_toList]at a;have:=fM.1 a e he;rw[hb]at this;simpa using this
def ue(ops:cf Oper):Bool:=(List.range ops.size).all λi=>match ops[i]? with
 |some o=>o.after.toList.all λe=>Nat.blt e.on i
 |none=>true
def R0{ops:cf Oper}{listed:cf Bool}(hb:ue ops=true)(hr:Region.ready .any ops listed= []):∀i,i<ops.size->listed.getD i true=true:=by
 intro i;induction i using Nat.strongRecOn with
 |_ i f=>
  intro a;cases hl:listed.getD i true with
  |true=>rfl
  |false=>
   exfalso;have ho:ops[i]?=some ops[i]:=oQ a;have hm:i∈Region.ready .any ops listed:=by
    unfold Region.ready;rw[gp,gq];refine⟨a,?_⟩;rw[hl,ho];simp only[Bool.not_false,my,fC,mY];rw[<- Array.all_toList,fM];intro e he;have d:e.on<i:=by
     unfold ue at hb;have:=fM.1 hb i (gq.2 a);rw[ho]at this;exact Ue (fM.1 this e he)
    have h1:=f e.on d bu;have h2:listed.getD e.on false=true:=by
     rw[je]at h1 ⊢;cases c:listed[e.on]? with
     |some b=>rw[c]at h1;simpa using h1
     |none=>
      exfalso;have g:listed.size<=e.on:=Array.getElem?_eq_none_iff.1 c;rw[je,xp bu]at hl;cases hl
    rw[h2];simp
   rw[hr]at hm;cases hm
def mU(n:Nat)(listed:cf Bool):Nat:=((List.range n).filter λj=> !listed.getD j true).length
def filter_lt{p q:Nat->Bool}:∀ {l:bA Nat} {i:Nat},(∀x,q x=true->p x=true)->i∈l->p i=true->q i=false->(l.filter q).length<(l.filter p).length
 |[],_,_,h,_,_=>by cases h
 |x::l,i,a,c,hp,d=>by
  have hle:∀l:bA Nat,(l.filter q).length<=(l.filter p).length:=by
   intro l;induction l with
   |nil=>simp
   |cons y l b=>
    rw[jR,jR];split;·next h=>rw[bK (a _ h)];simpa using b
    ·split;·simp;omega
     ·exact b
  rw[jR,jR];rcases eH.1 c with rfl|c
  ·rw[bJ (by rw[d];simp),bK hp];have:=hle l;simp;omega
  ·have b:=filter_lt a c hp d;split;·next h=>rw[bK (a _ h)];simpa using b
   ·split;·simp;omega
    ·exact b
def R1{n i:Nat}{listed:cf Bool}(a:i<n)(b:listed.size=n)(h:listed.getD i true=false):mU n (listed.setIfInBounds i true)<mU n listed:=by
 unfold mU;refine filter_lt (p:=λj=> !listed.getD j true) (q:=λj=> !(listed.setIfInBounds i true).getD j true) (i:=i) (λx hx=>?_) (gq.2 a) (by simp only[h];rfl) ?_
 ·by_cases e:x=i;·subst e;simp only[h];rfl
  ·have:(listed.setIfInBounds i true).getD x true=listed.getD x true:=by
    rw[je,je,T9 (l3 e)]
   simp only[this]at hx;exact hx
 ·have:(listed.setIfInBounds i true).getD i true=true:=by
   rw[je,T8 bu];rfl
  simp only[this];rfl
def R2{ops:cf Oper}{Q:Exit->Tr->bi9}(J:cf Bool->Tr->bi9)(step:∀listed T w i o,listed.size=ops.size->J listed T w->i∈Region.ready .any ops listed->ops[i]?=some o->∀next:Tr->bi9,(∀T' w',J (listed.setIfInBounds i true) T' w'->next T' w')->
   kF ops o T (λT=>nD P τ ρ cD A o T w next Q) (λT=>next (T.put o.dst undef) w))(fin:∀listed T w,J listed T w->Region.ready .any ops listed= []->Q .normal T w):
  ∀(fuel:Nat) (listed:cf Bool) (T:Tr) (w:bI),listed.size=ops.size->mU ops.size listed<=fuel->J listed T w->g5 P τ ρ cD A ops Q fuel listed T w:=by
 intro fuel;induction fuel with
 |zero=>
  intro listed T w a hu b;unfold g5;split;·next e=>exact fin _ _ _ b e
  ·next e=>
   cases hr:Region.ready .any ops listed with
   |nil=>exact absurd hr e
   |cons i l=>
    have hm:i∈Region.ready .any ops listed:=by rw[hr];exact fS ..
    obtain⟨h1,h2,_⟩:=AD hm;have:=R1 h1 a h2;omega
 |succ fuel g=>
  intro listed T w a hu b;unfold g5;split;·next e=>exact fin _ _ _ b e
  ·next i0 h e=>
   refine RZ (λi c=>?_);rw[<- e]at c;obtain⟨h1,h2,_⟩:=AD c;have ho:ops[i]?=some ops[i]:=oQ h1;rw[ho];have f:=R1 h1 a h2;exact step listed T w i ops[i] a b c ho _ (λT' w' d=>g _ _ _ (by simpa using a) bu d)
end
end Go.Vc
namespace Go.Vc
open Go Go.Sp
section
variable{P:cS}{τ:bZ->K1}{ρ:bZ->Kd}{cD:bj6->Bool}{A:dU}
def fj(ops:cf Oper)(i:Nat):Nat:=match ops[i]? with|some o=>o.dst.getD 0|none=>0
def et(ops:cf Oper):Bool:=
 ue ops&&((List.range ops.size).all λi=>match ops[i]? with
  |some o=>o.guard.isNone&&o.dst.isSome&&Nat.blt (o.dst.getD 0) 8000&&(List.range i).all λj=> !(Nat.beq (fj ops j) (fj ops i))
  |none=>false)
def px{ops:cf Oper}(h:et ops=true):ue ops=true/\(∀i o,ops[i]?=some o->o.guard=none/\o.dst=some (fj ops i)/\fj ops i<8000)/\∀i j,i<ops.size->j<ops.size->i≠j->fj ops i≠fj ops j:=by
 unfold et at h;rw[dF]at h;obtain⟨h1,h2⟩:=h;have g:∀i o,ops[i]?=some o->o.guard=none/\o.dst=some (fj ops i)/\fj ops i<8000/\∀j,j<i->fj ops j≠fj ops i:=by
  intro i o ho;have k:i<ops.size:=(pG.1 ho).1;have:=fM.1 h2 i (gq.2 k);rw[ho]at this;simp only[dF,fM,ir]at this;obtain⟨⟨⟨a,b⟩,c⟩,d⟩:=this;obtain⟨n,f⟩:=jf.1 b;have e:fj ops i=n:=by unfold fj;rw[ho];simp[f]
  refine⟨Uc.1 a,by rw[f,e],?_,λj l p=>?_⟩;·rw[f]at c;rw[e];simpa using c
  ·have:=d j (gq.2 l);rw[p]at this;simp at this
 refine⟨h1,λi o ho=>let ⟨a,b,c,_⟩:=g i o ho;⟨a,b,c⟩,λi j k l m=>?_⟩;rcases Nat.lt_or_gt_of_ne m with h' | h';·exact(g j ops[j] (oQ l)).2.2.2 i h'
 ·exact λe=>(g i ops[i] (oQ k)).2.2.2 j h' e.symm
def ik{α:Type}{f f':Nat->bA α}{i:Nat}{X:bA α}:∀ {l:bA Nat},l.Nodup->i∈l->f i= []->f' i=X->(∀j∈l,j≠i->f' j=f j)->(X++l.flatMap f).Perm (l.flatMap f')
 |[],_,d,_,_,_=>by cases d
 |a::l,r,d,n,o,hr=>by
  rw[oq,oq];obtain⟨q,g⟩:=rq.1 r;by_cases e:a=i
  ·subst e;rw[n,o,l1];have:l.flatMap f'=l.flatMap f:=by
    have:∀ {m:bA Nat},(∀j∈m,f' j=f j)->m.flatMap f'=m.flatMap f:=by
     intro m hm;induction m with
     |nil=>rfl
     |cons b m k=>rw[oq,oq,hm b (fS ..),k (λj c=>hm j (gn _ c))]
    exact this (λj c=>hr j (gn _ c) (λe=>q (e▸c)))
   rw[this]
  ·rw[hr a (fS ..) e];have p:i∈l:=by
    rcases eH.1 d with h|h;·exact absurd h.symm e
    ·exact h
   have k:=ik g p n o (λj c=>hr j (gn _ c));refine List.Perm.trans ?_ (oR (f a) k);rw[<- dp,<- dp];exact sC _ mu
def pieces(ops:cf Oper)(a:Nat->Tr->cr)(listed:cf Bool)(T:Tr):cr:=
 (List.range ops.size).flatMap λi=>if listed.getD i true=true then a i T else[]
def waits(ops:cf Oper)(i j:Nat):Prop:=∃o,ops[i]?=some o/\∃e∈o.after.toList,Region.binds .any e=true/\e.on=j
def aJr{ops:cf Oper}{Q:Exit->Tr->bi9}{E:Env}{L:cr}(p:Tr->Prop)(F:Nat->Tr->Prop)(g:Nat->Tr->cr)(J:et ops=true)(D:∀T i v,i<ops.size->p T->p (T.put (some (fj ops i)) v))(V:∀i j T v,i<ops.size->j<ops.size->i≠j->¬ waits ops i j->F i T->F i (T.put (some (fj ops j)) v))(G:∀i j T v,i<ops.size->j<ops.size->i≠j->¬ waits ops i j->g i (T.put (some (fj ops j)) v)=g i T)(step:∀T w i o R,p T->ops[i]?=some o->(∀e∈o.after.toList,Region.binds .any e=true->F e.on T)->Sep E (R++L) w->
   ∀next:Tr->bi9,(∀v w',F i (T.put (some (fj ops i)) v)->Sep E (g i (T.put (some (fj ops i)) v)++(R++L)) w'->next (T.put (some (fj ops i)) v) w')->nD P τ ρ cD A o T w next Q)(fin:∀T w M,p T->(∀i,i<ops.size->F i T)->Sep E (M++L) w->M.Perm ((List.range ops.size).flatMap λi=>g i T)->Q .normal T w){T:Tr}{w:bI}(S:p T)(W:Sep E L w):g5 P τ ρ cD A ops Q ops.size (Array.replicate ops.size false) T w:=by
 obtain⟨hb,I,ab⟩:=px J;have z:∀ {i:Nat} {o:Oper} {e},i<ops.size->ops[i]?=some o->e∈o.after.toList->e.on<i:=by
  intro i o e c ho he;unfold ue at hb;have:=fM.1 hb i (gq.2 c);rw[ho]at this;exact Ue (fM.1 this e he)
 have O:∀ {listed:cf Bool} {j:Nat},listed.getD j false=true->listed.getD j true=true:=by
  intro listed j h;rw[je]at h ⊢;cases U:listed[j]? with
  |some b=>rw[U]at h;simpa using h
  |none=>rfl
 refine R2 (λlisted T w=>listed.size=ops.size/\p T/\(∀i,i<ops.size->listed.getD i true=true->F i T)/\(∀i j,i<ops.size->listed.getD i true=true->waits ops i j->listed.getD j true=true)/\
  ∃M,Sep E (M++L) w/\M.Perm (pieces ops g listed T)) ?_ ?_ ops.size _ T w (by simp) ?_ ?_
 ·rintro listed T w i o K ⟨_,hx,n,s,M,B,hp⟩ f ho next hn
  obtain⟨c,x,t⟩:=AD f;obtain⟨X,ad,Z⟩:=I i o ho;unfold kF;rw[X];dsimp only;refine step T w i o M hx ho (λe he r=>?_) B next (λv w' Y H=>?_)
  ·have aa:=z c ho he;exact n e.on bu (O (t o ho e he r))
  ·have d:∀j,j<ops.size->(listed.setIfInBounds i true).getD j true=if j=i then true else listed.getD j true:=by
    intro j a;rw[je,je];by_cases e:j=i;·subst e;rw[bK rfl,T8 bu];rfl
    ·rw[bJ e,T9 (l3 e)]
   have N:∀j k,waits ops j k->k<ops.size:=by
    rintro j k ⟨o',l,e,he,_,rfl⟩;have a:=(pG.1 l).1;have:=z a l he;omega
   refine hn _ _ ⟨by simpa using K,D _ _ _ c hx,λj a hl=>?_,λj k a hl hw=>?_,g i (T.put (some (fj ops i)) v)++M,by rw[dp];exact H,?_⟩
   ·by_cases e:j=i;·subst e;exact Y
    ·rw[d j a,bJ e]at hl;refine V j i T v a c e (λhw=>?_) (n j a hl);have:=s j i a hl hw;rw[x]at this;cases this
   ·have hk:=N j k hw;rw[d k hk];by_cases e:j=i
    ·subst e;obtain⟨o',l,e,he,r,rfl⟩:=hw;rw[ho]at l;cases l;split;·rfl
     ·exact O (t o ho e he r)
    ·rw[d j a,bJ e]at hl;split;·rfl
     ·exact s j k a hl hw
   ·refine(oR _ hp).trans ?_;unfold pieces;refine ik List.nodup_range (gq.2 c) ?_ ?_ (λj a y=>?_);·rw[x];rfl
    ·rw[d i c,bK rfl,bK rfl]
    ·have u:=gq.1 a;rw[d j u,bJ y];split;·next hl=>exact G j i T v u c y (λhw=>by have:=s j i u hl hw;rw[x]at this;cases this)
     ·rfl
 ·rintro listed T w ⟨K,hx,n,_,M,B,hp⟩ hr;have q:=R0 hb hr;refine fin T w M hx (λi f=>n i f (q i f)) B (hp.trans ?_);unfold pieces;have:∀ {m:bA Nat},(∀j∈m,j<ops.size)->(m.flatMap λi=>if listed.getD i true=true then g i T else[])=m.flatMap λi=>g i T:=by
   intro m hm;induction m with
   |nil=>rfl
   |cons b m C=>rw[oq,oq,C (λj a=>hm j (gn _ a)),bK (q b (hm b (fS ..)))]
  rw[this (λj a=>gq.1 a)]
 ·unfold mU;exact lv (mw _ _) (by rw[Ho];exact ec _)
 ·have no:∀i,i<ops.size->(Array.replicate ops.size false).getD i true=false:=by
   intro i f;rw[je,Ud,bK f];rfl
  refine⟨by simp,S,λi f hl=>?_,λi j f hl=>?_,[],W,?_⟩;·rw[no i f]at hl;cases hl
  ·rw[no i f]at hl;cases hl
  ·unfold pieces;have:∀ {m:bA Nat},(∀j∈m,j<ops.size)->(m.flatMap λi=>if(Array.replicate ops.size false).getD i true=true then g i T else[])= []:=by
    intro m hm;induction m with
    |nil=>rfl
    |cons b m C=>
     rw[oq,C (λj a=>hm j (gn _ a)),no b (hm b (fS ..))];rfl
   rw[this (λj a=>gq.1 a)]
end
end Go.Vc
namespace Go.Mp
open Go Go.Vc Go.Sp Go.Proofs Go.Kc
variable{E:Env}{L:cr}{w:bI}{A:At}{S:Cs}
noncomputable abbrev kU:cf Oper:=AB
def aMm:Oper:={dst:=none,op:=.assign (.const (.pointer none)),type:=0,pos:= "",after:= #[],guard:=none}
noncomputable def si(i:Nat):Oper:=(kU[i]?).getD aMm
def AE:kU.size=10:=by kernel_rfl
def aK9:ue kU=true:=by decide+kernel
def aKC:((List.range 10).all λi=>(si i).guard.isNone)=true:=by decide+kernel
section
variable(T:Tr)(next:Tr->bi9)(Q:Exit->Tr->bi9)
abbrev jD(i:Nat):=nD P fV gZ cD wK (si i) T w next Q
def FB:jD (w:=w) T next Q 0=pS P (fV tf) tf (T.get 4) w (λv=>next (T.put (some 20) v) w):=by kernel_rfl
def FD:jD (w:=w) T next Q 1=next (T.put (some 21) (T.get 1)) w:=by kernel_rfl
def FE:jD (w:=w) T next Q 2=Calls P rX #[T.get 20,T.get 21,.func (.func vD) #[] #[]] w λe w'=>∃x:Sl,e=.returned (Sv x)/\next (T.put (some 22) (Sv x)) w':=by kernel_rfl
def FF:jD (w:=w) T next Q 3=pS P (fV tf) tf (T.get 4) w (λv=>next (T.put (some 23) v) w):=by kernel_rfl
def FG:jD (w:=w) T next Q 4=next (T.put (some 24) (T.get 1)) w:=by kernel_rfl
def FH:jD (w:=w) T next Q 5=Calls P rX #[T.get 23,T.get 24,.func (.func vF) #[] #[]] w λe w'=>∃x:Sl,e=.returned (Sv x)/\next (T.put (some 25) (Sv x)) w':=by kernel_rfl
def FI:jD (w:=w) T next Q 6=Al (.cells #[aP8] mc) (λq=>next (T.put (some 9) (.pointer (some q)))) w:=by kernel_rfl
def FJ:jD (w:=w) T next Q 7=Al (.cells #[aP8] mc) (λq=>next (T.put (some 10) (.pointer (some q)))) w:=by kernel_rfl
def FK:jD (w:=w) T next Q 8=sO P (fV mc) mc (T.get 9) (T.get 22) w (λw'=>next T w'):=by kernel_rfl
def FL:jD (w:=w) T next Q 9=sO P (fV mc) mc (T.get 10) (T.get 25) w (λw'=>next T w'):=by kernel_rfl
end
def R3(a:Addr)(f:bH->Prop):pS P (fV tf) tf (.pointer (some a)) w f=∃x:cm,w.cell? a=some (.pointer x)/\f (.pointer x):=by kernel_rfl
def R4(a:Addr)(s:Sl)(f:bi9):sO P (fV mc) mc (.pointer (some a)) (Sv s) w f=St a (Sv s) f w:=by kernel_rfl
noncomputable def R5(i j:Nat):Bool:=match kU[i]? with
 |some o=>o.after.toList.any λe=>Region.binds .any e&&Nat.beq e.on j
 |none=>false
def PA(f:Bool)(v:bH)(l:bA Bool):Asn:=bif f then(fo λs:Sl=>cL (v=Sv s/\s.n=l.length) (bw s 1 (en l)))else emp
def PB(f g:Bool)(v u:bH):Asn:=bif f then(fo λp:Nat=>cL (v=Pb p) (bD p [bif g then u else aP8]))else emp
structure JE(E:Env)(M:cr)(c bx:Nat)(t:Int)(mn lw:bA Bool)(b0 b1 b2 b3 b4 b5 b6 b7 b8 b9:Bool)(T:Tr)(w:bI):Prop where
 s1:T.get 1=Iv t
 s4:T.get 4=Pb bx
 R6:b0=true->T.get 20=Pb c
 R7:b1=true->T.get 21=Iv t
 R8:b3=true->T.get 23=Pb c
 R9:b4=true->T.get 24=Iv t
 d8:b8=true->b2=true/\b6=true
 d9:b9=true->b5=true/\b7=true
 sep:Sep E (PA b2 (T.get 22) mn::PA b5 (T.get 25) lw::PB b6 b8 (T.get 9) (T.get 22)::PB b7 b9 (T.get 10) (T.get 25)::M) w
def aMa{M:cr}{c bx:Nat}{t:Int}{mn lw:bA Bool}{J:cm->cm->bi9}{aj:Exit->Tr->bi9}{T:Tr}(V:∀ {R:cr} {w:bI},Sep E (R++M) w->w.cell? ⟨bx,0,none⟩=some (Pb c))(ah:∀ {R:cr} {w:bI},Sep E (R++M) w->Calls P rX #[Pb c,Iv t,.func (.func vD) #[] #[]] w (cC λv w'=>∃e:Sl,v=Sv e/\e.n=mn.length/\Sep E (bw e 1 (en mn)::(R++M)) w'))(ag:∀ {R:cr} {w:bI},Sep E (R++M) w->Calls P rX #[Pb c,Iv t,.func (.func vF) #[] #[]] w (cC λv w'=>∃e:Sl,v=Sv e/\e.n=lw.length/\Sep E (bw e 1 (en lw)::(R++M)) w'))(h1:T.get 1=Iv t)(B:T.get 4=Pb bx)(h:Sep E M w)(k:∀(s1 s2:Sl) (p q:Nat) (w':bI),s1.n=mn.length->s2.n=lw.length->Sep E (bw s1 1 (en mn)::bw s2 1 (en lw)::bD p [Sv s1]::bD q [Sv s2]::M) w'->J (some ⟨p,0,none⟩) (some ⟨q,0,none⟩) w'):
  g5 P fV gZ cD wK kU (m4 (nE [(9,.ptr),(10,.ptr)] J) aj) kU.size (Array.replicate kU.size false) T w:=by
 have g:∀(T:Tr) (d s:Nat) (v:bH),d<8000->(T.put (some d) v).get s=if s=d then v else T.get s:=λT d s v al=>Tr.dT _ _ _ _ al
 refine R2 (λli T w=>li.size=10/\JE E M c bx t mn lw (li.getD 0 true) (li.getD 1 true) (li.getD 2 true) (li.getD 3 true) (li.getD 4 true) (li.getD 5 true) (li.getD 6 true) (li.getD 7 true) (li.getD 8 true) (li.getD 9 true) T w) ?_ ?_ _ _ _ _ (by simp) ?_ ?_
 ·rintro li T w i o f ⟨K,j⟩ F ho next hn
  obtain⟨I,x,H⟩:=AD F;rw[AE]at I;have W:si i=o:=by unfold si;rw[ho];rfl
  have am:o.guard=none:=by
   have:=fM.1 aKC i (gq.2 I);rw[W]at this;exact Uc.1 this
  have an:∀ {j:Nat},li.getD j false=true->li.getD j true=true:=by
   intro j h;rw[je]at h ⊢;cases y:li[j]? with
   |some b=>rw[y]at h;simpa using h
   |none=>rfl
  have hw:∀j,R5 i j=true->li.getD j true=true:=by
   intro j G;unfold R5 at G;rw[ho]at G;obtain⟨e,he,hb⟩:=uM.1 G;rw[dF]at hb;have:=H o ho e he hb.1;rw[kz hb.2]at this;exact an this
  have a:∀j,j<10->(li.setIfInBounds i true).getD j true=if j=i then true else li.getD j true:=by
   intro j G;rw[je,je];by_cases e:j=i;·subst e;rw[bK rfl,T8 bu];rfl
   ·rw[bJ e,T9 (l3 e)]
  unfold kF;rw[am];dsimp only;have m:∀T' w',JE E M c bx t mn lw (if 0=i then true else li.getD 0 true) (if 1=i then true else li.getD 1 true) (if 2=i then true else li.getD 2 true) (if 3=i then true else li.getD 3 true) (if 4=i then true else li.getD 4 true)
    (if 5=i then true else li.getD 5 true) (if 6=i then true else li.getD 6 true) (if 7=i then true else li.getD 7 true) (if 8=i then true else li.getD 8 true) (if 9=i then true else li.getD 9 true) T' w'->next T' w':=by
   intro T' w' G;refine hn T' w' ⟨by simpa using K,?_⟩;rw[a 0 bN,a 1 bN,a 2 bN,a 3 bN,a 4 bN,a 5 bN,a 6 bN,a 7 bN,a 8 bN,a 9 bN];exact G
  clear hn a H F;subst W;generalize X:li.getD 0 true=b0 at*
  generalize Y:li.getD 1 true=b1 at*
  generalize O:li.getD 2 true=b2 at*
  generalize Z:li.getD 3 true=b3 at*
  generalize aa:li.getD 4 true=b4 at*
  generalize Q:li.getD 5 true=b5 at*
  generalize S:li.getD 6 true=b6 at*
  generalize U:li.getD 7 true=b7 at*
  generalize ab:li.getD 8 true=b8 at*
  generalize ad:li.getD 9 true=b9 at*
  obtain⟨s1,s4,R6,R7,R8,R9,d8,d9,l⟩:=j
  match i,I with
  |0,_=>
   refine(FB T next _).mpr ?_;rw[s4,R3];refine⟨_,V (R:=[_,_,_,_]) l,m _ _ ?_⟩;constructor<;>simp only[g _ _ _ _ (show(20:Nat)<8000 by decide),Nat.reduceEqDiff,pO,reduceCtorEq,g4,gU]<;>first|assumption|(intro _;rfl)|(intro _;trivial)|skip
  |1,_=>
   refine(FD T next _).mpr ?_;rw[s1];refine m _ _ ?_;constructor<;>simp only[g _ _ _ _ (show(21:Nat)<8000 by decide),Nat.reduceEqDiff,pO,reduceCtorEq,g4,gU]<;>first|assumption|(intro _;rfl)|(intro _;trivial)|skip
  |2,_=>
   refine(FE T next _).mpr ?_;have t0:b0=true:=X.symm.trans (hw 0 (by decide+kernel));have t1:b1=true:=Y.symm.trans (hw 1 (by decide+kernel));have f2:b2=false:=O.symm.trans x;rw[R6 t0,R7 t1];subst f2;have f8:b8=false:=by cases b8 with|false=>rfl|true=>exact absurd (d8 rfl).1 bN
   subst f8;refine use (ah (R:=[_,_,_,_]) l) ?_;rintro _ r ⟨e,rfl,he,h1⟩;refine⟨e,rfl,m _ _ ?_⟩;constructor<;>simp only[g _ _ _ _ (show(22:Nat)<8000 by decide),Nat.reduceEqDiff,pO,reduceCtorEq,g4,gU]<;>first|assumption|(intro C;cases C;done)|skip
   exact Sep.ex.2 ⟨e,Sep.cL.2 ⟨⟨rfl,he⟩,h1.ro 2 [0] rfl⟩⟩
  |3,_=>
   refine(FF T next _).mpr ?_;rw[s4,R3];refine⟨_,V (R:=[_,_,_,_]) l,m _ _ ?_⟩;constructor<;>simp only[g _ _ _ _ (show(23:Nat)<8000 by decide),Nat.reduceEqDiff,pO,reduceCtorEq,g4,gU]<;>first|assumption|(intro _;rfl)|(intro _;trivial)|skip
  |4,_=>
   refine(FG T next _).mpr ?_;rw[s1];refine m _ _ ?_;constructor<;>simp only[g _ _ _ _ (show(24:Nat)<8000 by decide),Nat.reduceEqDiff,pO,reduceCtorEq,g4,gU]<;>first|assumption|(intro _;rfl)|(intro _;trivial)|skip
  |5,_=>
   refine(FH T next _).mpr ?_;have t3:b3=true:=Z.symm.trans (hw 3 (by decide+kernel));have t4:b4=true:=aa.symm.trans (hw 4 (by decide+kernel));have f5:b5=false:=Q.symm.trans x;rw[R8 t3,R9 t4];subst f5;have f9:b9=false:=by cases b9 with|false=>rfl|true=>exact absurd (d9 rfl).1 bN
   subst f9;refine use (ag (R:=[_,_,_,_]) l) ?_;rintro _ r ⟨e,rfl,he,h1⟩;refine⟨e,rfl,m _ _ ?_⟩;constructor<;>simp only[g _ _ _ _ (show(25:Nat)<8000 by decide),Nat.reduceEqDiff,pO,reduceCtorEq,g4,gU]<;>first|assumption|(intro C;cases C;done)|skip
   exact Sep.swap (Sep.ex.2 ⟨e,Sep.cL.2 ⟨⟨rfl,he⟩,h1.ro 3 [0,1] rfl⟩⟩)
  |6,_=>
   refine(FI T next _).mpr ?_;have f6:b6=false:=S.symm.trans x;subst f6;have f8:b8=false:=by cases b8 with|false=>rfl|true=>exact absurd (d8 rfl).2 bN
   subst f8;refine Al.i l (λp r h1=>m _ _ ?_);constructor<;>simp only[g _ _ _ _ (show(9:Nat)<8000 by decide),Nat.reduceEqDiff,pO,reduceCtorEq,g4,gU]<;>first|assumption|(intro C;cases C;done)|skip
   have h2:Sep E (PB true false (Pb p) (T.get 22)::PA b2 (T.get 22) mn::PA b5 (T.get 25) lw::PB b7 b9 (T.get 10) (T.get 25)::M) r:=Sep.ex.2 ⟨p,Sep.cL.2 ⟨rfl,h1.ro 4 [0,1,2] rfl⟩⟩;exact h2.ro 3 [1,2,0] rfl
  |7,_=>
   refine(FJ T next _).mpr ?_;have f7:b7=false:=U.symm.trans x;subst f7;have f9:b9=false:=by cases b9 with|false=>rfl|true=>exact absurd (d9 rfl).2 bN
   subst f9;refine Al.i l (λp r h1=>m _ _ ?_);constructor<;>simp only[g _ _ _ _ (show(10:Nat)<8000 by decide),Nat.reduceEqDiff,pO,reduceCtorEq,g4,gU]<;>first|assumption|(intro C;cases C;done)|skip
   have h2:Sep E (PB true false (Pb p) (T.get 25)::PA b2 (T.get 22) mn::PA b5 (T.get 25) lw::PB b6 b8 (T.get 9) (T.get 22)::M) r:=Sep.ex.2 ⟨p,Sep.cL.2 ⟨rfl,h1.ro 5 [0,1,2,3] rfl⟩⟩;exact h2.ro 4 [1,2,3,0] rfl
  |8,_=>
   refine(FK T next _).mpr ?_;have t2:b2=true:=O.symm.trans (hw 2 (by decide+kernel));have t6:b6=true:=S.symm.trans (hw 6 (by decide+kernel));have f8:b8=false:=ab.symm.trans x;subst t2 t6 f8;obtain⟨s,f⟩:=Sep.ex.1 l;obtain⟨⟨z,L⟩,f⟩:=Sep.cL.1 f;have f:Sep E (PB true false (T.get 9) (T.get 22)::bw s 1 (en mn)::PA b5 (T.get 25) lw::PB b7 b9 (T.get 10) (T.get 25)::M) w:=f.fr 2 rfl;obtain⟨p,f⟩:=Sep.ex.1 f;obtain⟨N,f⟩:=Sep.cL.1 f;rw[N,z,R4];refine St.i f (by simp) (λr h1=>m _ _ ?_);have h1:Sep E (bD p [Sv s]::bw s 1 (en mn)::PA b5 (T.get 25) lw::PB b7 b9 (T.get 10) (T.get 25)::M) r:=h1;rw[<- z]at h1;have h2:Sep E (PB true true (T.get 9) (T.get 22)::bw s 1 (en mn)::PA b5 (T.get 25) lw::PB b7 b9 (T.get 10) (T.get 25)::M) r:=Sep.ex.2 ⟨p,Sep.cL.2 ⟨N,h1⟩⟩;have y:Sep E (PA true (T.get 22) mn::PB true true (T.get 9) (T.get 22)::PA b5 (T.get 25) lw::PB b7 b9 (T.get 10) (T.get 25)::M) r:=Sep.ex.2 ⟨s,Sep.cL.2 ⟨⟨z,L⟩,h2.swap⟩⟩;constructor<;>(try simp only[Nat.reduceEqDiff,pO,reduceCtorEq,g4,gU])<;>first|assumption|(intro _;exact⟨trivial,trivial⟩)|skip
   exact y.ro 3 [0,2,1] rfl
  |9,_=>
   refine(FL T next _).mpr ?_;have t5:b5=true:=Q.symm.trans (hw 5 (by decide+kernel));have t7:b7=true:=U.symm.trans (hw 7 (by decide+kernel));have f9:b9=false:=ad.symm.trans x;subst t5 t7 f9;have ai:Sep E (PA true (T.get 25) lw::PA b2 (T.get 22) mn::PB b6 b8 (T.get 9) (T.get 22)::PB true false (T.get 10) (T.get 25)::M) w:=l.swap;obtain⟨s,f⟩:=Sep.ex.1 ai;obtain⟨⟨A,L⟩,f⟩:=Sep.cL.1 f;have f:Sep E (PB true false (T.get 10) (T.get 25)::bw s 1 (en lw)::PA b2 (T.get 22) mn::PB b6 b8 (T.get 9) (T.get 22)::M) w:=f.fr 3 rfl;obtain⟨p,f⟩:=Sep.ex.1 f;obtain⟨D,f⟩:=Sep.cL.1 f;rw[D,A,R4];refine St.i f (by simp) (λr h1=>m _ _ ?_);have h1:Sep E (bD p [Sv s]::bw s 1 (en lw)::PA b2 (T.get 22) mn::PB b6 b8 (T.get 9) (T.get 22)::M) r:=h1;rw[<- A]at h1;have h2:Sep E (PB true true (T.get 10) (T.get 25)::bw s 1 (en lw)::PA b2 (T.get 22) mn::PB b6 b8 (T.get 9) (T.get 22)::M) r:=Sep.ex.2 ⟨p,Sep.cL.2 ⟨D,h1⟩⟩;have y:Sep E (PA true (T.get 25) lw::PB true true (T.get 10) (T.get 25)::PA b2 (T.get 22) mn::PB b6 b8 (T.get 9) (T.get 22)::M) r:=Sep.ex.2 ⟨s,Sep.cL.2 ⟨⟨A,L⟩,h2.swap⟩⟩;constructor<;>(try simp only[Nat.reduceEqDiff,pO,reduceCtorEq,g4,gU])<;>first|assumption|(intro _;exact⟨trivial,trivial⟩)|skip
   exact y.ro 4 [2,0,3,1] rfl
  |n+10,F=>exact absurd F bu
 ·rintro li T w ⟨K,j⟩ hr;have u:=R0 aK9 hr;rw[AE]at u;rw[u 0 bN,u 1 bN,u 2 bN,u 3 bN,u 4 bN,u 5 bN,u 6 bN,u 7 bN,u 8 bN,u 9 bN]at j;have ak:=j.sep;obtain⟨s1,h1⟩:=Sep.ex.1 ak;obtain⟨⟨z,ae⟩,h1⟩:=Sep.cL.1 h1;obtain⟨s2,h2⟩:=Sep.ex.1 h1.swap;obtain⟨⟨A,af⟩,h2⟩:=Sep.cL.1 h2;obtain⟨p,y⟩:=Sep.ex.1 (h2.fr 2 rfl);obtain⟨N,y⟩:=Sep.cL.1 y;obtain⟨q,B⟩:=Sep.ex.1 (y.fr 3 rfl);obtain⟨D,B⟩:=Sep.cL.1 B;have B:Sep E (bD q [T.get 25]::bD p [T.get 22]::bw s2 1 (en lw)::bw s1 1 (en mn)::M) w:=B;rw[z,A]at B;show nE [(9,.ptr),(10,.ptr)] J T w;simp only[nE,N,D,C1.un];exact k s1 s2 p q w ae af (B.ro 4 [3,2,1,0] rfl)
 ·unfold mU;exact lv (mw _ _) (by rw[Ho];exact ec _)
 ·have no:∀i,i<10->(Array.replicate kU.size false).getD i true=false:=by
   intro i F;rw[je,Ud,bK (by rw[AE];exact F)];rfl
  refine⟨by rw[Array.size_replicate,AE],?_⟩;rw[no 0 bN,no 1 bN,no 2 bN,no 3 bN,no 4 bN,no 5 bN,no 6 bN,no 7 bN,no 8 bN,no 9 bN];exact⟨h1,B,λh=>(by cases h),λh=>(by cases h),λh=>(by cases h),λh=>(by cases h),λh=>(by cases h),λh=>(by cases h),Sep.emp.2 (Sep.emp.2 (Sep.emp.2 (Sep.emp.2 h)))⟩
end Go.Mp
