/- Part of a proof about the core: of its walks and plain laws. -/
import Derived.Test.YtafigbgagbolgaaGreatDoorC11
import Derived.Laws.IdiomRangeMap
set_option linter.all false
set_option maxRecDepth 100000
open Go.IntKind(i64 u64)
namespace Go.Mp
open Go Go.Vc Go.Sp Go.Stab
section
variable{E:Env}{L:ch}{w:World}{s:Sl}{cmp:Value}{lt:Int->Int->Bool}{R b:Int->Int->Prop}
def fe(b:Int->Int->Prop)(X Y:bU):Prop:=∀x∈X,∀y∈Y,b x y
def fe.merge{Ps Qs:List (bU)}{X Y Z:bU}(h:(Ps++X::Y::Qs).Pairwise (fe b))(l:Z.Perm (X++Y)):(Ps++Z::Qs).Pairwise (fe b):=by
 have hm:∀z,z∈Z->z∈X\/z∈Y:=λz a=>h6.1 (l.mem_iff.1 a);rw[jf,g5,g5]at h;rw[jf,g5];obtain⟨h1,⟨i,j,k⟩,e⟩:=h;refine⟨h1,⟨λQ c z a y g=>?_,k⟩,λd f Q c=>?_⟩
 ·rcases hm z a with a|a;·exact i Q (by simp[c]) z a y g
  ·exact j Q c z a y g
 ·rcases ey.1 c with rfl|c
  ·intro x hx z a;rcases hm z a with a|a;·exact e d f X (by simp) x hx z a
   ·exact e d f Y (by simp) x hx z a
  ·exact e d f Q (by simp[c])
def fe.perm{Ps Qs:List (bU)}{X Z:bU}(h:(Ps++X::Qs).Pairwise (fe b))(j:Z.Perm X):(Ps++Z::Qs).Pairwise (fe b):=by
 have hm:∀z,z∈Z->z∈X:=λz c=>j.mem_iff.1 c;rw[jf,g5]at h ⊢;obtain⟨h1,⟨g,i⟩,e⟩:=h;refine⟨h1,⟨λQ a z c y k=>g Q a z (hm z c) y k,i⟩,λd f Q a=>?_⟩;rcases ey.1 a with rfl|a;·intro x hx z c;exact e d f X (by simp) x hx z (hm z c)
 ·exact e d f Q (by simp[a])
def fe.split{Ps:List (bU)}{a M2:bU}(h:(Ps++[a++M2]).Pairwise (fe b))(c:(a++M2).Pairwise b):(Ps++[a,M2]).Pairwise (fe b):=by
 rw[jf]at h c ⊢;obtain⟨h1,_,g⟩:=h;refine⟨h1,by simpa[fe]using c.2.2,λf i Q d x hx y e=>?_⟩;have:=g f i (a++M2) (by simp) x hx y;simp only[ey,ra,ri]at d;rcases d with rfl|rfl;·exact this (by simp[e])
 ·exact this (by simp[e])
def fm(R:Int->Int->Prop)(b:Nat)(a:List (bU)):Prop:=∀F∈a,F.length=b/\F.Pairwise R
def fm.length{b:Nat}:∀ {a:List (bU)},fm R b a->a.flatten.length=b*a.length
 |[],_=>by simp
 |F::a,h=>by
  have h1:=(h F (by simp)).1;have c:a.flatten.length=b*a.length:=fm.length (λG d=>h G (by simp[d]));rw[uO,da,h1,c,hS,na,fC,rf]
def fm.snoc{b:Nat}{c:List (bU)}{F:bU}(h:fm R b c)(h1:F.length=b)(d:F.Pairwise R):fm R b (c++[F]):=by
 intro G a;rcases h6.1 a with a|a;·exact h G a
 ·rw[iD.1 a];exact⟨h1,d⟩
def ER{l:bU}(K:k4 R b lt)(aj:l.Pairwise b)(x:s.n=l.length)(ak:l.length<288230376151711744)(U:gx E L s cmp lt l.length)(h:Sep E (bC s 1 (bD l)::L) w):
  Calls P Kg #[Sv s,Iv (s.n:Nat),cmp] w (bW λv w'=>v=.tuple #[]/\∃l',l'.Perm l/\l'.Pairwise R/\Sep E (bC s 1 (bD l')::L) w'):=by
 apply YX;unfold Nb qE qI qO;rw[x];refine⟨λa e w=>∃c M,a=(20*c.length:Nat)/\e=(20*c.length+20:Nat)/\fm R 20 c/\M.Pairwise b/\(c++[M]).Pairwise (fe b)/\(c.flatten++M).Perm l/\Sep E (bC s 1 (bD (c.flatten++M))::L) w,λa _ _=>(l.length-a).toNat,
  ⟨[],l,rfl,rfl,λF i=>(by cases i),aj,by simp,by simp,by simpa using h⟩,?_⟩
 rintro _ a e aw ⟨c,M,rfl,rfl,i,V,p,j,h1⟩;have hlen:=j.length_eq;have k:=i.length;rw[da,k]at hlen;refine hN (λhle=>?_) (λag=>?_)
 ·have m:c.flatten++M=c.flatten++M.take 20++M.drop 20:=by rw[dc,fA]
  have ah:(M.take 20).length=20:=by simp;omega
  have u:=V;rw[<- fA 20 M]at u p;have af:=fe.split p u;rw[jf]at u;have G:(c.flatten++M.take 20++M.drop 20).length=l.length:=by rw[<- m];exact j.length_eq
  rw[m]at h1;rw[<- x];refine use (wm K u.1 (by rw[G];exact x) bA (by rw[G];exact U) h1 (by rw[k]) (by rw[k,ah];omega)) ?_;rintro _ w2 ⟨rfl,ab,I,ae,D⟩;rw[cH bA bA];have an:ab.length=20:=by rw[I.length_eq,ah]
  refine⟨rfl,⟨c++[ab],M.drop 20,by simp;omega,by simp;omega,i.snoc an ae,u.2.1,?_,?_,?_⟩,by dsimp only;omega⟩
  ·have:=fe.perm (Ps:=c) (Qs:=[M.drop 20]) af I;simpa using this
  ·refine List.Perm.trans ?_ j;rw[m];simp only[GV,uO,A2,hF];exact(I.append_left _).append_right _
  ·simpa using D
 ·have m:c.flatten++M=c.flatten++M++[]:=by simp
  rw[m]at h1;rw[<- x];refine use (wm K V (by rw[<- m,j.length_eq];exact x) (by rw[<- m,j.length_eq];omega) (by rw[<- m,j.length_eq];exact U) h1 (by rw[k]) (by rw[k];omega)) ?_;rintro _ w2 ⟨rfl,T,Y,q,D⟩;rw[hF]at D;have av:=Y.length_eq;refine⟨rfl,λz w=>∃(f:Nat) (c:List (bU)) (T:bU),z=f/\20<=f/\fm R f c/\T.length<f/\T.Pairwise R/\(c++[T]).Pairwise (fe b)/\(c.flatten++T).Perm l/\Sep E (bC s 1 (bD (c.flatten++T))::L) w,λz _=>(l.length-z).toNat,
   ⟨20,c,T,rfl,dN _,i,bA,q,fe.perm p Y,(Y.append_left _).trans j,D⟩,?_⟩
  rintro _ z ax ⟨f,c,T,rfl,aq,i,N,q,p,j,S⟩;have hlen:=j.length_eq;have k:=i.length;rw[da,k]at hlen;refine cL (λau=>?_) (λar=>⟨rfl,_,j,?_,S⟩)
  ·have am:f<l.length:=by omega
   rw[cH (n:=2*(f:Int)) bA bA];refine⟨λa e w=>∃d c T,a=(2*f*d.length:Nat)/\e=(2*f*d.length+2*f:Nat)/\fm R (2*f) d/\fm R f c/\T.length<f/\T.Pairwise R/\(d++(c++[T])).Pairwise (fe b)/\
     (d.flatten++(c.flatten++T)).Perm l/\Sep E (bC s 1 (bD (d.flatten++(c.flatten++T)))::L) w,λa _ _=>(l.length-a).toNat,
    ⟨[],c,T,by simp,by simp,λF i=>(by cases i),i,N,q,by simpa using p,by simpa using j,by simpa using S⟩,?_⟩
   rintro _ a e ay ⟨d,c,T,rfl,rfl,X,i,N,q,p,j,y⟩;have hlen:=j.length_eq;have t:=X.length;have k:=i.length;rw[da,da,k,t]at hlen;have hmul:f*c.length<=l.length:=by omega
   have ai:2*f*d.length<=l.length:=by omega
   rw[cH (n:=((2*f*d.length:Nat):Int)+f) bA bA];refine hN (λhle=>?_) (λag=>?_)
   ·obtain⟨r,o,g,rfl⟩:∃r o g,c=r::o::g:=by
     match c,hlen with
     |[],aa=>simp at aa;omega
     |[F],aa=>simp at aa;omega
     |r::o::g,_=>exact⟨r,o,g,rfl⟩
    have f1:=i r (by simp);have f2:=i o (by simp);have A:=p;rw[jf]at A;have Q:fe b r o:=(g5.1 A.2.1).1 o (by simp);have m:d.flatten++((r::o::g).flatten++T)=d.flatten++r++o++(g.flatten++T):=by simp
    have G:(d.flatten++r++o++(g.flatten++T)).length=l.length:=by rw[<- m];exact j.length_eq
    rw[m]at y;rw[<- x];refine use (wo K bA x U _ (dN _) bA bA f1.2 f2.2 Q G y (by rw[t]) (by rw[t,f1.1]) (by rw[t,f1.1,f2.1];omega)) ?_;rintro _ ap ⟨rfl,Z,B,O,H⟩;have ao:Z.length=2*f:=by rw[B.length_eq,da,f1.1,f2.1];omega
    rw[cH bA bA];refine⟨rfl,⟨d++[Z],g,T,?_,?_,X.snoc ao O,λF ad=>i F (by simp[ad]),N,q,?_,?_,?_⟩,?_⟩;·rw[da,lP,na,fC]
    ·rw[da,lP,na,fC];omega
    ·have:=fe.merge (Ps:=d) (Qs:=g++[T]) (by simpa using p) B;simpa using this
    ·refine List.Perm.trans ?_ j;rw[m];simp only[GV,uO,A2,hF];have:d.flatten++r++o++(g.flatten++T)=d.flatten++(r++o)++(g.flatten++T):=by simp
     rw[this];exact(B.append_left _).append_right _
    ·simpa using H
    ·dsimp only;omega
   ·have fin:∀ {T':bU} {w':World},T'.length<2*f->T'.Pairwise R->T'.Perm (c.flatten++T)->(d++[T']).Pairwise (fe b)->Sep E (bC s 1 (bD (d.flatten++T'))::L) w'->
      ((∃(C:Nat) (c:List (bU)) (T:bU),i64.wrap ((f:Int)*2)=C/\20<=C/\fm R C c/\T.length<C/\T.Pairwise R/\(c++[T]).Pairwise (fe b)/\(c.flatten++T).Perm l/\Sep E (bC s 1 (bD (c.flatten++T))::L) w')/\
       (l.length-i64.wrap ((f:Int)*2)).toNat<(l.length-(f:Int)).toNat):=by
     intro T' w' h1 D S y H;rw[cH bA bA];exact⟨⟨2*f,d,T',bA,bA,X,h1,D,y,(S.append_left _).trans j,H⟩,bA⟩
    rcases c with _|⟨F,_|⟨o,g⟩⟩
    ·refine cL (λW=>?_) (λ_=>?_);·exfalso;simp at hlen;omega
     ·exact fin (T':=T) bA q (by simp) (by simpa using p) (by simpa using y)
    ·have f1:=i F (by simp);simp only[lP,fC]at hlen;refine cL (λW=>?_) (λW=>?_)
     ·have A:=p;rw[jf]at A;have Q:fe b F T:=(g5.1 A.2.1).1 T (by simp);have m:d.flatten++([F].flatten++T)=d.flatten++F++T++[]:=by simp
      have G:(d.flatten++F++T++[]).length=l.length:=by rw[<- m];exact j.length_eq
      rw[m]at y;rw[<- x];refine use (wo K bA x U _ (dN _) bA bA f1.2 q Q G y (by rw[t]) (by rw[t,f1.1]) (by rw[t,f1.1];omega)) ?_;rintro _ ap ⟨rfl,Z,B,O,H⟩;refine⟨rfl,?_⟩;rw[x];refine fin (T':=Z) (by rw[B.length_eq,da,f1.1];omega) O (by simpa using B) ?_ (by simpa using H);exact fe.merge (Ps:=d) (Qs:=[]) (by simpa using p) B
     ·have J:T= []:=by
       have:T.length=0:=by omega
       exact AW.1 this
      subst J;refine fin (T':=F) bA f1.2 (by simp) ?_ (by simpa using y);have:(d++F::[]::[]).Pairwise (fe b):=by simpa using p
      exact fe.merge (Ps:=d) (Qs:=[]) this (by simp)
    ·exfalso;simp only[hS,na,fC]at hlen;omega
  ·have al:l.length<=f:=by omega
   match c,i,k,hlen,p with
   |[],_,_,_,_=>simpa using q
   |[F],i,_,hlen,_=>
    have f1:=i F (by simp);have J:T= []:=by
     have:T.length=0:=by simp at hlen;omega
     exact AW.1 this
    subst J;simpa using f1.2
   |r::o::g,_,_,hlen,_=>
    exfalso;simp only[hS,na,fC]at hlen;omega
def ES{l:bU}(K:k4 R b lt)(c:l.Pairwise b)(e:s.n=l.length)(a:l.length<288230376151711744)(d:gx E L s cmp lt l.length)(h:Sep E (bC s 1 (bD l)::L) w):
  Calls P J2 #[Sv s,cmp] w (bW λv w'=>v=.tuple #[]/\∃l',l'.Perm l/\l'.Pairwise R/\Sep E (bC s 1 (bD l')::L) w'):=by
 apply YB;unfold MS qE;refine use (ER K c e a d h) ?_;rintro _ f ⟨rfl,h1⟩;exact⟨rfl,rfl,h1⟩
end
end Go.Mp
namespace Go.Sp
open Go Go.Vc
def Sep.Fb{E:Env}{A A':Asn}{L:ch}{w:World}(h:Sep E (A::L) w)(hw:∀F,A.holds w.heap F->∃F',A'.holds w.heap F'/\∀x,F' x->F x):Sep E (A'::L) w:=by
 obtain⟨he,F,h1,d,e⟩:=h;obtain⟨F',f,c⟩:=hw F h1;exact⟨he,F',f,λb a=>d b (c b a),e.weaken (λb a=>a.imp id (c b))⟩
def aJk{P:Program}(w:World)(ty:TypeId)(it c ck:Nat)(seen:Array Nat)(es:Array MapEntry)(q:w.heap[c]?=some (.map es ck))(l:w.heap[it]?=some (.mapIter (some c) ck seen ck))(hold:∀x∈es.toList,x.born<ck):
  ((leftOf es seen).size=0/\(Instr.next (.pointer (some ⟨it,0,none⟩)) false ty).run P w=.ok (.tuple #[.bool false]) w)\/
  ∃e∈(leftOf es seen).toList,∃a:World,World.env a=World.env w/\a.heap=w.heap.setIfInBounds it (.mapIter (some c) ck (seen.push e.born) ck)/\(Instr.next (.pointer (some ⟨it,0,none⟩)) false ty).run P w=.ok (.tuple #[.bool true,e.key,e.val]) a:=by
 simp only[Instr.next,getObj,Sem.run_bind,Sem.run,l,q,Result.andThen,next_test_false seen es ck ck hold (dN _),kK,gq];unfold leftOf;have b:∀x∈(Array.filter (λe=> !seen.contains e.born) es).toList,x.born<ck:=λx hx=>hold x (by simp at hx ⊢;exact hx.1);generalize Array.filter (λe=> !seen.contains e.born) es=L at b ⊢;have o:L.filter (λx=>decide (x.born<ck))=L:=Array.filter_eq_self.2 (λx hx=>by simpa using b x (by simpa using hx));have p:L.filter (λx=>decide (x.born≥ck))= #[]:=by
  rw[Array.filter_eq_empty_iff];intro x hx;have:=b x (by simpa using hx);simp;omega
 simp only[o,p,Array.append_empty];by_cases h:L.size=0
 ·left;have:L= #[]:=Array.eq_empty_of_size_eq_zero h;subst this;refine⟨rfl,?_⟩;simp[choose,Sem.run,Question.forced]
 ·right;have n:L.isEmpty=false:=by simp[Array.isEmpty,h]
  simp only[n,kK,gq,Array.empty_append,Array.size_map];have k:∃(j:Nat) (a:World),j<L.size/\World.env a=World.env w/\a.heap=w.heap/\(choose (Question.mapNext L.size)).run P w=.ok j a:=by
   by_cases hf:L.size<=1;·exact⟨0,w,bA,rfl,rfl,by simp[choose,Sem.run,Question.forced,hf]⟩
   ·exact⟨_,w.drew,kx _ bA,rfl,rfl,by
     simp only[choose,Sem.run,Question.forced,gj,hf,gq,Question.cut];rfl⟩
  obtain⟨j,a,r,i,d,f⟩:=k;have m:a.heap[it]?=some (.mapIter (some c) ck seen ck):=by rw[d];exact l
  have g:∀(o':Obj),(setObj it o').run P a=.ok () {a with heap:=a.heap.setIfInBounds it o'} :=λo'=>by
   simp only[setObj,Sem.run,m]
  refine⟨L[j],by simp, {a with heap:=a.heap.setIfInBounds it (.mapIter (some c) ck (seen.push L[j].born) ck)},i,by rw[<- d],?_⟩;simp only[f,Array.getElem?_map,oH r,jh,Sem.run_bind,g,Result.andThen];rfl
def aHf{P:Program}(w:World)(it a ck:Nat)(seen:Array Nat)(es:Array MapEntry)(e:MapEntry)(b:w.heap[a]?=some (.map es ck))(c:w.heap[it]?=some (.mapIter (some a) ck seen ck))(f:seen.back? =some e.born)(he:e∈es.toList)(d:(es.toList.map (·.born)).Nodup):(Instr.entry (.pointer (some ⟨it,0,none⟩))).run P w=.ok (.tuple #[e.key,e.val]) w:=by
 have hf:es.find? (·.born==e.born)=some e:=by rw[<- Array.find?_toList];exact find_born e es.toList d he
 simp only[Instr.entry,getObj,Sem.run_bind,Sem.run,c,b,Result.andThen,f,bne_self_eq_false,kK,gq,hf];rfl
section
variable{E:Env}{L:ch}{w:World}{P:Program}{κ:Type}[DecidableEq κ]{enc:κ->Value}{f:κ->Option Value}{done:κ->Prop}{cur:Option κ}{it b n:Nat}
structure wB{κ:Type}(enc:κ->Value)(f:κ->Option Value)(done:κ->Prop)(cur:Option κ)(n:Nat)(es:List MapEntry)(ck:Nat)(seen:Array Nat):Prop where
 ok:h9 enc f es ck
 dn:∀e∈es,∀k,e.key=enc k->(seen.contains e.born=true↔done k)
 cu:∀k,cur=some k->∃e∈es,e.key=enc k/\seen.back? =some e.born
 len:(leftOf es.toArray seen).size=n
def fz{κ:Type}(it b:Nat)(enc:κ->Value)(f:κ->Option Value)(done:κ->Prop)(cur:Option κ)(n:Nat):Asn:=
 ⟨λh F=>(∃es ck seen,h[b]?=some (.map es.toArray ck)/\h[it]?=some (.mapIter (some b) ck seen ck)/\wB enc f done cur n es ck seen)/\∀x,F x↔x=b\/x=it,
  λa c=>⟨by rw[c b ((a.2 b).2 (.inl rfl)),c it ((a.2 it).2 (.inr rfl))];exact a.1,a.2⟩⟩
omit [DecidableEq κ] in
def fz.start{t kt:TypeId}{z:Value}(h:Sep E (cB b enc f::L) w)(m:mQ P t=some (kt,z)){G:cg->bh6}(g:∀it a n,Sep E (fz it b enc f (λ_=>False) none n::L) a->G (some ⟨it,0,none⟩) a):
  ∃x:cg,∃a,Sem.run P (Instr.range t (.map (some b))) w=.ok (.pointer x) a/\G x a:=by
 obtain⟨e,o,_⟩:=vl m;obtain⟨es,ck,c,M⟩:=cB.at_ (i:=0) h rfl;have d:b<w.heap.size:=(pv.1 c).1;refine⟨_,_,run_range_map w t kt e b es.toArray ck o c,g w.heap.size _ (leftOf es.toArray #[]).size ?_⟩;refine h.change (A':=fz w.heap.size b enc f (λ_=>False) none _) rfl (by rw[size_alloc];omega) (λF j p=>⟨λx hx _=>(Grow.alloc w _).heap x hx,λx=>x=b\/x=w.heap.size,⟨⟨es,ck,#[],?_,?_,M,?_,?_,rfl⟩,λ_=>lS⟩,λx hx=>⟨?_,?_⟩⟩);·rw[(Grow.alloc w _).heap b d];exact c
 ·exact heap_alloc w _
 ·intro e _ k _;simp
 ·intro k l;cases l
 ·rw[size_alloc];rcases hx with rfl|rfl<;>omega
 ·rcases hx with rfl|rfl;·exact .inl ((j.2 _).2 rfl)
  ·exact .inr (dN _)
omit [DecidableEq κ] in
def fz.over(h:Sep E (fz it b enc f done cur n::L) w):Sep E (cB b enc f::L) w:=
 h.Fb (λF ⟨⟨es,ck,_,h1,_,a⟩,c⟩=>⟨λx=>x=b,⟨⟨es,ck,h1,a.ok⟩,λ_=>lS⟩,λx hx=>(c x).2 (.inl hx)⟩)
omit [DecidableEq κ] in
def fz.get(h:Sep E (fz it b enc f done cur n::L) w):∃es ck seen,w.heap[b]?=some (.map es.toArray ck)/\w.heap[it]?=some (.mapIter (some b) ck seen ck)/\wB enc f done cur n es ck seen:=by
 obtain⟨_,F,⟨h1,_⟩,_⟩:=h;exact h1
def Aq(w:World)(it b:Nat):Nat:=match w.heap[b]?,w.heap[it]? with
 |some (.map es _),some (.mapIter _ _ seen _)=>(leftOf es seen).size
 |_,_=>0
omit [DecidableEq κ] in
def fz.left(h:Sep E (fz it b enc f done cur n::L) w):Aq w it b=n:=by
 obtain⟨es,ck,seen,a,c,d⟩:=fz.get h;unfold Aq;rw[a,c];exact d.len
omit [DecidableEq κ] in
def fz.next{ty:TypeId}(O:∀a b,enc a=enc b->a=b)(h:Sep E (fz it b enc f done cur n::L) w){A:bh6}{B:Value->Value->bh6}(ak:(∀k v,f k=some v->done k)->∀w',Sep E (fz it b enc f done cur n::L) w'->A w')(al:∀k v n',f k=some v->¬ done k->n=n'+1->∀w',Sep E (fz it b enc f (λx=>done x\/x=k) (some k) n'::L) w'->B (enc k) v w'):
  (∃w',Sem.run P (Instr.next (.pointer (some ⟨it,0,none⟩)) false ty) w=.ok (.tuple #[.bool false]) w'/\A w')\/
  (∃k v:Value,∃w',Sem.run P (Instr.next (.pointer (some ⟨it,0,none⟩)) false ty) w=.ok (.tuple #[.bool true,k,v]) w'/\B k v w'):=by
 obtain⟨es,ck,seen,D,G,T⟩:=fz.get h;have M:=T.ok;have t:∀e,e∈(leftOf es.toArray seen).toList↔e∈es/\seen.contains e.born=false:=by
  intro e;unfold leftOf;simp
 rcases aJk (P:=P) w ty it b ck seen es.toArray D G (λx hx=>M.born x (by simpa using hx))with⟨an,S⟩|⟨e,he,ab,N,d,S⟩
 ·refine .inl ⟨w,S,ak (λk v Q=>?_) w h⟩;obtain⟨e,he,g,_⟩:=M.has k v Q;refine(T.dn e he k g).1 ?_;cases K:seen.contains e.born with
  |true=>rfl
  |false=>
   have:e∈(leftOf es.toArray seen).toList:=(t e).2 ⟨he,K⟩;have:=List.length_pos_of_mem this;rw[uN]at this;omega
 ·obtain⟨o,C⟩:=(t e).1 he;obtain⟨k,g,W⟩:=M.key e o;have Z:¬ done k:=λaf=>by rw[(T.dn e o k g).2 af]at C;cases C
  have am:=left_shrinks es.toArray seen e he;refine .inr ⟨e.key,e.val,ab,S,?_⟩;rw[g];have R:(leftOf es.toArray (seen.push e.born)).size+1=(leftOf es.toArray seen).size:=by
   have go:∀(c:Nat->Bool) (l:List MapEntry),c e.born=false->l.Pairwise (λa b=>a.born≠b.born)->e∈l->(l.filter λx=> !(c x.born||x.born==e.born)).length+1=(l.filter λx=> !c x.born).length:=by
    intro c l K;induction l with
    |nil=>intro _ h;cases h
    |cons x l aj=>
     intro hp hm;obtain⟨J,aa⟩:=g5.1 hp;rcases ey.1 hm with rfl|hm
     ·have H:l.filter (λx=> !(c x.born||x.born==e.born))=l.filter (λx=> !c x.born):=by
       apply pA;intro y ai;have:(y.born==e.born)=false:=by simpa using(J y ai).symm
       rw[this,pG]
      rw[jq,jq,K,H];simp
     ·have:=aj aa hm;have hx:(x.born==e.born)=false:=by simpa using J e hm
      rw[jq,jq,hx,pG];cases c x.born;·simp only[Bool.not_false,fP,hS];omega
      ·simpa using this
   have ag:=go (λy=>seen.contains y) es C M.kT o;have ad:(leftOf es.toArray (seen.push e.born)).size=(es.filter λx=> !(seen.contains x.born||x.born==e.born)).length:=by
    unfold leftOf;rw[<- uN,GW];congr 2;funext x;rw[contains_push]
   have ae:(leftOf es.toArray seen).size=(es.filter λx=> !seen.contains x.born).length:=by
    unfold leftOf;rw[<- uN,GW]
   rw[ad,ae];exact ag
  refine al k e.val (leftOf es.toArray (seen.push e.born)).size W Z (by rw[R];exact T.len.symm) ab ?_;have X:it<w.heap.size:=(pv.1 G).1;refine h.change (A':=fz it b enc f (λx=>done x\/x=k) (some k) _) N (by rw[d];simp) (λF U ah=>⟨λx hx V=>?_,F,⟨⟨es,ck,seen.push e.born,?_,?_,M,?_,?_,rfl⟩,U.2⟩,λx hx=>⟨?_,.inl hx⟩⟩)
  ·have:it≠x:=λe=>V ((U.2 x).2 (.inr e.symm));rw[d,oG,bJ this]
  ·have:it≠b:=by
    intro e;rw[e]at G;rw[G]at D;cases D
   rw[d,oG,bJ this];exact D
  ·rw[d,oG,bM rfl,bM X]
  ·intro e' z k' r;rw[contains_push,jr,T.dn e' z k' r];refine or_congr lS ⟨λu=>?_,λQ=>?_⟩
   ·have u:=pH.1 u;by_cases s:e'=e;·subst s;exact O _ _ (r.symm.trans g)
    ·exfalso;have:e'.born≠e.born:=by
      have hp:=M.kT;obtain⟨i,p,rfl⟩:=h5.1 z;obtain⟨j,q,rfl⟩:=h5.1 o;rcases G1 i j with m|rfl|m;·exact m5.1 hp i j p q m
      ·exact absurd rfl s
      ·exact(m5.1 hp j i q p m).symm
     exact this u
   ·have I:e'.key=e.key:=by rw[r,g,Q]
    have:e'=e:=by
     refine AV λs=>?_;have hp:=M.one;obtain⟨i,p,rfl⟩:=h5.1 z;obtain⟨j,q,rfl⟩:=h5.1 o;rcases G1 i j with m|rfl|m;·exact m5.1 hp i j p q m I
     ·exact s rfl
     ·exact m5.1 hp j i q p m I.symm
    rw[this];simp
  ·intro k' Y;cases Y;exact⟨e,o,g,by simp⟩
  ·rw[d];simpa using ah x hx
omit [DecidableEq κ] in
def fz.entry{k:κ}{v:Value}(h:Sep E (fz it b enc f done (some k) n::L) w)(g:∀a b,enc a=enc b->a=b)(hf:f k=some v):Sem.run P (Instr.entry (.pointer (some ⟨it,0,none⟩))) w=.ok (.tuple #[enc k,v]) w:=by
 obtain⟨es,ck,seen,l,m,j⟩:=fz.get h;obtain⟨e,he,c,o⟩:=j.cu k rfl;obtain⟨k',i,d⟩:=j.ok.key e he;have:k'=k:=g _ _ (i.symm.trans c);subst this;rw[hf]at d;have p:e.val=v:=(cQ d).symm;rw[<- c,<- p];refine aHf w it b ck seen es.toArray e l m o (by simpa using he) ?_;show(es.map (·.born)).Nodup;rw[nT,jK];exact j.ok.kT
def fz.update{t kt:TypeId}{z v0:Value}(h:Sep E (fz it b enc f done cur n::L) w)(K:hM P kt enc)(C:mQ P t=some (kt,z))(k:κ)(v:Value)(hf:f k=some v0){G:bh6}(g:∀u,Sep E (fz it b enc (cK f k (some v)) done cur n::L) u->G u):∃u,Sem.run P (Instr.mapUpdate t (.map (some b)) (enc k) v) w=.ok () u/\G u:=by
 obtain⟨e,Z,ae⟩:=vl C;obtain⟨es,ck,seen,o,r,U⟩:=fz.get h;have M:=U.ok;obtain⟨j,x,s,B,ad,A⟩:=M.gD K hf w;obtain⟨S,D⟩:=cT.1 s;have hm:es.modify j (λe=> {e with key:=enc k,val:=v})=es.set j {x with key:=enc k,val:=v} :=by
  apply g6;intro q;simp only[List.getElem?_modify,jg];by_cases C:j=q;·subst C;simp[S,D]
  ·simp[C]
 have N:b<w.heap.size:=(pv.1 o).1;have ab:({x with key:=enc k,val:=v} :MapEntry).born=x.born:=rfl;have T:x∈es:=eu s;have dZ:∀e∈es.set j ({x with key:=enc k,val:=v} :MapEntry),∃d∈es,e.key=d.key/\e.born=d.born:=by
  intro e he;obtain⟨i,r,rfl⟩:=h5.1 he;rw[G7];split;·exact⟨x,T,B.symm,rfl⟩
  ·exact⟨_,m7 _,rfl,rfl⟩
 have new:∀d∈es,∃e∈es.set j ({x with key:=enc k,val:=v} :MapEntry),e.key=d.key/\e.born=d.born:=by
  intro d he;obtain⟨i,r,rfl⟩:=h5.1 he;refine⟨(es.set j ({x with key:=enc k,val:=v} :MapEntry))[i]'(by simpa using r),m7 _,?_⟩;rw[G7];split;·next Q=>subst Q;rw[D];exact⟨B.symm,rfl⟩
  ·exact⟨rfl,rfl⟩
 refine⟨{w with heap:=w.heap.setIfInBounds b (.map (es.set j ({x with key:=enc k,val:=v} :MapEntry)).toArray ck)},?_,g _ ?_⟩;·simp[Instr.mapUpdate,run_underlying Z,MapKept.run_getObj_map o,K.nt,A,Instr.keyThatStays,s,B,K.stay,hm,MapKept.run_setObj_map _ o]
 ·refine h.change (A':=fz it b enc (cK f k (some v)) done cur n) rfl (by simp) (λF I Y=>⟨λy H J=>?_,F,⟨⟨_,ck,seen,?_,?_,M.put K s B v,?_,?_,?_⟩,I.2⟩,λy H=>⟨?_,.inl H⟩⟩)
  ·have:b≠y:=λe=>J ((I.2 y).2 (.inl e.symm));show(w.heap.setIfInBounds b _)[y]?=_;rw[oG,bJ this]
  ·show(w.heap.setIfInBounds b _)[b]?=_;rw[oG,bM rfl,bM N]
  ·have:b≠it:=by
    intro e;rw[e]at o;rw[r]at o;cases o
   show(w.heap.setIfInBounds b _)[it]?=_;rw[oG,bJ this];exact r
  ·intro e he k' O;obtain⟨d,p,h1,m⟩:=dZ e he;rw[m];exact U.dn d p k' (h1.symm.trans O)
  ·intro k' R;obtain⟨d,p,h1,m⟩:=U.cu k' R;obtain⟨e,he,V,W⟩:=new d p;exact⟨e,he,V.trans h1,by rw[W];exact m⟩
  ·rw[<- U.len];unfold leftOf;have go:∀(c:Nat->Bool) (l:List MapEntry) (j:Nat) (x y:MapEntry),l[j]?=some x->y.born=x.born->((l.set j y).filter λe=> !c e.born).length=(l.filter λe=> !c e.born).length:=by
    intro c l;induction l with
    |nil=>intro j x y h;simp at h
    |cons a l aa=>
     intro j x y h1 m;cases j with
     |zero=>
      simp only[lo,eF]at h1;subst h1;rw[xx,jq,jq,m];cases c a.born<;>simp
     |succ j=>
      rw[T4,jq,jq];have:=aa j x y (by simpa using h1) m;cases c a.born;·simp only[Bool.not_false,fP,hS];omega
      ·simpa using this
   have X:=go (λy=>seen.contains y) es j x {x with key:=enc k,val:=v} s rfl;rw[<- uN,GW,<- uN,GW];exact X
  ·simpa using Y y H
end
end Go.Sp
namespace Go.Mp.Gp
open Go Go.Vc Go.Sp Go.Kc Go.Mp
abbrev encI:Int->Value:=Value.int .i64
def ff(g a:Int):Value:=.agg #[Iv g,Iv a]
def gm(R:List dz):Int->Option Value:=λk=>(e9 R k).map λe=>ff e.group e.du
def Ar(a b:Int)(h:encI a=encI b):a=b:=by simpa using h
def mg:hM P hb encI:=hM.int cr
variable{R R':List dz}
def fh(l:Nat)(R:List dz):Asn:=e8 λm:Nat=>star (bE l [.map (some m)]) (cB m encI (gm R))
variable{E:Env}{L:ch}{w:World}{l:Nat}
def fh.open(h:Sep E (fh l R::L) w):∃m,Sep E (bE l [.map (some m)]::cB m encI (gm R)::L) w:=by
 obtain⟨m,h⟩:=Sep.ex.1 h;exact⟨m,Sep.star.1 h⟩
def fh.shut{m:Nat}(h:Sep E (bE l [.map (some m)]::cB m encI (gm R)::L) w):Sep E (fh l R::L) w:=Sep.ex.2 ⟨m,Sep.star.2 h⟩
def mq:mQ P Cl=some (hb,ff 0 0):=by kernel_rfl
def wy(h:Sep E L w):Calls P Cq #[] w (bW λv w'=>∃l,v=Pb l/\Sep E (fh l []::L) w'):=by
 apply Wn;unfold K3;exact cB.new (enc:=encI) h (λm b h1=>Al.i h1 (λp w2 a=>⟨p,rfl,fh.shut a⟩))
def look{m i:Nat}(h:Sep E L w)(a:L[i]?=some (cB m encI (gm R)))(k:Int):
  gk P Cl (.map (some m)) (Iv k) true w (.tuple #[ff ((e9 R k).elim 0 (·.group)) ((e9 R k).elim 0 (·.du)),.bool (e9 R k).isSome]):=by
 have:=gk.i true i h a mg mq k;unfold gm at this;cases hf:e9 R k<;>simpa[hf]using this
def Fc{m i:Nat}(h:Sep E L w)(a:L[i]?=some (cB m encI (gm R)))(k:Int):
  gk P Cl (.map (some m)) (Iv k) false w (ff ((e9 R k).elim 0 (·.group)) ((e9 R k).elim 0 (·.du))):=by
 have:=gk.i false i h a mg mq k;unfold gm at this;cases hf:e9 R k<;>simpa[hf]using this
def aLZ(G:Kc.Good R){x:dz}(c:∀e∈R,e.id≠x.id)(b:Kc.Good (ix R x)):cK (gm R) x.id (some (ff x.group x.du))=gm (ix R x):=by
 funext k;unfold cK gm;by_cases a:k=x.id;·rw[bM a,(kz b.cX).2 ⟨(x2 c).2 (.inl rfl),a.symm⟩];rfl
 ·rw[bJ a,BX G.cX b.cX (λe he=>?_)];rw[x2 c];exact⟨λh=>h.resolve_left (λe'=>a (by rw[<- he,e'])),.inr⟩
def Ez(G:Kc.Good R)(id g:Int)(dZ:Bool)(h:Sep E (fh l R::L) w):Calls P Kk #[Pb l,Iv id,Iv g,.bool dZ] w (bW λv w'=>v=Iv (jw R id g dZ).2/\Sep E (fh l (jw R id g dZ).1::L) w'):=by
 apply Y6;unfold Nl qL qM qU qg qw zZ;unfold jw;have bad:hW id g->(Value.int .i64 1=Iv (if hW id g then(R,(1:Int))else if(e9 R id).isSome then(R,4)else(ix R ⟨id,g,if dZ then 1 else 0⟩,0)).2/\Sep E (fh l (if hW id g then(R,(1:Int))else if(e9 R id).isSome then(R,4)else(ix R ⟨id,g,if dZ then 1 else 0⟩,0)).1::L) w):=by
  intro d;rw[bM d];exact⟨rfl,h⟩
 refine⟨λw=>¬ hW id g/\Sep E (fh l R::L) w,?_,?_⟩
 ·refine cL (λc=>bad (.inl c)) (λC=>eW (λc=>bad (.inr (.inl c))) (λD=>cL (λc=>bad (.inr (.inr (.inl c)))) (λF=>eW (λc=>bad (.inr (.inr (.inr c)))) (λH=>⟨?_,h⟩))));unfold hW;omega
 rintro _ I ⟨d,h1⟩;rw[bJ d];obtain⟨m,j⟩:=fh.open h1;refine⟨_,rfl,ld j 0 rfl rfl rfl ⟨_,_,_,look (i:=1) j rfl id,Al.i j (λp J t=>eh _ (vs:=[Iv _,Iv _]) t rfl (λK o=>?_))⟩⟩;cases hf:e9 R id with
 |some e=>exact eC ⟨rfl,fh.shut o.tail⟩
 |none=>
  refine dH (Al.i o (λq M u=>eh _ (vs:=[Iv g,Iv 0]) u rfl (λN k=>?_)));refine⟨λw=>Sep E (bE q [Iv g,Iv (if dZ then 1 else 0)]::bE l [.map (some m)]::cB m encI (gm R)::L) w,?_,?_⟩
  ·refine cw (λho=>?_) (λho=>?_)
   ·refine ld k 0 rfl rfl rfl (St.i k (show 0+1<2 by decide) (λz a=>?_));rw[cH (n:=0+1) bO bO]at a;rw[bM ho];exact(a.fr 1 rfl).tail.fr 0 rfl |> λx=>(a.ro 4 [0,2,3] rfl)
   ·rw[bJ (by simp[ho])];exact k.ro 4 [0,2,3] rfl
  ·rintro _ z a;refine Dr.i a (λO b=>⟨_,rfl,ld b 1 rfl rfl rfl (ld b 0 rfl rfl rfl (ld b 0 rfl rfl rfl ?_))⟩);refine mapUpdate.i (b.ro 3 [2,0,1] rfl) mg mq id _ (λA y=>⟨rfl,?_⟩);have r:=(ta G.cX).1 hf;have B:¬ (id<0\/16777216<id\/g<0\/16777216<g):=d;have s:Kc.Good (ix R ⟨id,g,if dZ then 1 else 0⟩):=G.ins (x:=⟨id,g,if dZ then 1 else 0⟩) r ⟨⟨by simp only;omega,by simp only;omega⟩,⟨by simp only;omega,by simp only;omega⟩,by simp only;split<;>omega⟩;have e:=aLZ G (x:=⟨id,g,if dZ then 1 else 0⟩) r s;have f:Sep E (cB m encI (cK (gm R) id (some (ff g (if dZ then 1 else 0))))::bE q [Iv g,Iv (if dZ then 1 else 0)]::bE l [.map (some m)]::L) A:=y;rw[show cK (gm R) id (some (ff g (if dZ then 1 else 0)))=gm (ix R ⟨id,g,if dZ then 1 else 0⟩)from e]at f;exact fh.shut (f.ro 3 [2,0] rfl)
def Fe(G:Kc.Good R)(id:Int)(h:Sep E (fh l R::L) w):Calls P yK #[Pb l,Iv id] w (bW λv w'=>v=Iv (j7 R id).2/\Sep E (fh l (j7 R id).1::L) w'):=by
 apply Xi;unfold LL qL qM qU qw;obtain⟨m,d⟩:=fh.open h;refine⟨_,rfl,ld d 0 rfl rfl rfl ⟨_,_,_,look (i:=1) d rfl id,Al.i d (λp z r=>eh _ (vs:=[Iv _,Iv _]) r rfl (λA f=>?_))⟩⟩;have c:=G.cS id;unfold j7 at c ⊢;cases hf:e9 R id with
 |none=>exact eC ⟨rfl,fh.shut f.tail⟩
 |some e=>
  rw[hf]at f c;have j:Kc.Good (R.map (λe=>if e.id=id then {e with du:=0} else e)):=c;refine dH (Dr.i f (λB g=>⟨_,rfl,ld g 1 rfl rfl rfl (ld g 0 rfl rfl rfl ?_)⟩));refine mapUpdate.i (g.ro 3 [2,0,1] rfl) mg mq id _ (λu s=>⟨rfl,?_⟩);have he:=(kz G.cX).1 hf;have q:cK (gm R) id (some (ff e.group 0))=gm (R.map (λe=>if e.id=id then {e with du:=0} else e)):=by
   funext k;unfold cK gm;by_cases n:k=id;·rw[bM n,(kz j.cX (e:={e with du:=0})).2 ⟨e4.2 ⟨e,he.1,bM he.2⟩,by simp only;omega⟩];rfl
   ·rw[bJ n,BX G.cX j.cX (λx hx=>?_)];simp only[fP,GZ,e4];constructor
    ·rintro⟨y,t,rfl⟩;by_cases a:y.id=id;·rw[bM a]at hx;simp only at hx;omega
     ·rw[bJ a];exact t
    ·intro o;exact⟨x,o,cM⟩
  have b:Sep E (cB m encI (cK (gm R) id (some (ff e.group 0)))::bE p _::bE l [.map (some m)]::L) u:=s;rw[q]at b;exact fh.shut (b.ro 3 [2,0] rfl)
def wA(G:Kc.Good R)(id:Int)(h:Sep E (fh l R::L) w):Calls P CU #[Pb l,Iv id] w (bW λv w'=>v=Iv (iT R id).2/\Sep E (fh l (iT R id).1::L) w'):=by
 apply Xr;unfold LV qM qU qw;obtain⟨m,b⟩:=fh.open h;refine⟨_,rfl,ld b 0 rfl rfl rfl ⟨_,_,_,look (i:=1) b rfl id,Al.i b (λp o n=>eh _ (vs:=[Iv _,Iv _]) n rfl (λq c=>?_))⟩⟩;have a:=G.drop id;unfold iT at a ⊢;cases hf:e9 R id with
 |none=>exact eC ⟨rfl,fh.shut c.tail⟩
 |some e=>
  rw[hf]at a;have d:Kc.Good (R.filter (λe=>e.id !=id)):=a;refine dH ⟨_,rfl,ld c 1 rfl rfl rfl ?_⟩;refine gE.i (c.ro 3 [2,0,1] rfl) mg mq id (λr f=>⟨rfl,?_⟩);have j:cK (gm R) id none=gm (R.filter (λe=>e.id !=id)):=by
   funext k;unfold cK gm;by_cases g:k=id
   ·have:e9 (R.filter (λe=>e.id !=id)) k=none:=(ta d.cX).2 (λe he=>by have:=(fO.1 he).2;simp at this;omega);rw[bM g,this];rfl
   ·rw[bJ g,BX G.cX d.cX (λx hx=>?_)];simp only[fP,GZ,fO];exact⟨λh=>h.1,λh=>⟨h,by simp;omega⟩⟩
  rw[j]at f;exact fh.shut (f.ro 3 [2,0] rfl)
end Go.Mp.Gp
namespace Go.Mp.Gp
open Go Go.Vc Go.Sp Go.Kc Go.Mp
variable{R:List dz}{E:Env}{L:ch}{w:World}{l:Nat}
def ja(R:List dz)(d:Int->Bool)(p:dz->Bool):Nat:=(R.filter (λe=>d e.id&&p e)).length
def plus(d:Int->Bool)(k:Int):Int->Bool:=λx=>d x||x==k
def Rk(p:dz->Bool):ja R (λ_=>false) p=0:=by unfold ja;simp
def wC{d:Int->Bool}(p:dz->Bool)(h:∀e∈R,d e.id=true):ja R d p=(R.filter p).length:=by
 unfold ja;congr 1;apply pA;intro e he;rw[h e he,lr]
def Rl(d:Int->Bool)(p:dz->Bool):ja R d p<=R.length:=lp _ _
def Rm(G:R.Pairwise (λa b:dz=>a.id<b.id)){d:Int->Bool}(p:dz->Bool){k:Int}{e:dz}(he:e9 R k=some e)(i:d k=false):ja R (plus d k) p=ja R d p+(if p e then 1 else 0):=by
 obtain⟨h1,h⟩:=(kz G).1 he;clear he;unfold ja plus;induction R with
 |nil=>cases h1
 |cons x R l=>
  obtain⟨f,g⟩:=g5.1 G;rw[jq,jq];rcases ey.1 h1 with rfl|h1
  ·have c:R.filter (λy=>(d y.id||y.id==k)&&p y)=R.filter (λy=>d y.id&&p y):=by
    apply pA;intro y j;have:(y.id==k)=false:=by have:=f y j;simp;omega
    rw[this,pG]
   rw[c,h,i];cases p e<;>simp
  ·have:=l g h1;have hx:(x.id==k)=false:=by have:=f e h1;simp;omega
   rw[hx,pG];cases(d x.id&&p x);·simpa using this
   ·simp only[fP,hS];omega
def gd(R:List dz)(d:Int->Bool)(F:dz->dz):Int->Option Value:=λk=>(e9 R k).map λe=>if d k then ff (F e).group (F e).du else ff e.group e.du
def aKV(F:dz->dz):gd R (λ_=>false) F=gm R:=by
 funext k;unfold gd gm;cases e9 R k<;>simp
def aKU(F:dz->dz)(a:∀e,(F e).id=e.id)(k:Int):e9 (R.map F) k=(e9 R k).map F:=by
 unfold e9;rw[List.find?_map];congr 2;funext e;simp[a]
def aLX(G:R.Pairwise (λa b:dz=>a.id<b.id)){d:Int->Bool}{F:dz->dz}(f:∀e,(F e).id=e.id)(h:∀e∈R,d e.id=true):gd R d F=gm (R.map F):=by
 funext k;unfold gd gm;rw[aKU F f];cases hf:e9 R k with
 |none=>rfl
 |some e=>
  obtain⟨h1,c⟩:=(kz G).1 hf;have:=h e h1;rw[c]at this;simp[this]
def aKW{d:Int->Bool}{F:dz->dz}{k:Int}{e:dz}(he:e9 R k=some e)(a:F e=e):gd R (plus d k) F=gd R d F:=by
 funext x;unfold gd plus;by_cases hx:x=k;·subst hx;rw[he];simp[a]
 ·have:(x==k)=false:=by simpa using hx
  rw[this,pG]
def aLY{d:Int->Bool}{F:dz->dz}{k:Int}{e:dz}(he:e9 R k=some e):cK (gd R d F) k (some (ff (F e).group (F e).du))=gd R (plus d k) F:=by
 funext x;unfold cK gd plus;by_cases hx:x=k;·subst hx;rw[bM rfl,he];simp
 ·have:(x==k)=false:=by simpa using hx
  rw[bJ hx,this,pG]
def Rn(d:Int->Bool)(k:Int):(λx=>d x=true\/x=k)= λx=>plus d k x=true:=by
 funext x;unfold plus;simp
def aKk(G:Kc.Good R)(g:Int)(C:R.length<4611686018427387904)(h:Sep E (fh l R::L) w):Calls P Js #[Pb l,Iv g] w (bW λv w'=>v=Iv (oW R g)/\Sep E (fh l R::L) w'):=by
 apply Xa;unfold LB qL qM qO qU qw;obtain⟨m,r⟩:=fh.open h;refine⟨_,rfl,ld r 0 rfl rfl rfl (fz.start r.swap mq (λit F n h1=>?_))⟩;refine⟨λc w=>∃d cur n,c=ja R d (λe=>e.group==g)/\Sep E (fz it m encI (gm R) (λx=>d x=true) cur n::bE l [.map (some m)]::L) w,λ_ w=>Aq w it m,⟨λ_=>false,none,n,by rw[Rk];rfl,?_⟩,?_⟩
 ·have e:(λx:Int=>((λ_=>false:Int->Bool) x)=true)= λ_=>False:=by funext x;simp
  rw[e];exact h1
 rintro _ c w2 ⟨d,cur,n,rfl,s⟩;have hle:=Rl (R:=R) d (λe=>e.group==g);refine fz.next Ar s (λj z b=>?_) (λk v n' a t D z b=>?_)
 ·refine⟨?_,fh.shut (fz.over b).swap⟩;unfold oW;rw[wC];intro e he;exact j e.id (ff e.group e.du) (by unfold gm;rw[(kz G.cX).2 ⟨he,rfl⟩];rfl)
 ·have o:=fz.entry (P:=P) b Ar a;obtain⟨e,he,y⟩:∃e,e9 R k=some e/\ff e.group e.du=v:=by
   unfold gm at a;cases hf:e9 R k with
   |none=>rw[hf]at a;cases a
   |some e=>rw[hf]at a;exact⟨e,rfl,by simpa using a⟩
  subst y;rw[Rn]at b;have A:=fz.left s;refine⟨_,_,_,_,o,Al.i b (λp H u=>eh _ (vs:=[Iv e.group,Iv e.du]) u rfl (λI f=>?_))⟩;have B:=fz.left f.tail;have i:=Rm G.cX (λe=>e.group==g) he (uP.2 t);refine ld f 0 rfl rfl rfl (eD (λq=>?_) (λq=>?_))
  ·rw[cH bA bA];refine⟨⟨plus d k,_,_,?_,f.tail⟩,by dsimp only;omega⟩;rw[i];simp[q]
  ·refine⟨⟨plus d k,_,_,?_,f.tail⟩,by dsimp only;omega⟩;rw[i];simp[q]
def aK3(a b:Int×Int):∃q,jY P .neq yh (ff a.1 a.2) (ff b.1 b.2) q/\(q=false↔a=b):=by
 have c:∀p:Int×Int,Typed P yh [.int .i64,.int .i64] (ff p.1 p.2):=λp=>by
  unfold Typed;rw[show dW P yh=some true by kernel_rfl];exact⟨_,rfl,⟨_,rfl⟩,⟨_,rfl⟩,trivial⟩
 obtain⟨q,h1,f⟩:=jY.neq (d:=4) (by kernel_rfl:j6 P 4 yh=_) bO cr cr (c a) (c b);refine⟨q,h1,f.trans ⟨λe=>?_,λe=>by rw[e]⟩⟩;simp[ff]at e;exact Prod.ext e.1 e.2
def Ro(G:Kc.Good R)(g:Int)(b:Int->Int->Int×Int){change:Value}(W:∀(A:Asn) (x a:Int) (w:World),Sep E (A::L) w->eX P change #[ff x a] w λe w'=>e=.returned (ff (b x a).1 (b x a).2)/\Sep E (A::L) w')(am:R.length<4611686018427387904)(h:Sep E (fh l R::L) w):Calls P C4 #[Pb l,Iv g,change] w (bW λv w'=>v=Iv (ia R g b).2/\Sep E (fh l (ia R g b).1::L) w'):=by
 apply XG;unfold L6 qL qM qO qU qh qw zZ;obtain⟨m,S⟩:=fh.open h;refine⟨_,rfl,ld S 0 rfl rfl rfl (fz.start S.swap mq (λit ao n h1=>?_))⟩;refine⟨λc w=>∃d cur n,c=ja R d (oa g b)/\Sep E (fz it m encI (gd R d (jx g b)) (λx=>d x=true) cur n::bE l [.map (some m)]::L) w,λ_ w=>Aq w it m,⟨λ_=>false,none,n,by rw[Rk];rfl,?_⟩,?_⟩
 ·have e:(λx:Int=>((λ_=>false:Int->Bool) x)=true)= λ_=>False:=by funext x;simp
  rw[e,aKV];exact h1
 rintro _ c w2 ⟨d,cur,n,rfl,T⟩;have hle:=Rl (R:=R) d (oa g b);refine fz.next Ar T (λN ah y=>?_) (λk v n' t Y an ah y=>?_)
 ·have u:∀e∈R,d e.id=true:=λe he=>by
   have hf:=(kz G.cX).2 ⟨he,rfl⟩;exact N e.id _ (by unfold gd;rw[hf];rfl)
  refine⟨by unfold ia;rw[wC _ u],?_⟩;rw[aLX G.cX (td g b) u]at y;exact fh.shut (fz.over y).swap
 ·have O:=fz.entry (P:=P) y Ar t;have C:=uP.2 Y;obtain⟨e,he,ag⟩:∃e,e9 R k=some e/\ff e.group e.du=v:=by
   unfold gd at t;cases hf:e9 R k with
   |none=>rw[hf]at t;cases t
   |some e=>rw[hf]at t;exact⟨e,rfl,by simpa[C]using t⟩
  subst ag;rw[Rn]at y;have ak:=fz.left T;have H:=Rm G.cX (oa g b) he C;refine⟨_,_,_,_,O,Al.i y (λp ap ad=>eh _ (vs:=[Iv e.group,Iv e.du]) ad rfl (λab J=>?_))⟩;refine ld J 0 rfl rfl rfl (ld J 0 rfl rfl rfl ?_);have ae:Sep E (cA [bE p [Iv e.group,Iv e.du],fz it m encI (gd R d (jx g b)) (λx=>plus d k x=true) (some k) n',bE l [.map (some m)]]::L) ab:=Sep.cA.2 J;refine eX.use (W _ e.group e.du ab ae) ?_;rintro _ ai ⟨rfl,K⟩;have K:Sep E (bE p [Iv e.group,Iv e.du]::fz it m encI (gd R d (jx g b)) (λx=>plus d k x=true) (some k) n'::bE l [.map (some m)]::L) ai:=Sep.cA.1 K;refine⟨_,_,rfl,Al.i K (λq aq af=>eh _ (vs:=[Iv (b e.group e.du).1,Iv (b e.group e.du).2]) af rfl (λar i=>?_))⟩;refine⟨λc w=>c=oa g b e/\Sep E (bE q [Iv (b e.group e.du).1,Iv (b e.group e.du).2]::bE p [Iv e.group,Iv e.du]::fz it m encI (gd R d (jx g b)) (λx=>plus d k x=true) (some k) n'::bE l [.map (some m)]::L) w,?_,?_⟩
  ·refine ld i 1 rfl rfl rfl (eD (λs=>?_) (λs=>⟨by unfold oa;simp[s],i⟩));refine ld i 1 rfl rfl rfl (ld i 1 rfl rfl rfl (ld i 0 rfl rfl rfl (ld i 0 rfl rfl rfl ?_)));obtain⟨r,Z,D⟩:=aK3 (e.group,e.du) (b e.group e.du);refine⟨r,Z,?_,i⟩;unfold oa;cases r with
   |false=>
    have I:=D.1 rfl;rw[<- I];simp
   |true=>
    have I:¬ b e.group e.du=(e.group,e.du):=λe'=>by have:=D.2 e'.symm;cases this
    have z:(b e.group e.du==(e.group,e.du))=false:=by simpa using I
    rw[z];simp[s]
  rintro _ c aj ⟨rfl,B⟩;refine cw (λo=>?_) (λo=>?_)
  ·have U:e.group=g/\b e.group e.du≠(e.group,e.du):=by unfold oa at o;simpa using o
   have M:jx g b e=⟨e.id,(b e.group e.du).1,(b e.group e.du).2⟩:=by unfold jx;rw[bM U.1]
   refine Dr.i B (λal f=>⟨_,rfl,ld f 3 rfl rfl rfl (ld f 0 rfl rfl rfl (ld f 0 rfl rfl rfl ?_))⟩);refine fz.update (f.ro 4 [2,0,1,3] rfl) mg mq k _ t (λaa Q=>?_);have z:=aLY (d:=d) (F:=jx g b) he;rw[M]at z;have j:Sep E (fz it m encI (cK (gd R d (jx g b)) k (some (ff (b e.group e.du).1 (b e.group e.du).2))) (λx=>plus d k x=true) (some k) n'::bE q _::bE p _::bE l [.map (some m)]::L) aa:=Q;rw[z]at j;have X:=fz.left j;rw[cH bA bA];refine⟨⟨plus d k,_,_,?_,j.ro 4 [0,3] rfl⟩,by dsimp only;omega⟩;rw[H,bM o];simp
  ·have M:jx g b e=e:=by
    unfold oa at o;unfold jx;by_cases s:e.group=g
    ·have V:b e.group e.du=(e.group,e.du):=by simpa[s]using o
     rw[bM s,V]
    ·rw[bJ s]
   have f:Sep E (fz it m encI (gd R d (jx g b)) (λx=>plus d k x=true) (some k) n'::bE l [.map (some m)]::L) aj:=B.tail.tail;rw[<- aKW (d:=d) he M]at f;have X:=fz.left f;refine⟨⟨plus d k,_,_,?_,f⟩,by dsimp only;omega⟩;rw[H,bJ (by simp[o])];simp
def aMo(G:Kc.Good R)(g:Int)(e:R.length<4611686018427387904)(h:Sep E (fh l R::L) w):Calls P Jr #[Pb l,Iv g] w (bW λv w'=>v=Iv (ia R g jy).2/\Sep E (fh l (ia R g jy).1::L) w'):=by
 apply W6;unfold Lz qQ;refine use (Ro G g jy (λA x a j h1=>⟨JK,_,rfl,by kernel_rfl,?_⟩) e h) ?_
 ·refine use (K:=λv w'=>v=ff (jy x a).1 (jy x a).2/\Sep E (A::L) w') (XO x a ?_) (λv w' ⟨i,f⟩=>⟨by rw[i],f⟩);unfold Me qU qw zZ;refine Al.i h1 (λp w2 d=>Al.i d (λq k b=>ld b 1 rfl rfl rfl (ld b 1 rfl rfl rfl (eh _ (vs:=[Iv x,Iv _]) b rfl (λm c=>?_)))));exact ld c 0 rfl rfl rfl (ld c 0 rfl rfl rfl ⟨rfl,c.tail.tail⟩)
 ·rintro _ j ⟨rfl,h1⟩;exact⟨_,rfl,rfl,h1⟩
def aLE(G:Kc.Good R)(f t:Int)(i:R.length<4611686018427387904)(h:Sep E (fh l R::L) w):Calls P Jq #[Pb l,Iv f,Iv t] w (bW λv w'=>v=Iv (mO R f t).2/\Sep E (fh l (mO R f t).1::L) w'):=by
 apply W2;unfold Lv qC qD qQ qg;unfold mO;have bad:∀ {d:World} {j:Nat},(t<0\/16777216<t)->Sep E (bE j [Iv t]::fh l R::L) d->(Value.int .i64 0=Iv (if t<0\/16777216<t then(R,(0:Int))else ia R f (λ_ a=>(t,a))).2/\Sep E (fh l (if t<0\/16777216<t then(R,(0:Int))else ia R f (λ_ a=>(t,a))).1::L) d):=by
  intro d j i h;rw[bM i];exact⟨rfl,h.tail⟩
 refine Al.i h (λp d h1=>⟨λw=>¬ (t<0\/16777216<t)/\Sep E (bE p [Iv t]::fh l R::L) w,?_,?_⟩);·exact ld h1 0 rfl rfl rfl (cL (λc=>bad (.inl c) h1) (λr=>ld h1 0 rfl rfl rfl (eW (λc=>bad (.inr c) h1) (λs=>⟨bA,h1⟩))))
 rintro _ w2 ⟨k,e⟩;rw[bJ k];refine use (Ro (L:=bE p [Iv t]::L) G f (λ_ a=>(t,a)) (λA x a d h1=>⟨JJ,_,rfl,by kernel_rfl,?_⟩) i e.swap) ?_
 ·refine use (K:=λv w'=>v=ff t a/\Sep E (A::bE p [Iv t]::L) w') (XH x a ⟨p,0,none⟩ ?_) (λv w' ⟨n,m⟩=>⟨by rw[n],m⟩);unfold L7 qD qL qU qw zZ;refine Al.i h1 (λj w2 e=>Al.i e (λq o b=>ld b 3 rfl rfl rfl (ld b 1 rfl rfl rfl (eh _ (vs:=[Iv t,Iv a]) b rfl (λu g=>?_)))));exact ld g 0 rfl rfl rfl (ld g 0 rfl rfl rfl ⟨rfl,g.tail.tail⟩)
 ·rintro _ o ⟨rfl,b⟩;exact⟨_,rfl,rfl,(b.fr 1 rfl).tail⟩
end Go.Mp.Gp
namespace Go.Sp
open Go
variable{E:Env}{L:ch}{w:World}
def Sep.put{A A':Asn}{q:Nat}(b:L[q]?=some A)(h:Sep E (A'::L.eraseIdx q) w):Sep E (L.set q A') w:=by
 refine h.perm ?_;obtain⟨a,_⟩:=cT.1 b;rw[bd9,bd0,bM a];exact il.symm
def Sep.g1{A A' B:Asn}{q:Nat}(b:L[q]?=some A)(h:Sep E (B::A'::L.eraseIdx q) w):Sep E (B::L.set q A') w:=by
 refine h.perm (List.Perm.cons _ ?_);obtain⟨a,_⟩:=cT.1 b;rw[bd9,bd0,bM a];exact il.symm
end Go.Sp
namespace Go.Mp
open Go Go.Vc Go.Sp Go.Proofs Go.Kc
variable{E:Env}{L:ch}{w:World}
structure At where
 c:Nat
 t:Nat
 fp:Nat
 fb:Nat
 fu:Nat
 sp:Nat
 sb:Nat
 su:Nat
 fi:Nat
 ge:Nat
 lg:Nat
 pg:Nat
 m:Nat
 gs:Sl
 us:Sl
 o:Array Obj
def eH.vs(x:eH):List Value:=[Iv x.min,Iv x.low,.bool x.whole]
def eH.lJ(x:eH):(eH.vs x).length=3:=rfl
def At.row(A:At):List Value:=[Pb A.t,Pb A.fp,Pb A.fb,Pb A.fu,Pb A.sp,Pb A.sb,Pb A.su,
 Pb A.fi,Pb A.ge,Pb A.lg,Pb A.pg,.map (some A.m),.slice A.gs.p A.gs.n A.gs.c,.slice A.us.p A.us.n A.us.c]
def nL(m:Nat)(f:Int->Option Int):Asn:=cC (∀k x,f k=some x->0<=x/\x<18446744073709551616) (cB m (Value.int .i64) (λk=>(f k).map (Value.int .u64)))
def iA(s:Sl)(l:List eH):Asn:=cC (s.n=l.length) (bC s 3 (bQ eH.vs l))
def jb(s:Sl)(l:List Kt.G):Asn:=cC (s.n=l.length) (bC s 1 (bD (l.map Kt.G.up)))
def cy(H:Array Obj):Asn:=cC (∃o,H[2]?=some o/\p1 o) (dZ H)
def cd(A:At)(S:Cs):ch:=
 [bE A.c A.row,dT A.t S.tree,fY A.fp S.fr.bK,ga A.fb S.fr.bK.length S.fr.cG,c6 A.fu S.fr.used,fY A.sp S.sl.bK,ga A.sb S.sl.bK.length S.sl.cG,c6 A.su S.sl.used,
  ic A.fi S.files,Gp.fh A.ge S.bY,fE A.lg S.log,Tp.c0 A.pg S.bz,nL A.m S.kept,iA A.gs S.guards,jb A.us S.tree,cy A.o]
variable{A:At}{S:Cs}
def uq(g:Int)(h:Sep E (cd A S++L) w):Calls P om #[Pb A.c,Iv g] w (bW λv w'=>v=Iv (S.memory g)/\Sep E (cd A S++L) w'):=by
 apply Wc;unfold KR qQ qZ;refine⟨_,rfl,ld h 0 rfl rfl rfl (use (Ai h (q:=4) rfl g) ?_)⟩;rintro _ a ⟨rfl,h1⟩;exact⟨_,rfl,rfl,h1⟩
def wD(g:Int)(h:Sep E (cd A S++L) w):Calls P nz #[Pb A.c,Iv g] w (bW λv w'=>v=Iv (S.swap g)/\Sep E (cd A S++L) w'):=by
 apply Wd;unfold KS qQ qZ;refine⟨_,rfl,ld h 0 rfl rfl rfl (use (Ai h (q:=7) rfl g) ?_)⟩;rintro _ a ⟨rfl,h1⟩;exact⟨_,rfl,rfl,h1⟩
def As(p:Pg)(h:Sep E (cd A S++L) w):Calls P vF #[Pb A.c,.agg p.vs.toArray] w (bW λv w'=>v=hl (S.text p)/\Sep E (cd A S++L) w'):=by
 apply Ya;unfold Mu qL qZ zQ zZ;refine Al.i h (λb i h1=>?_);have h1:Sep E (bE b p.vs::(cd A S++L)) i:=h1;refine ld h1 0 rfl rfl rfl (eD (λd=>?_) (λf=>eD (λe=>?_) (λg=>?_)))
 ·refine Dr.i h1 (λw2 a=>⟨_,rfl,ld a 1 rfl rfl rfl (ld a 0 rfl rfl rfl (use (Q8 p.at_ (a.fr 4 rfl)) ?_))⟩);rintro _ _ ⟨rfl,rfl⟩;refine⟨_,_,rfl,?_,a.tail⟩;unfold Cs.text;rw[bM d];rfl
 ·refine Dr.i h1 (λw2 a=>⟨_,rfl,ld a 1 rfl rfl rfl (ld a 0 rfl rfl rfl (use (Q8 p.at_ (a.fr 7 rfl)) ?_))⟩);rintro _ _ ⟨rfl,rfl⟩;refine⟨_,_,rfl,?_,a.tail⟩;unfold Cs.text;rw[cM,bM e];rfl
 ·refine Dr.i h1 (λw2 a=>⟨_,rfl,ld a 1 rfl rfl rfl (ld a 0 rfl rfl rfl (ld a 0 rfl rfl rfl (use (PC (p.kf,p.ki) (a.fr 9 rfl)) ?_)))⟩);rintro _ j ⟨rfl,c⟩;have c:Sep E (bE b p.vs::(cd A S++L)) j:=c.put (q:=9) rfl;refine⟨_,_,rfl,?_,c.tail⟩;unfold Cs.text;rw[bJ f,bJ g];rfl
def Rp{p b u:Nat}{s:eJ}{f:Sl}{l:bU}(at_:Int)(g:Ints E L f l)(m:l.length<=64)(h:Sep E (fY p s.bK::ga b s.bK.length s.cG::c6 u s.used::L) w):
  Calls P rR #[.agg #[Pb p,Pb b,Pb u],Iv at_,Sv f] w
  (bW λv w'=>v=.tuple #[]/\Sep E (fY p (s.di at_ l).bK::ga b (s.di at_ l).bK.length (s.di at_ l).cG::c6 u (s.di at_ l).used::L) w'):=by
 apply Xq;unfold LU qQ qZ;refine Al.i h (λq i h1=>?_);have h1:Sep E (bE q [Pb p,Pb b,Pb u]::fY p s.bK::ga b s.bK.length s.cG::c6 u s.used::L) i:=h1;refine ld h1 0 rfl rfl rfl (use (aAU at_ (h1.fr 2 rfl)) ?_);rintro _ w2 ⟨rfl,a⟩;have a:Sep E (bE q [Pb p,Pb b,Pb u]::fY p s.bK::ga b s.bK.length (By.cl s.bK.length s.cG at_).1::c6 u s.used::L) w2:=a.put (q:=2) rfl;refine⟨_,rfl,ld a 0 rfl rfl rfl (use (ZL (a.fr 1 rfl) at_) ?_)⟩;rintro _ j ⟨rfl,c⟩;have c:Sep E (bE q [Pb p,Pb b,Pb u]::fY p (mJ s.bK at_).1::ga b s.bK.length (By.cl s.bK.length s.cG at_).1::c6 u s.used::L) j:=c.put (q:=1) rfl;refine⟨_,rfl,ld c 0 rfl rfl rfl (use (Aj g.cons.cons.cons bA 1 (c.fr 3 rfl)) ?_)⟩;rintro _ k ⟨rfl,d⟩;have d:Sep E (bE q [Pb p,Pb b,Pb u]::fY p (mJ s.bK at_).1::ga b s.bK.length (By.cl s.bK.length s.cG at_).1::c6 u (fJ s.used l 1).1::L) k:=d.ro 4 [1,2,3,0] rfl;refine⟨_,rfl,rfl,?_⟩;have e:(s.di at_ l).bK.length=s.bK.length:=pP _ _;rw[e];exact d.tail
end Go.Mp
namespace Go.Sp
open Go
variable{E:Env}{L Q:ch}{X:Asn}{w:World}
def Sep.eA(h:Sep E (X::(Q++L)) w):Sep E (Q++X::L) w:=h.perm il.symm
def Sep.mh(h:Sep E (Q++X::L) w):Sep E (X::(Q++L)) w:=h.perm il
def Sep.cut(h:Sep E (Q++X::L) w):Sep E (Q++L) w:=h.mh.tail
def Sep.right(h:Sep E (Q++L) w):Sep E L w:=(h.perm lO).left
end Go.Sp
namespace Go.Mp
open Go Go.Vc Go.Sp Go.Proofs Go.Kc
variable{E:Env}{L:ch}{w:World}{A:At}{S:Cs}
def _root_.Go.Sp.Ints.er{s:Sl}{gs:bU}{q:Nat}(a:Ints E L s gs)(b:q<16):Ints E ((cd A S++L).eraseIdx q) s gs:=
 a.of (λ_ h=>by
  rw[List.eraseIdx_append_of_lt_length (show q<(cd A S).length from b)]at h;exact h.right)
def _root_.Go.Sp.Ints.pre{s:Sl}{gs:bU}(a:Ints E L s gs):Ints E (cd A S++L) s gs:=a.of (λ_ h=>h.right)
def Rq(id:Int)(p:Pg)(h:Sep E (cd A S++L) w):Calls P CT #[Pb A.c,Iv id,.agg p.vs.toArray] w (bW λv w'=>v=.tuple #[]/\Sep E (cd A (S.clean id p)++L) w'):=by
 apply Xp;unfold LS qG qL qQ qY qZ qh qy zJ zZ;refine Al.i h (λb n h1=>?_);have h1:Sep E (cd A S++bE b p.vs::L) n:=Sep.eA h1;have j:(0<=p.kf/\p.e6=true)=False->∀w',Sep E (cd A S++bE b p.vs::L) w'->Sep E (cd A (S.clean id p)++L) w':=by
  intro hf w' h';have:S.clean id p=S:=by unfold Cs.clean;rw[bJ (by rw[hf];exact not_false)]
  rw[this];exact h'.cut
 refine⟨λx w'=>(x=true↔(0<=p.kf/\p.e6=true))/\Sep E (cd A S++bE b p.vs::L) w',ld h1 16 rfl rfl rfl (hk (λi=>ld h1 16 rfl rfl rfl ⟨⟨λc=>⟨i,c⟩,λc=>c.2⟩,h1⟩) (λs=>⟨⟨λc=>(by cases c),λc=>bA⟩,h1⟩)),?_⟩;rintro _ x w2 ⟨hx,g⟩;refine cw (λl=>?_) (λk=>⟨rfl,j (by rw[<- hx,k];simp) _ g⟩);have m:=hx.1 l;refine Dr.i g (λt f=>⟨_,rfl,ld f 0 rfl rfl rfl ?_⟩)
 iterate 11 refine ld f 16 rfl rfl rfl ?_
 refine use (As p f) ?_;rintro _ u ⟨rfl,e⟩;refine⟨_,rfl,ld e 16 rfl rfl rfl (ld e 16 rfl rfl rfl ⟨rfl,ld e 0 rfl rfl rfl ⟨rfl,use (aBR (p.kf,p.ki) (S.text p) (e.fr 8 rfl)) ?_⟩⟩)⟩;rintro _ o ⟨rfl,a⟩;have a:=a.put (q:=8) rfl;have a:Sep E (cd A {S with files:=(np S.files (p.kf,p.ki) (S.text p)).1} ++bE b p.vs::L) o:=a;refine⟨_,rfl,_,rfl,ld a 0 rfl rfl rfl (use (Tp.Ri id false (a.fr 11 rfl)) ?_)⟩;rintro _ r ⟨rfl,d⟩;have d:=d.put (q:=11) rfl;have d:Sep E (cd A {S with files:=(np S.files (p.kf,p.ki) (S.text p)).1,bz:=(S.bz.mark id false).1} ++bE b p.vs::L) r:=d;refine⟨_,rfl,rfl,?_⟩;have:S.clean id p= {S with files:=(np S.files (p.kf,p.ki) (S.text p)).1,bz:=(S.bz.mark id false).1} :=by unfold Cs.clean;rw[bM m]
 rw[this];exact d.cut
def cy.open{H:Array Obj}(h:Sep E (cy H::L) w):(∃o,w.heap[2]?=some o/\p1 o)/\Sep E (dZ H::L) w:=by
 obtain⟨⟨o,ho,a⟩,h⟩:=Sep.cC.1 h;exact⟨⟨o,by rw[h.j5 2 (pv.1 ho).1];exact ho,a⟩,h⟩
def Rr{p:Nat}{T:List Bool}{H:Array Obj}{M:ch}{q:Nat}(a:M[q]?=some (cy H))(h:Sep E (fY p T::M) w):Calls P tK #[Pb p] w
  (bW λv w'=>v=.tuple #[Iv (fQ T).2.1,Iv (fQ T).2.2]/\Sep E (fY p (fQ T).1::M) w'):=by
 obtain⟨⟨o,ho,b⟩,_⟩:=cy.open (h.fr (q+1) (by simpa using a));exact ZK b h ho
def aLI(id:Int)(p:Pg){x:Sl}{l:bU}(s:Ints E L x l)(N:l.length<=64)(h:Sep E (cd A S++L) w):Calls P J5 #[Pb A.c,Iv id,.agg p.vs.toArray,Sv x] w
  (bW λv w'=>v=.bool (S.fa id p l).2/\Sep E (cd A (S.fa id p l).1++L) w'):=by
 apply YE;unfold MV qD qG qO qQ qW qY qZ qj zJ;refine Al.i h (λb G h1=>?_);have h1:Sep E (cd A S++bE b p.vs::L) G:=Sep.eA h1;have R:=s.1;refine⟨λi w'=>(∃k:Nat,i=k/\k<=l.length/\(l.take k).any (λg=>decide (db S.sl.used g<=cJ S.sl.used g))=false)/\Sep E (cd A S++bE b p.vs::L) w',λi _=>(l.length-i).toNat,⟨⟨0,rfl,ec _,rfl⟩,h1⟩,?_⟩;rintro _ i w2 ⟨⟨k,rfl,O,d⟩,m⟩;refine cL (λK=>?_) (λJ=>?_)
 ·have n:k<l.length:=by omega
  obtain⟨g,t⟩:∃g,l[k]?=some g:=⟨_,dD n⟩
  refine s.cons.pre.el m k rfl t ?_;refine Dr.i m (λu a=>⟨_,rfl,ld a 0 rfl rfl rfl ?_⟩);refine use (wD g a) ?_;rintro _ C ⟨rfl,c⟩;refine⟨_,rfl,ld c 0 rfl rfl rfl ⟨rfl,use (aKn c (q:=7) rfl g) ?_⟩⟩;rintro _ H ⟨rfl,f⟩;refine⟨_,rfl,hk (λz=>?_) (λz=>?_)⟩
  ·have:S.fa id p l=(S,false):=by
    unfold Cs.fa;rw[bM (sK.2 ⟨g,eu t,dh z⟩)]
   rw[this];exact⟨rfl,f.cut⟩
  ·rw[c1];refine⟨⟨⟨k+1,rfl,n,?_⟩,f⟩,by show(((l.length:Nat):Int)-((k+1:Nat):Int)).toNat<(((l.length:Nat):Int)-(k:Int)).toNat;omega⟩;have B:¬ db S.sl.used g<=cJ S.sl.used g:=by have M:S.swap g=cJ S.sl.used g:=rfl;omega
   rw[fw t,He,d];simp[B]
 ·have:k=l.length:=by omega
  subst this;rw[fN]at d;refine⟨_,rfl,ld m 0 rfl rfl rfl (use (Rr (q:=14) rfl (m.fr 5 rfl)) ?_)⟩;rintro _ u ⟨rfl,a⟩;have a:=a.put (q:=5) rfl;refine⟨_,_,rfl,gV (λhf=>?_) (λhe=>?_)⟩
  ·have e:S.fa id p l=(S,false):=by
    unfold Cs.fa;rw[bJ (by rw[d];decide)];simp only;rw[bM hf]
   have D:=(B3 hf).2;rw[D]at a;rw[e];have a:Sep E (cd A S++bE b p.vs::L) u:=a;exact⟨rfl,a.cut⟩
  ·have e:S.fa id p l=({S with sl:=⟨(fQ S.sl.bK).1,(By.wr (fQ S.sl.bK).1.length S.sl.cG (fQ S.sl.bK).2.1 (S.text p)).1,(df S.sl.used l 1).1⟩,bz:=(S.bz.put id 2 (fQ S.sl.bK).2.1).1},true):=by
    unfold Cs.fa;rw[bJ (by rw[d];decide)];simp only;rw[cM]
   have o:=BQ S.sl.bK;have a:Sep E (cd A {S with sl:=⟨(fQ S.sl.bK).1,S.sl.cG,S.sl.used⟩} ++bE b p.vs::L) u:=by
    unfold cd;simp only;rw[o];exact a
   rw[e];refine⟨_,rfl,ld a 0 rfl rfl rfl (use (Q1 (s.cons.er bO) bA 1 (a.fr 7 rfl)) ?_)⟩;rintro _ C ⟨rfl,c⟩;have c:=c.put (q:=7) rfl;have c:Sep E (cd A {S with sl:=⟨(fQ S.sl.bK).1,S.sl.cG,(df S.sl.used l 1).1⟩} ++bE b p.vs::L) C:=c;refine⟨_,_,rfl,Dr.i c (λH f=>⟨_,rfl,ld f 0 rfl rfl rfl ?_⟩)⟩
   iterate 9 refine ld f 16 rfl rfl rfl ?_
   have F:({S with sl:=⟨(fQ S.sl.bK).1,S.sl.cG,(df S.sl.used l 1).1⟩} :Cs).text p=S.text p:=by
    unfold Cs.text;simp only;rw[o]
   refine use (As p f) ?_;rintro _ T ⟨rfl,y⟩;rw[F];refine⟨_,rfl,ld y 0 rfl rfl rfl ⟨rfl,use (Q9 (fQ S.sl.bK).2.1 _ (y.fr 6 rfl)) ?_⟩⟩;rintro _ I ⟨rfl,j⟩;have j:=j.put (q:=6) rfl;have j:Sep E (cd A {S with sl:=⟨(fQ S.sl.bK).1,(By.wr (fQ S.sl.bK).1.length S.sl.cG (fQ S.sl.bK).2.1 (S.text p)).1,(df S.sl.used l 1).1⟩} ++bE b p.vs::L) I:=j;refine⟨_,rfl,_,rfl,ld j 0 rfl rfl rfl (use (Tp.uo id 2 _ (j.fr 11 rfl)) ?_)⟩;rintro _ U ⟨rfl,r⟩;have r:=r.put (q:=11) rfl;refine⟨_,rfl,rfl,?_⟩;exact Sep.cut (Q:=cd A {S with sl:=⟨(fQ S.sl.bK).1,(By.wr (fQ S.sl.bK).1.length S.sl.cG (fQ S.sl.bK).2.1 (S.text p)).1,(df S.sl.used l 1).1⟩,bz:=(S.bz.put id 2 (fQ S.sl.bK).2.1).1}) r
def Rs{a:Sl}{l:bU}(at_:Int)(c:Ints E L a l)(d:l.length<=64)(h:Sep E (cd A S++L) w):
  Calls P rR #[.agg #[Pb A.fp,Pb A.fb,Pb A.fu],Iv at_,Sv a] w
  (bW λv w'=>v=.tuple #[]/\Sep E (cd A {S with fr:=S.fr.di at_ l} ++L) w'):=by
 have h1:=h.ro 16 [2,3,4,0,1,5,6,7,8,9,10,11,12,13,14,15] rfl;refine use (Rp (s:=S.fr) at_ c.cons.cons.cons.cons.cons.cons.cons.cons.cons.cons.cons.cons.cons d h1) ?_;rintro _ e ⟨rfl,b⟩;exact⟨_,rfl,rfl,b.ro 16 [3,4,0,1,2,5,6,7,8,9,10,11,12,13,14,15] rfl⟩
def Rt{a:Sl}{l:bU}(at_:Int)(c:Ints E L a l)(d:l.length<=64)(h:Sep E (cd A S++L) w):
  Calls P rR #[.agg #[Pb A.sp,Pb A.sb,Pb A.su],Iv at_,Sv a] w
  (bW λv w'=>v=.tuple #[]/\Sep E (cd A {S with sl:=S.sl.di at_ l} ++L) w'):=by
 have h1:=h.ro 16 [5,6,7,0,1,2,3,4,8,9,10,11,12,13,14,15] rfl;refine use (Rp (s:=S.sl) at_ c.cons.cons.cons.cons.cons.cons.cons.cons.cons.cons.cons.cons.cons d h1) ?_;rintro _ e ⟨rfl,b⟩;exact⟨_,rfl,rfl,b.ro 16 [3,4,5,6,7,0,1,2,8,9,10,11,12,13,14,15] rfl⟩
def aHM{g c:Int}(a:fx g=true):0<=s5 g c/\s5 g c<18446744073709551616:=by
 have d:0<=g/\g<64:=by simpa[fx]using a
 unfold s5;have h1:top=1099511627776:=rfl;have e:=Hf c (b:=top) bA;have f:=Int.emod_lt_of_pos c (b:=top) bA;omega
def aLq(l:bU)(g:Int):0<=(dx l g).2/\(dx l g).2<18446744073709551616:=by
 unfold dx;split;·exact⟨by simp,by simp⟩
 ·next h=>
  simp only;split;·exact⟨bA,bA⟩
  ·exact aHM (by simpa using h)
def Ru:mQ P Cj=some (hb,.int .u64 0):=by kernel_rfl
def nL.Ff{m:Nat}{f:Int->Option Int}(h:Sep E (nL m f::L) w){id x:Int}(hx:0<=x/\x<18446744073709551616){G:bh6}(g:∀a,Sep E (nL m (cK f id (some x))::L) a->G a):
  ∃a,Sem.run P (Instr.mapUpdate Cj (.map (some m)) (Iv id) (.int .u64 x)) w=.ok () a/\G a:=by
 obtain⟨d,h1⟩:=Sep.cC.1 h;refine mapUpdate.i h1 Tp.mg Ru id _ (λa c=>g a (Sep.cC.2 ⟨λk y b=>?_,?_⟩))
 ·unfold cK at b;split at b;·cases b;exact hx
  ·exact d k y b
 ·have e:cK (λk=>(f k).map (Value.int .u64)) id (some (.int .u64 x))= λk=>(cK f id (some x) k).map (Value.int .u64):=by
   funext k;unfold cK;split<;>rfl
  rw[e]at c;exact c
def aMq(id:Int)(hw:Kt.WF S.tree)(G:Kc.Good S.bY)(h:Sep E (cd A S++L) w):Calls P JN #[Pb A.c,Iv id] w
  (bW λv w'=>v=.bool (S.out id).2/\Sep E (cd A (S.out id).1++L) w'):=by
 apply X0;unfold Ml qE qF qJ qL qM qP qQ qU qV qX qY qZ qg zS zU;refine⟨_,rfl,ld h 0 rfl rfl rfl (use (Tp.pd id (h.fr 11 rfl)) ?_)⟩;rintro _ I ⟨rfl,h1⟩;have h1:Sep E (cd A S++L) I:=h1.put (q:=11) rfl;obtain⟨p,hp⟩:∃p,(S.bz.get id).1=p:=⟨_,rfl⟩
 rw[hp];refine⟨_,_,_,_,_,_,_,_,_,_,rfl,Al.i h1 (λb w2 F=>eh (vs:=p.vs) _ F rfl (λJ n=>?_))⟩;have n:Sep E (cd A S++bE b p.vs::L) J:=Sep.eA n;refine Dr.i n (λW o=>⟨_,rfl,ld o 0 rfl rfl rfl (ld o 16 rfl rfl rfl (use (rW hw (o.fr 1 rfl)) ?_))⟩);rintro _ K ⟨j,rfl,y,d⟩;have d:=d.g1 (q:=1) rfl;have d:Sep E (cd A S++bC j 1 (bD (S.chain p.owner))::bE b p.vs::L) K:=Sep.eA (Q:=cd A S) d;have s:Ints E (bC j 1 (bD (S.chain p.owner))::bE b p.vs::L) j (S.chain p.owner):=Ints.row y;have m:(S.chain p.owner).length<=64:=p4 hw _;let O:Cs×Bool:=if 0<=p.kf then({S.clean id p with bz:=((S.clean id p).bz.put id 0 0).1},true)else S.fa id p (S.chain p.owner)
 have t:S.out id=if O.2=true then(O.1.leave id p (S.chain p.owner),true)else(S,false):=by
  unfold Cs.out;rw[hp];simp only[O];split;·rfl
  ·rfl
 have l:O.1.bY=S.bY:=by
  simp only[O];split;·unfold Cs.clean;split<;>rfl
  ·unfold Cs.fa;split;·rfl
   ·simp only;split<;>rfl
 refine⟨_,rfl,λw'=>O.2=true/\Sep E (cd A O.1++bC j 1 (bD (S.chain p.owner))::bE b p.vs::L) w',ld d 17 rfl rfl rfl (hk (λz=>?_) (λR=>?_)),?_⟩
 ·iterate 9 refine ld d 17 rfl rfl rfl ?_
  refine use (Rq id p d) ?_;rintro _ C ⟨rfl,f⟩;refine⟨rfl,_,rfl,ld f 0 rfl rfl rfl (use (Tp.uo id 0 0 (f.fr 11 rfl)) ?_)⟩;rintro _ M ⟨rfl,g⟩;have g:=g.put (q:=11) rfl;have e:O=({S.clean id p with bz:=((S.clean id p).bz.put id 0 0).1},true):=bM z;rw[e];exact⟨_,rfl,rfl,g⟩
 ·iterate 9 refine ld d 17 rfl rfl rfl ?_
  refine use (aLI id p s m d) ?_;rintro _ C ⟨rfl,f⟩;have e:O=S.fa id p (S.chain p.owner):=cM;refine⟨_,rfl,cw (λhf=>?_) (λH=>⟨by rw[e];simpa using H,by rw[e];exact f⟩)⟩;have hf:(S.fa id p (S.chain p.owner)).2=false:=by simpa using hf
  rw[t,e,bJ (by rw[hf];decide)];have D:(S.fa id p (S.chain p.owner)).1=S:=by
   unfold Cs.fa at hf ⊢;split;·rfl
   ·next i=>
    rw[bJ i]at hf;simp only at hf ⊢;split;·rfl
    ·next a=>rw[bJ a]at hf;cases hf
  rw[D]at f;exact⟨rfl,f.cut.cut⟩
 rintro _ C ⟨u,f⟩;rw[t,bM u];obtain⟨T,x⟩:∃T,O.1=T:=⟨_,rfl⟩
 rw[x]at f ⊢;rw[x]at l;refine Dr.i f (λM g=>⟨_,rfl,ld g 0 rfl rfl rfl (ld g 0 rfl rfl rfl (ld g 0 rfl rfl rfl (ld g 17 rfl rfl rfl ?_)))⟩);refine use (Rs p.at_ s m g) ?_;rintro _ X ⟨rfl,r⟩;refine⟨rfl,_,rfl,ld r 0 rfl rfl rfl (use (Gp.wA (by show Kc.Good T.bY;rw[l];exact G) id (r.fr 9 rfl)) ?_)⟩;rintro _ N ⟨rfl,i⟩;have i:=i.put (q:=9) rfl;have i:Sep E (cd A {T with fr:=T.fr.di p.at_ (S.chain p.owner),bY:=(iT T.bY id).1} ++bC j 1 (bD (S.chain p.owner))::bE b p.vs::L) N:=i;refine⟨_,rfl,Dr.i i (λU a=>⟨_,rfl,ld a 0 rfl rfl rfl ⟨_,rfl,ld a 0 rfl rfl rfl (ld a 17 rfl rfl rfl (use (aLH (a.fr 10 rfl) p.owner) ?_))⟩⟩)⟩;rintro _ B ⟨rfl,c⟩;have c:=c.put (q:=10) rfl;have c:Sep E (cd A {T with fr:=T.fr.di p.at_ (S.chain p.owner),bY:=(iT T.bY id).1,log:=(dx T.log p.owner).1} ++bC j 1 (bD (S.chain p.owner))::bE b p.vs::L) B:=c;refine⟨_,rfl,ld c 0 rfl rfl rfl ⟨rfl,nL.Ff (c.fr 12 rfl) (aLq _ _) (λV k=>?_)⟩⟩;have k:=k.put (q:=12) rfl;exact⟨rfl,Sep.cut (Sep.cut (Q:=cd A (T.leave id p (S.chain p.owner))) k)⟩
def Rv(id:Int)(h:Sep E (cd A S++L) w):Calls P CP #[Pb A.c,Iv id] w
  (bW λv w'=>v=.tuple #[Iv (S.here id).1,.bool (S.here id).2]/\Sep E (cd A S++L) w'):=by
 apply Xg;unfold LI qL qU qV qX qZ;refine⟨_,rfl,ld h 0 rfl rfl rfl (use (Tp.pd id (h.fr 11 rfl)) ?_)⟩;rintro _ i ⟨rfl,h1⟩;have h1:Sep E (cd A S++L) i:=h1.put (q:=11) rfl;obtain⟨p,hp⟩:∃p,(S.bz.get id)=p:=⟨_,rfl⟩
 have g:S.here id=(p.1.at_,p.2==0&&p.1.place==1):=by unfold Cs.here;rw[hp]
 rw[hp,g];refine⟨_,_,_,_,_,_,_,_,_,_,rfl,Al.i h1 (λb w2 f=>eh (vs:=p.1.vs) _ f rfl (λj c=>?_))⟩;have c:Sep E (cd A S++bE b p.1.vs::L) j:=Sep.eA c;refine Dr.i c (λk a=>ld a 16 rfl rfl rfl (eD (λe=>ld a 16 rfl rfl rfl ⟨?_,a.cut⟩) (λd=>⟨?_,a.cut⟩)));·rw[e];simp
 ·rw[show(p.2==0)=false by simpa using d];simp
def Rw(id at_ g:Int)(t:List UInt8)(dZ:Bool)(G:Kc.Good S.bY)(h:Sep E (cd A S++L) w):Calls P DC #[Pb A.c,Iv id,Iv at_,Iv g,hl t,.bool dZ] w
  (bW λv w'=>v=.tuple #[]/\Sep E (cd A (S.place id at_ g t dZ)++L) w'):=by
 apply YI;unfold MZ qQ qZ;refine⟨_,rfl,ld h 0 rfl rfl rfl (use (Q9 at_ _ (h.fr 3 rfl)) ?_)⟩;rintro _ d ⟨rfl,h1⟩;have h1:=h1.put (q:=3) rfl;have h1:Sep E (cd A {S with fr:={S.fr with cG:=(By.wr S.fr.bK.length S.fr.cG at_ t).1}} ++L) d:=h1;refine⟨_,rfl,_,rfl,ld h1 0 rfl rfl rfl (use (Tp.Rh id g (h1.fr 11 rfl)) ?_)⟩;rintro _ w2 ⟨rfl,a⟩;have a:=a.put (q:=11) rfl;have a:Sep E (cd A {S with fr:={S.fr with cG:=(By.wr S.fr.bK.length S.fr.cG at_ t).1},bz:=(S.bz.own id g).1} ++L) w2:=a;refine⟨_,rfl,_,rfl,ld a 0 rfl rfl rfl (use (Tp.uo id 1 at_ (a.fr 11 rfl)) ?_)⟩;rintro _ e ⟨rfl,b⟩;have b:=b.put (q:=11) rfl;have b:Sep E (cd A {S with fr:={S.fr with cG:=(By.wr S.fr.bK.length S.fr.cG at_ t).1},bz:=((S.bz.own id g).1.put id 1 at_).1} ++L) e:=b;refine⟨_,rfl,_,rfl,ld b 0 rfl rfl rfl (use (Gp.Ez G id g dZ (b.fr 9 rfl)) ?_)⟩;rintro _ f ⟨rfl,c⟩;have c:=c.put (q:=9) rfl;exact⟨_,rfl,rfl,c⟩
def ea(l:List Bool):List Value:=l.map Value.bool
@[simp] theorem aLx(l:List Bool):(ea l).length=l.length:=by simp[ea]
@[simp] theorem Rx(l:List Bool)(i:Nat):(ea l)[i]?=l[i]?.map Value.bool:=by simp[ea]
def aMh(n:Nat):((List.range (((n:Nat):Int).toNat*1)).map λi=>(([Value.bool false]:List Value).toArray)[i%([Value.bool false]:List Value).length]!)=ea (List.replicate n false):=by
 rw[dk,fC];apply g6;intro i;rw[ew,Rx,lN];by_cases a:i<n
 ·rw[my a,bM a];simp[Nat.mod_one]
 ·rw[fH (by simpa using a),bJ a];rfl
def aHr{n:Nat}(c:n<1000000)(h:Sep E L w){G:Sl->bh6}(k:∀s a,s.n=n->Sep E (bC s 1 (ea (List.replicate n false))::L) a->G s a):
  ∃x:Sl,∃a,Sem.run P (Instr.makeSlice lE (Iv ((n:Nat):Int)) (Iv ((n:Nat):Int))) w=.ok (Sv x) a/\G x a:=by
 refine makeSlice.i h (by kernel_rfl:g9 P lE=some (1,1,[.bool false])) bA (e7 _) bA bA (λb a h1=>k _ a (by simp) ?_);rw[aMh]at h1;exact bC.make (spare:=[]) (by simpa using h1) (by simp) (by simp) (dN _)
def aMu{s:Sl}{l:List Bool}{i:Int}{x:Bool}{F:bh6}(h:Sep E (bC s 1 (ea l)::L) w)(f:s.n=l.length)(d:0<=i)(h1:i<l.length)(k:∀c,Sep E (bC s 1 (ea (l.set i.toNat x))::L) c->F c):cx s.p s.n i 1 λa=>St a (.bool x) F w:=by
 refine bC.el 0 h rfl d bA (λb e _=>?_);rw[fC];refine bC.st h e (by simp;omega) (λc h1=>k c ?_);have:ea (l.set i.toNat x)=(ea l).set i.toNat (.bool x):=by simp[ea,hq]
 rw[this];exact h1
def wE{s:Sl}{l:List Bool}{i:Int}{F:Bool->Prop}(q:Nat)(h:Sep E L w)(e:L[q]?=some (bC s 1 (ea l)))(f:s.n=l.length)(c:0<=i)(h1:i<l.length)(k:F (hg l i)):cx s.p s.n i 1 λa=>∃x:Bool,w.cell? a=some (.bool x)/\F x:=by
 refine bC.el q h e c bA (λb _ d=>⟨_,?_,k⟩);have:=d 0 bA;rw[lu]at this;rw[this,Rx,fC,dD (show i.toNat<l.length by omega)];unfold hg;rw[dK,dD (show i.toNat<l.length by omega)];rfl
def Ry:g9 P yi=some (24,3,[Iv 0,Iv 0,Iv 0]):=by kernel_rfl
def aHu{s:Sl}{q:Nat}{l:List eB}{x:eB}(b:s.n=l.length)(j:l.length<1000000)(h:Sep E (bE q x.vs::en s l::L) w){G:Sl->bh6}(g:∀s' a,s'.n=l.length+1->Sep E (en s' (l++[x])::L) a->G s' a):
  ∃e:Sl,∃a,Sem.run P (Builtin.append_ #[yi,yi] yi #[Sv s,.slice (some ⟨q,0,none⟩) 1 1]) w=.ok (Sv e) a/\G e a:=by
 have f:=Src.bE (n:=1) (c:=1) h (i:=0) rfl Ry rfl (λu hu=>by simp[eB.vs]at hu;rcases hu with rfl|rfl|rfl<;>rfl);refine bC.append h.swap Ry rfl f bA (by rw[b];omega) (λs' a d h1=>?_);refine g s' a (by rw[d,b]) ?_;unfold en;rw[mX,o4];exact(h1.fr 0 rfl).ro 2 [0] rfl
def Cs.ur(S:Cs)(own:eH->Int)(g:Nat):eB:=if S.live g then⟨((S.tree[g]?).map Kt.G.up).getD (-1),S.memory g,own (S.mP g)⟩else⟨((S.tree[g]?).map Kt.G.up).getD (-1),0,0⟩
def Rz(own:eH->Int){k:Nat}(a:k<S.guards.length):(S.nodes own)[k]?=some (Cs.ur S own k):=by
 unfold Cs.nodes Cs.ur;rw[ew,my a];rfl
def Fg(own:eH->Int):(S.nodes own).length=S.guards.length:=by simp[Cs.nodes]
def wF(t:Int)(own:eH->Int):(S.held t own).length=S.guards.length:=by simp[Cs.held,Fg]
def aI9(t:Int)(own:eH->Int){k:Nat}(a:k<S.guards.length):(S.held t own)[k]?=some (nr (S.nodes own) (mM (S.nodes own) t) t k):=by
 unfold Cs.held;simp only;rw[ew,my (by rw[Fg];exact a)];rfl
def iA.open{s:Sl}{l:List eH}(h:Sep E (iA s l::L) w):s.n=l.length/\Sep E (bC s 3 (bQ eH.vs l)::L) w:=Sep.cC.1 h
def jb.open{s:Sl}{l:List Kt.G}(h:Sep E (jb s l::L) w):s.n=l.length/\Sep E (bC s 1 (bD (l.map Kt.G.up))::L) w:=Sep.cC.1 h
def Fh(E:Env)(own:Value)(ef:eH->Int):Prop:=∀(L:ch) (x:eH) (w:World),Sep E L w->eX P own #[.agg #[Iv x.min,Iv x.low,.bool x.whole]] w λe w'=>e=.returned (Iv (ef x))/\Sep E L w'
def RA:Fh E (.func (.func vz) #[] #[]) eH.min:=by
 intro L x w h;refine⟨vz,_,rfl,by kernel_rfl,?_⟩;refine use (K:=λv w'=>v=Iv x.min/\Sep E L w') (W8 _ _ _ (Al.i h (λb d h1=>⟨_,h1.cell 0,rfl,h1.tail⟩))) (λv w' ⟨c,a⟩=>⟨by rw[c],a⟩)
def RB:Fh E (.func (.func vA) #[] #[]) eH.low:=by
 intro L x w h;refine⟨vA,_,rfl,by kernel_rfl,?_⟩;refine use (K:=λv w'=>v=Iv x.low/\Sep E L w') (W9 _ _ _ (Al.i h (λb d h1=>⟨_,h1.cell 1,rfl,h1.tail⟩))) (λv w' ⟨c,a⟩=>⟨by rw[c],a⟩)
def Au{t:Int}{own:Value}{ef:eH->Int}(N:Fh E own ef)(aq:S.guards.length=S.tree.length)(am:S.guards.length<=64)(hu:∀g,S.memory g<2147483648)(h:Sep E (cd A S++L) w):
  Calls P rQ #[Pb A.c,Iv t,own] w (bW λv w'=>∃e:Sl,v=Sv e/\e.n=(S.held t ef).length/\Sep E (cd A S++bC e 1 (ea (S.held t ef))::L) w'):=by
 apply W7;unfold LA qD qF qJ qK qO qQ qU qW qZ qa qf qg qi ql qx;have U:=(iA.open (h.fr 13 rfl)).1;have ad:=(jb.open (h.fr 14 rfl)).1;have B:=Fg (S:=S) ef;refine⟨_,rfl,A.gs,h.cellAt 0 rfl 12,?_⟩;refine⟨λs i w'=>∃k:Nat,i=k/\k<=S.guards.length/\s.n=k/\Sep E (cd A S++en s ((S.nodes ef).take k)::L) w',λ_ i _=>(S.guards.length-i).toNat,⟨0,rfl,ec _,rfl,Sep.eA (bC.none_ h)⟩,?_⟩;rintro _ s _ ao ⟨k,rfl,X,ar,h1⟩;refine cL (λZ=>?_) (λT=>?_)
 ·have c:k<S.guards.length:=by omega
  obtain⟨x,hx⟩:∃x,S.guards[k]?=some x:=⟨_,dD c⟩
  obtain⟨y,O⟩:∃y,S.tree[k]?=some y:=⟨_,dL⟩
  have an:S.mP (k:Int)=x:=by unfold Cs.mP;rw[dk,dK,hx];rfl
  obtain⟨m,z⟩:∃m,Cs.ur S ef k=m:=⟨_,rfl⟩
  refine kZ eH.lJ 0 (iA.open (h1.fr 13 rfl)).2 rfl U rfl hx (λb _ I=>⟨x.min,by rw[cj];exact I 0 _ rfl,x.low,by rw[cj];exact I 1 _ rfl,x.whole,by rw[cj];exact I 2 _ rfl,?_⟩);refine Al.i h1 (λl w2 H=>eh (vs:=eH.vs x) _ H rfl (λag d=>?_));have d:Sep E (cd A S++bE l (eH.vs x)::en s ((S.nodes ef).take k)::L) ag:=Sep.eA d;refine⟨_,rfl,A.us,d.cellAt 0 rfl 13,?_⟩;refine(Ints.at_ (q:=0) rfl (by simpa using ad)).el (jb.open (d.fr 14 rfl)).2 k rfl (by rw[ew,O];rfl) ?_;refine Al.i d (λp ap u=>eh (vs:=[Iv y.up,Iv 0,Iv 0]) _ u rfl (λah f=>?_));have f:Sep E (cd A S++bE p [Iv y.up,Iv 0,Iv 0]::bE l (eH.vs x)::en s ((S.nodes ef).take k)::L) ah:=Sep.eA f;refine⟨λw'=>Sep E (cd A S++bE p m.vs::bE l (eH.vs x)::en s ((S.nodes ef).take k)::L) w',⟨_,rfl,ld f 0 rfl rfl rfl (use (ke f (q:=1) rfl) ?_)⟩,?_⟩
  ·rintro _ _ ⟨rfl,rfl⟩;refine⟨_,rfl,cw (λM=>?_) (λM=>?_)⟩
   ·refine Dr.i f (λai a=>ld a 17 rfl rfl rfl (ld a 17 rfl rfl rfl (ld a 17 rfl rfl rfl (use (uq _ a) ?_))));rintro _ aj ⟨rfl,j⟩;refine⟨_,rfl,ld j 17 rfl rfl rfl (ld j 17 rfl rfl rfl (ld j 17 rfl rfl rfl ⟨rfl,eX.use (N _ x _ j) ?_⟩))⟩;rintro e ak ⟨rfl,r⟩;have r:Sep E (bE p [Iv y.up,Iv 0,Iv 0]::(cd A S++bE l (eH.vs x)::en s ((S.nodes ef).take k)::L)) ak:=r.mh;refine⟨_,rfl,St.i r (by simp) (λav al=>St.i al (by simp) (λau R=>?_))⟩;have e:m=⟨y.up,S.memory k,ef x⟩:=by
     rw[<- z];unfold Cs.ur;rw[bM (show S.live k=true from M),O,an];rfl
    rw[e];exact Sep.eA R
   ·have e:m=⟨y.up,0,0⟩:=by
     rw[<- z];unfold Cs.ur;rw[bJ (by rw[show S.live k=false from M];decide),O];rfl
    rw[e];exact f
  ·intro _ ai a;refine ld a 16 rfl rfl rfl (ld a 16 rfl rfl rfl (ld a 16 rfl rfl rfl (Al.i a (λaf aj j=>?_))));have j:Sep E (bE af m.vs::en s ((S.nodes ef).take k)::(cd A S++bE p m.vs::bE l (eH.vs x)::L)) aj:=(j.fr 19 rfl).swap;refine aHu (by rw[g7,B];omega) (by rw[g7,B];omega) j (λs' ak ab r=>?_);have F:=Rz (S:=S) ef c;rw[z]at F;rw[<- fw F]at r;rw[c1];refine⟨⟨k+1,rfl,c,by rw[ab,g7,B];omega,Sep.eA (Sep.cut (Q:=en s' ((S.nodes ef).take (k+1))::cd A S) (Sep.cut (Q:=en s' ((S.nodes ef).take (k+1))::cd A S) r))⟩,?_⟩;show(((S.guards.length:Nat):Int)-((k+1:Nat):Int)).toNat<(((S.guards.length:Nat):Int)-(k:Int)).toNat;omega
 ·have Y:k=(S.nodes ef).length:=by omega
  rw[Y,fN]at h1;have h1:Sep E (en s (S.nodes ef)::(cd A S++L)) ao:=h1.mh;have J:=bC.cap h1;refine use (aDO bA bA J (λx hx=>?_) h1) ?_
  ·obtain⟨i,K⟩:=pw.1 hx;have W:i<S.guards.length:=by have:=(cT.1 K).1;omega
   rw[Rz ef W]at K;cases K;unfold Cs.ur;split;·exact hu _
   ·show(0:Int)<2147483648;decide
  rintro _ w2 ⟨e,rfl,he,H⟩;refine⟨e,rfl,?_⟩;refine aHr (n:=s.n) bA H (λae ag C d=>?_);have aa:s.n=S.guards.length:=by omega
  rw[aa]at d C;have o:=wF (S:=S) t ef;refine⟨λx w'=>∃k:Nat,x=k/\k<=S.guards.length/\Sep E (en s (S.nodes ef)::bC e 1 (bD (mM (S.nodes ef) t))::bC ae 1 (ea ((S.held t ef).take k++List.replicate (S.guards.length-k) false))::(cd A S++L)) w',
   λx _=>(S.guards.length-x).toNat,⟨0,rfl,ec _,d.ro 3 [2,1,0] rfl⟩,?_⟩
  rintro _ _ ap ⟨k,rfl,X,u⟩;refine cL (λZ=>?_) (λT=>?_)
  ·have c:k<S.guards.length:=by omega
   refine use (aLC bA he bA u) ?_;rintro _ ah ⟨rfl,f⟩;have V:=aI9 (S:=S) t ef c;have D:((S.held t ef).take k++List.replicate (S.guards.length-k) false).length=S.guards.length:=by simp[o];omega
   refine⟨_,rfl,aMu (f.fr 2 rfl) (by rw[D];exact C) bA (by rw[D];omega) (λai a=>?_)⟩;have G:((S.held t ef).take k++List.replicate (S.guards.length-k) false).set ((k:Nat):Int).toNat (nr (S.nodes ef) (mM (S.nodes ef) t) t k)=(S.held t ef).take (k+1)++List.replicate (S.guards.length-(k+1)) false:=by
    rw[dk,fw V,ik k _ (by simp;omega),dc];congr 1;rw[g7,o,pE X,hG,show S.guards.length-k=(S.guards.length-(k+1))+1 by omega,nV];rfl
   rw[G]at a;rw[c1];refine⟨⟨k+1,rfl,c,a.ro 3 [1,2,0] rfl⟩,?_⟩;show(((S.guards.length:Nat):Int)-((k+1:Nat):Int)).toNat<(((S.guards.length:Nat):Int)-(k:Int)).toNat;omega
  ·have:k=S.guards.length:=by omega
   subst this;rw[hG,<- o,fN,GQ,hF]at u;exact⟨ae,rfl,by rw[o];exact C,Sep.eA u.tail.tail⟩
end Go.Mp
namespace Go.Mp
open Go Go.Vc
def wG(id:Nat):Code->Option (Array Oper)
 |.region i ops _=>bif Nat.beq i id then some ops else none
 |.seq x y=>match wG id x with
  |some o=>some o
  |none=>wG id y
 |_=>none
def wH:dS:={fork:=λr=>[3].contains r,join:=λr=>(bif r==4 then some [(9,.ptr),(10,.ptr)]else none)}
noncomputable def Av:Array Oper:=((Go.Proofs.Tryz.f128.body.bind (wG 3)).getD #[])
def RC(c:cg)(target:Int)(a:Sl)(all:Bool)(K:bh7)(w:World):Prop:=
 Al (.cells #[(Pv c)] 28) (λf w2=>∃o,w2.cell? f=some (Pv o)/\NN o λa4=>∃p,w2.cell? (a4.add 0)=some (Pv p)/\
  Calls P jR #[(Pv p),(Iv target)] w2 λD B=>∃i,D=.returned (.bool i)/\bif(!i)then(K (.bool false) B)else(∃q:Option
  Addr->cg->bh6,(Dr (λv=>gK P fD gG cz wH Av (mI (nf [(9,.ptr),(10,.ptr)] q) (oQ P fD [.tmp 8] K
  (λ_ _=>False))) Av.size (Array.replicate Av.size false) ((((((((((iQ [(Pv c),(Iv target),(.slice a.p a.n
  a.c),(.bool all)] 0 .nil).put (some 4) (Pv (some f))).put (some 8) (.bool false)).put (some 13) (Pv o)).put (some 14) (Pv (some a4))).put (some 15)
  (Pv (some (a4.add 0)))).put (some 16) (Pv p)).put (some 17) (Iv target)).put (some 18) (.bool i)).put (some 19) (.bool (!i))) v) B)/\(∀C:Nat->
  Value,∀b:cg,∀d:cg,∀e:World,q b d e->∃j,e.cell? f=some (Pv j)/\NN j λr=>∃k:
  cg,e.cell? (r.add 8)=some (Pv k)/\Calls P JM #[(Pv k),(Sv a)] e λs x=>∃l:Sl,s
  =.returned (Sv l)/\Al (.cells #[(.slice none 0 0)] 22) (λg y=>St g (Sv l) (λz=>Calls P Dd #[(.func
  (.func JO) #[] #[(Pv b),(Pv d)]),(Pv (some g)),(Pv (some f))] z λt h=>∃m:Bool,t=.returned (.bool
  m)/\bif m then(K (.bool true) h)else(bif all then(Calls P Dd #[(.func (.func JP) #[] #[(Pv b)]),(Pv (some g)),
  (Pv (some f))] h λu A=>∃n,u=.returned (.bool n)/\K (.bool n) A)else(K (.bool false) h))) y) x))) w
def auB(c:cg)(target:Int)(a:Sl)(all:Bool)(K:bh7)(w:World):j3 P fD gG cz wH Go.Proofs.Tryz.f128 #[(.pointer c),(.int .i64 target),(.slice a.p a.n a.c),(.bool all)] K (λ_ _=>False) w=RC c target a all K w:=by kernel_rfl
def atZ:kP P wH Go.Proofs.Tryz.f128 4=true:=by kernel_rfl
def atn(c:cg)(target:Int)(a:Sl)(all:Bool){K:bh7}{w:World}(h:RC c target a all K w):Calls P yI #[(Pv c),(Iv target),(Sv a),(.bool all)] w (bW K):=BO mixed Go.Proofs.Tryz.func128 atZ (by rw[auB];exact h)
end Go.Mp
namespace Go.Vc
open Go
section
variable{P:Program}{τ:TypeId->K1}{ρ:TypeId->Kd}{cz:FuncId->Bool}{A:dS}
def RD{f:Nat->Prop}:∀ {l:List Nat},(∀i∈l,f i)->u9 f l
 |[],_=>trivial
 |_::_,h=>⟨h _ (fj ..),RD (λi a=>h i (fI _ a))⟩
def Aw{ops:Array Oper}{listed:Array Bool}{i:Nat}(h:i∈Region.ready .any ops listed):i<ops.size/\listed.getD i true=false/\
  ∀o,ops[i]?=some o->∀e∈o.after.toList,Region.binds .any e=true->listed.getD e.on false=true:=by
 unfold Region.ready at h;rw[fO,fW]at h;obtain⟨h1,b⟩:=h;simp only[dG,hR]at b;refine⟨h1,b.1,λo ho e he c=>?_⟩;have a:=b.2;rw[ho]at a;simp only[jh,mB]at a;rw[<- Array.all_toList]at a;have:=fB.1 a e he;rw[c]at this;simpa using this
def uu(ops:Array Oper):Bool:=(List.range ops.size).all λi=>match ops[i]? with
 |some o=>o.after.toList.all λe=>Nat.blt e.on i
 |none=>true
def RE{ops:Array Oper}{listed:Array Bool}(f:uu ops=true)(j:Region.ready .any ops listed= []):∀i,i<ops.size->listed.getD i true=true:=by
 intro i;induction i using Nat.strongRecOn with
 |_ i k=>
  intro a;cases c:listed.getD i true with
  |true=>rfl
  |false=>
   exfalso;have ho:ops[i]?=some ops[i]:=oH a;have hm:i∈Region.ready .any ops listed:=by
    unfold Region.ready;rw[fO,fW];refine⟨a,?_⟩;rw[c,ho];simp only[Bool.not_false,lr,jh,mB];rw[<- Array.all_toList,fB];intro e he;have g:e.on<i:=by
     unfold uu at f;have:=fB.1 f i (fW.2 a);rw[ho]at this;exact TV (fB.1 this e he)
    have h1:=k e.on g bA;have h:listed.getD e.on false=true:=by
     rw[iC]at h1 ⊢;cases d:listed[e.on]? with
     |some b=>rw[d]at h1;simpa using h1
     |none=>
      exfalso;have l:listed.size<=e.on:=Array.getElem?_eq_none_iff.1 d;rw[iC,xv bA]at c;cases c
    rw[h];simp
   rw[j]at hm;cases hm
def mi(n:Nat)(listed:Array Bool):Nat:=((List.range n).filter λj=> !listed.getD j true).length
def filter_lt{p q:Nat->Bool}:∀ {l:List Nat} {i:Nat},(∀x,q x=true->p x=true)->i∈l->p i=true->q i=false->(l.filter q).length<(l.filter p).length
 |[],_,_,h,_,_=>by cases h
 |x::l,i,a,c,hp,d=>by
  have hle:∀l:List Nat,(l.filter q).length<=(l.filter p).length:=by
   intro l;induction l with
   |nil=>simp
   |cons y l b=>
    rw[jq,jq];split;·next h=>rw[bM (a _ h)];simpa using b
    ·split;·simp;omega
     ·exact b
  rw[jq,jq];rcases ey.1 c with rfl|c
  ·rw[bJ (by rw[d];simp),bM hp];have:=hle l;simp;omega
  ·have b:=filter_lt a c hp d;split;·next h=>rw[bM (a _ h)];simpa using b
   ·split;·simp;omega
    ·exact b
def RF{n i:Nat}{listed:Array Bool}(a:i<n)(b:listed.size=n)(h:listed.getD i true=false):mi n (listed.setIfInBounds i true)<mi n listed:=by
 unfold mi;refine filter_lt (p:=λj=> !listed.getD j true) (q:=λj=> !(listed.setIfInBounds i true).getD j true) (i:=i) (λx hx=>?_) (fW.2 a) (by simp only[h];rfl) ?_
 ·by_cases e:x=i;·subst e;simp only[h];rfl
  ·have:(listed.setIfInBounds i true).getD x true=listed.getD x true:=by
    rw[iC,iC,TO (Ne.symm e)]
   simp only[this]at hx;exact hx
 ·have:(listed.setIfInBounds i true).getD i true=true:=by
   rw[iC,TN bA];rfl
  simp only[this];rfl
def RG{ops:Array Oper}{Q:Exit->Tr->bh6}(J:Array Bool->Tr->bh6)(step:∀listed T w i o,listed.size=ops.size->J listed T w->i∈Region.ready .any ops listed->ops[i]?=some o->∀next:Tr->bh6,(∀T' w',J (listed.setIfInBounds i true) T' w'->next T' w')->
   j0 ops o T (λT=>nd P τ ρ cz A o T w next Q) (λT=>next (T.put o.dst undef) w))(fin:∀listed T w,J listed T w->Region.ready .any ops listed= []->Q .normal T w):
  ∀(fuel:Nat) (listed:Array Bool) (T:Tr) (w:World),listed.size=ops.size->mi ops.size listed<=fuel->J listed T w->gK P τ ρ cz A ops Q fuel listed T w:=by
 intro fuel;induction fuel with
 |zero=>
  intro listed T w a hu b;unfold gK;split;·next e=>exact fin _ _ _ b e
  ·next e=>
   cases g:Region.ready .any ops listed with
   |nil=>exact absurd g e
   |cons i l=>
    have hm:i∈Region.ready .any ops listed:=by rw[g];exact fj ..
    obtain⟨h1,c,_⟩:=Aw hm;have:=RF h1 a c;omega
 |succ fuel j=>
  intro listed T w a hu b;unfold gK;split;·next e=>exact fin _ _ _ b e
  ·next i0 k e=>
   refine RD (λi d=>?_);rw[<- e]at d;obtain⟨h1,c,_⟩:=Aw d;have ho:ops[i]?=some ops[i]:=oH h1;rw[ho];have h:=RF h1 a c;exact step listed T w i ops[i] a b d ho _ (λT' w' f=>j _ _ _ (by simpa using a) bA f)
end
end Go.Vc
namespace Go.Vc
open Go Go.Sp
section
variable{P:Program}{τ:TypeId->K1}{ρ:TypeId->Kd}{cz:FuncId->Bool}{A:dS}
def e3(ops:Array Oper)(i:Nat):Nat:=match ops[i]? with|some o=>o.dst.getD 0|none=>0
def ef(ops:Array Oper):Bool:=
 uu ops&&((List.range ops.size).all λi=>match ops[i]? with
  |some o=>o.guard.isNone&&o.dst.isSome&&Nat.blt (o.dst.getD 0) 8000&&(List.range i).all λj=> !(Nat.beq (e3 ops j) (e3 ops i))
  |none=>false)
def pf{ops:Array Oper}(h:ef ops=true):uu ops=true/\(∀i o,ops[i]?=some o->o.guard=none/\o.dst=some (e3 ops i)/\e3 ops i<8000)/\∀i j,i<ops.size->j<ops.size->i≠j->e3 ops i≠e3 ops j:=by
 unfold ef at h;rw[dG]at h;obtain⟨h1,p⟩:=h;have g:∀i o,ops[i]?=some o->o.guard=none/\o.dst=some (e3 ops i)/\e3 ops i<8000/\∀j,j<i->e3 ops j≠e3 ops i:=by
  intro i o ho;have k:i<ops.size:=(pv.1 ho).1;have:=fB.1 p i (fW.2 k);rw[ho]at this;simp only[dG,fB,hR]at this;obtain⟨⟨⟨a,b⟩,c⟩,d⟩:=this;obtain⟨n,f⟩:=kq.1 b;have e:e3 ops i=n:=by unfold e3;rw[ho];simp[f]
  refine⟨TR.1 a,by rw[f,e],?_,λj l q=>?_⟩;·rw[f]at c;rw[e];simpa using c
  ·have:=d j (fW.2 l);rw[q]at this;simp at this
 refine⟨h1,λi o ho=>let ⟨a,b,c,_⟩:=g i o ho;⟨a,b,c⟩,λi j k l m=>?_⟩;rcases Nat.lt_or_gt_of_ne m with h' | h';·exact(g j ops[j] (oH l)).2.2.2 i h'
 ·exact λe=>(g i ops[i] (oH k)).2.2.2 j h' e.symm
def hO{α:Type}{f f':Nat->List α}{i:Nat}{X:List α}:∀ {l:List Nat},l.Nodup->i∈l->f i= []->f' i=X->(∀j∈l,j≠i->f' j=f j)->(X++l.flatMap f).Perm (l.flatMap f')
 |[],_,d,_,_,_=>by cases d
 |a::l,s,d,o,p,k=>by
  rw[nX,nX];obtain⟨r,g⟩:=pD.1 s;by_cases e:a=i
  ·subst e;rw[o,p,lR];have:l.flatMap f'=l.flatMap f:=by
    have:∀ {m:List Nat},(∀j∈m,f' j=f j)->m.flatMap f'=m.flatMap f:=by
     intro m hm;induction m with
     |nil=>rfl
     |cons b m n=>rw[nX,nX,hm b (fj ..),n (λj c=>hm j (fI _ c))]
    exact this (λj c=>k j (fI _ c) (λe=>r (e▸c)))
   rw[this]
  ·rw[k a (fj ..) e];have q:i∈l:=by
    rcases ey.1 d with h|h;·exact absurd h.symm e
    ·exact h
   have n:=hO g q o p (λj c=>k j (fI _ c));refine List.Perm.trans ?_ (mu (f a) n);rw[<- dc,<- dc];exact sG _ lO
def pieces(ops:Array Oper)(a:Nat->Tr->ch)(listed:Array Bool)(T:Tr):ch:=
 (List.range ops.size).flatMap λi=>if listed.getD i true=true then a i T else[]
def waits(ops:Array Oper)(i j:Nat):Prop:=∃o,ops[i]?=some o/\∃e∈o.after.toList,Region.binds .any e=true/\e.on=j
def aJJ{ops:Array Oper}{Q:Exit->Tr->bh6}{E:Env}{L:ch}(q:Tr->Prop)(F:Nat->Tr->Prop)(l:Nat->Tr->ch)(N:ef ops=true)(H:∀T i v,i<ops.size->q T->q (T.put (some (e3 ops i)) v))(X:∀i j T v,i<ops.size->j<ops.size->i≠j->¬ waits ops i j->F i T->F i (T.put (some (e3 ops j)) v))(I:∀i j T v,i<ops.size->j<ops.size->i≠j->¬ waits ops i j->l i (T.put (some (e3 ops j)) v)=l i T)(step:∀T w i o R,q T->ops[i]?=some o->(∀e∈o.after.toList,Region.binds .any e=true->F e.on T)->Sep E (R++L) w->
   ∀next:Tr->bh6,(∀v w',F i (T.put (some (e3 ops i)) v)->Sep E (l i (T.put (some (e3 ops i)) v)++(R++L)) w'->next (T.put (some (e3 ops i)) v) w')->nd P τ ρ cz A o T w next Q)(fin:∀T w M,q T->(∀i,i<ops.size->F i T)->Sep E (M++L) w->M.Perm ((List.range ops.size).flatMap λi=>l i T)->Q .normal T w){T:Tr}{w:World}(V:q T)(Y:Sep E L w):gK P τ ρ cz A ops Q ops.size (Array.replicate ops.size false) T w:=by
 obtain⟨D,K,ah⟩:=pf N;have B:∀ {i:Nat} {o:Oper} {e},i<ops.size->ops[i]?=some o->e∈o.after.toList->e.on<i:=by
  intro i o e d ho he;unfold uu at D;have:=fB.1 D i (fW.2 d);rw[ho]at this;exact TV (fB.1 this e he)
 have U:∀ {listed:Array Bool} {j:Nat},listed.getD j false=true->listed.getD j true=true:=by
  intro listed j h;rw[iC]at h ⊢;cases W:listed[j]? with
  |some b=>rw[W]at h;simpa using h
  |none=>rfl
 refine RG (λlisted T w=>listed.size=ops.size/\q T/\(∀i,i<ops.size->listed.getD i true=true->F i T)/\(∀i j,i<ops.size->listed.getD i true=true->waits ops i j->listed.getD j true=true)/\
  ∃M,Sep E (M++L) w/\M.Perm (pieces ops l listed T)) ?_ ?_ ops.size _ T w (by simp) ?_ ?_
 ·rintro listed T w i o O ⟨_,hx,p,t,M,C,hp⟩ g ho next ab
  obtain⟨d,y,u⟩:=Aw g;obtain⟨Z,ai,af⟩:=K i o ho;unfold j0;rw[Z];dsimp only;refine step T w i o M hx ho (λe he s=>?_) C next (λv w' ae J=>?_)
  ·have ag:=B d ho he;exact p e.on bA (U (u o ho e he s))
  ·have f:∀j,j<ops.size->(listed.setIfInBounds i true).getD j true=if j=i then true else listed.getD j true:=by
    intro j a;rw[iC,iC];by_cases e:j=i;·subst e;rw[bM rfl,TN bA];rfl
    ·rw[bJ e,TO (Ne.symm e)]
   have S:∀j k,waits ops j k->k<ops.size:=by
    rintro j k ⟨o',n,e,he,_,rfl⟩;have a:=(pv.1 n).1;have:=B a n he;omega
   refine ab _ _ ⟨by simpa using O,H _ _ _ d hx,λj a c=>?_,λj k a c hw=>?_,l i (T.put (some (e3 ops i)) v)++M,by rw[dc];exact J,?_⟩
   ·by_cases e:j=i;·subst e;exact ae
    ·rw[f j a,bJ e]at c;refine X j i T v a d e (λhw=>?_) (p j a c);have:=t j i a c hw;rw[y]at this;cases this
   ·have aa:=S j k hw;rw[f k aa];by_cases e:j=i
    ·subst e;obtain⟨o',n,e,he,s,rfl⟩:=hw;rw[ho]at n;cases n;split;·rfl
     ·exact U (u o ho e he s)
    ·rw[f j a,bJ e]at c;split;·rfl
     ·exact t j k a c hw
   ·refine(mu _ hp).trans ?_;unfold pieces;refine hO List.nodup_range (fW.2 d) ?_ ?_ (λj a z=>?_);·rw[y];rfl
    ·rw[f i d,bM rfl,bM rfl]
    ·have x:=fW.1 a;rw[f j x,bJ z];split;·next c=>exact I j i T v x d z (λhw=>by have:=t j i x c hw;rw[y]at this;cases this)
     ·rfl
 ·rintro listed T w ⟨O,hx,p,_,M,C,hp⟩ ad;have r:=RE D ad;refine fin T w M hx (λi g=>p i g (r i g)) C (hp.trans ?_);unfold pieces;have:∀ {m:List Nat},(∀j∈m,j<ops.size)->(m.flatMap λi=>if listed.getD i true=true then l i T else[])=m.flatMap λi=>l i T:=by
   intro m hm;induction m with
   |nil=>rfl
   |cons b m G=>rw[nX,nX,G (λj a=>hm j (fI _ a)),bM (r b (hm b (fj ..)))]
  rw[this (λj a=>fW.1 a)]
 ·unfold mi;exact mD (lp _ _) (by rw[G3];exact dN _)
 ·have no:∀i,i<ops.size->(Array.replicate ops.size false).getD i true=false:=by
   intro i g;rw[iC,TT,bM g];rfl
  refine⟨by simp,V,λi g c=>?_,λi j g c=>?_,[],Y,?_⟩;·rw[no i g]at c;cases c
  ·rw[no i g]at c;cases c
  ·unfold pieces;have:∀ {m:List Nat},(∀j∈m,j<ops.size)->(m.flatMap λi=>if(Array.replicate ops.size false).getD i true=true then l i T else[])= []:=by
    intro m hm;induction m with
    |nil=>rfl
    |cons b m G=>
     rw[nX,G (λj a=>hm j (fI _ a)),no b (hm b (fj ..))];rfl
   rw[this (λj a=>fW.1 a)]
end
end Go.Vc
namespace Go.Mp
open Go Go.Vc Go.Sp Go.Proofs Go.Kc
variable{E:Env}{L:ch}{w:World}{A:At}{S:Cs}
noncomputable abbrev kk:Array Oper:=Av
def aME:Oper:={dst:=none,op:=.assign (.const (.pointer none)),type:=0,pos:= "",after:= #[],guard:=none}
noncomputable def mj(i:Nat):Oper:=(kk[i]?).getD aME
def Ax:kk.size=10:=by kernel_rfl
def aLu:uu kk=true:=by decide+kernel
def aKX:((List.range 10).all λi=>(mj i).guard.isNone)=true:=by decide+kernel
section
variable(T:Tr)(next:Tr->bh6)(Q:Exit->Tr->bh6)
abbrev jc(i:Nat):=nd P fD gG cz wH (mj i) T w next Q
def Fi:jc (w:=w) T next Q 0=pK P (fD tu) tu (T.get 4) w (λv=>next (T.put (some 20) v) w):=by kernel_rfl
def Fj:jc (w:=w) T next Q 1=next (T.put (some 21) (T.get 1)) w:=by kernel_rfl
def Fk:jc (w:=w) T next Q 2=Calls P rQ #[T.get 20,T.get 21,.func (.func vz) #[] #[]] w λe w'=>∃x:Sl,e=.returned (Sv x)/\next (T.put (some 22) (Sv x)) w':=by kernel_rfl
def Fl:jc (w:=w) T next Q 3=pK P (fD tu) tu (T.get 4) w (λv=>next (T.put (some 23) v) w):=by kernel_rfl
def Fm:jc (w:=w) T next Q 4=next (T.put (some 24) (T.get 1)) w:=by kernel_rfl
def Fo:jc (w:=w) T next Q 5=Calls P rQ #[T.get 23,T.get 24,.func (.func vA) #[] #[]] w λe w'=>∃x:Sl,e=.returned (Sv x)/\next (T.put (some 25) (Sv x)) w':=by kernel_rfl
def Fp:jc (w:=w) T next Q 6=Al (.cells #[.slice none 0 0] lE) (λq=>next (T.put (some 9) (.pointer (some q)))) w:=by kernel_rfl
def Fq:jc (w:=w) T next Q 7=Al (.cells #[.slice none 0 0] lE) (λq=>next (T.put (some 10) (.pointer (some q)))) w:=by kernel_rfl
def Fs:jc (w:=w) T next Q 8=sV P (fD lE) lE (T.get 9) (T.get 22) w (λw'=>next T w'):=by kernel_rfl
def Ft:jc (w:=w) T next Q 9=sV P (fD lE) lE (T.get 10) (T.get 25) w (λw'=>next T w'):=by kernel_rfl
end
def RH(a:Addr)(f:Value->Prop):pK P (fD tu) tu (.pointer (some a)) w f=∃x:cg,w.cell? a=some (.pointer x)/\f (.pointer x):=by kernel_rfl
def RI(a:Addr)(s:Sl)(f:bh6):sV P (fD lE) lE (.pointer (some a)) (Sv s) w f=St a (Sv s) f w:=by kernel_rfl
noncomputable def RJ(i j:Nat):Bool:=match kk[i]? with
 |some o=>o.after.toList.any λe=>Region.binds .any e&&Nat.beq e.on j
 |none=>false
def PA(f:Bool)(v:Value)(l:List Bool):Asn:=bif f then(e8 λs:Sl=>cC (v=Sv s/\s.n=l.length) (bC s 1 (ea l)))else emp
def PB(f g:Bool)(v u:Value):Asn:=bif f then(e8 λp:Nat=>cC (v=Pb p) (bE p [bif g then u else .slice none 0 0]))else emp
structure JE(E:Env)(M:ch)(c bx:Nat)(t:Int)(mn lw:List Bool)(b0 b1 b2 b3 b4 b5 b6 b7 b8 b9:Bool)(T:Tr)(w:World):Prop where
 s1:T.get 1=Iv t
 s4:T.get 4=Pb bx
 RK:b0=true->T.get 20=Pb c
 RL:b1=true->T.get 21=Iv t
 RM:b3=true->T.get 23=Pb c
 RN:b4=true->T.get 24=Iv t
 d8:b8=true->b2=true/\b6=true
 d9:b9=true->b5=true/\b7=true
 sep:Sep E (PA b2 (T.get 22) mn::PA b5 (T.get 25) lw::PB b6 b8 (T.get 9) (T.get 22)::PB b7 b9 (T.get 10) (T.get 25)::M) w
def aMt{M:ch}{c bx:Nat}{t:Int}{mn lw:List Bool}{J:cg->cg->bh6}{am:Exit->Tr->bh6}{T:Tr}(W:∀ {R:ch} {w:World},Sep E (R++M) w->w.cell? ⟨bx,0,none⟩=some (Pb c))(aj:∀ {R:ch} {w:World},Sep E (R++M) w->Calls P rQ #[Pb c,Iv t,.func (.func vz) #[] #[]] w (bW λv w'=>∃e:Sl,v=Sv e/\e.n=mn.length/\Sep E (bC e 1 (ea mn)::(R++M)) w'))(ai:∀ {R:ch} {w:World},Sep E (R++M) w->Calls P rQ #[Pb c,Iv t,.func (.func vA) #[] #[]] w (bW λv w'=>∃e:Sl,v=Sv e/\e.n=lw.length/\Sep E (bC e 1 (ea lw)::(R++M)) w'))(h1:T.get 1=Iv t)(C:T.get 4=Pb bx)(h:Sep E M w)(k:∀(s1 s2:Sl) (p q:Nat) (w':World),s1.n=mn.length->s2.n=lw.length->Sep E (bC s1 1 (ea mn)::bC s2 1 (ea lw)::bE p [Sv s1]::bE q [Sv s2]::M) w'->J (some ⟨p,0,none⟩) (some ⟨q,0,none⟩) w'):
  gK P fD gG cz wH kk (mI (nf [(9,.ptr),(10,.ptr)] J) am) kk.size (Array.replicate kk.size false) T w:=by
 have g:∀(T:Tr) (d s:Nat) (v:Value),d<8000->(T.put (some d) v).get s=if s=d then v else T.get s:=λT d s v ao=>Tr.dM _ _ _ _ ao
 refine RG (λli T w=>li.size=10/\JE E M c bx t mn lw (li.getD 0 true) (li.getD 1 true) (li.getD 2 true) (li.getD 3 true) (li.getD 4 true) (li.getD 5 true) (li.getD 6 true) (li.getD 7 true) (li.getD 8 true) (li.getD 9 true) T w) ?_ ?_ _ _ _ _ (by simp) ?_ ?_
 ·rintro li T w i o f ⟨L,j⟩ G ho next ak
  obtain⟨K,y,I⟩:=Aw G;rw[Ax]at K;have X:mj i=o:=by unfold mj;rw[ho];rfl
  have ap:o.guard=none:=by
   have:=fB.1 aKX i (fW.2 K);rw[X]at this;exact TR.1 this
  have ar:∀ {j:Nat},li.getD j false=true->li.getD j true=true:=by
   intro j h;rw[iC]at h ⊢;cases z:li[j]? with
   |some b=>rw[z]at h;simpa using h
   |none=>rfl
  have hw:∀j,RJ i j=true->li.getD j true=true:=by
   intro j H;unfold RJ at H;rw[ho]at H;obtain⟨e,he,Y⟩:=sK.1 H;rw[dG]at Y;have:=I o ho e he Y.1;rw[je Y.2]at this;exact ar this
  have a:∀j,j<10->(li.setIfInBounds i true).getD j true=if j=i then true else li.getD j true:=by
   intro j H;rw[iC,iC];by_cases e:j=i;·subst e;rw[bM rfl,TN bA];rfl
   ·rw[bJ e,TO (Ne.symm e)]
  unfold j0;rw[ap];dsimp only;have m:∀T' w',JE E M c bx t mn lw (if 0=i then true else li.getD 0 true) (if 1=i then true else li.getD 1 true) (if 2=i then true else li.getD 2 true) (if 3=i then true else li.getD 3 true) (if 4=i then true else li.getD 4 true)
    (if 5=i then true else li.getD 5 true) (if 6=i then true else li.getD 6 true) (if 7=i then true else li.getD 7 true) (if 8=i then true else li.getD 8 true) (if 9=i then true else li.getD 9 true) T' w'->next T' w':=by
   intro T' w' H;refine ak T' w' ⟨by simpa using L,?_⟩;rw[a 0 bO,a 1 bO,a 2 bO,a 3 bO,a 4 bO,a 5 bO,a 6 bO,a 7 bO,a 8 bO,a 9 bO];exact H
  clear ak a I G;subst X;generalize Z:li.getD 0 true=b0 at*
  generalize aa:li.getD 1 true=b1 at*
  generalize Q:li.getD 2 true=b2 at*
  generalize ab:li.getD 3 true=b3 at*
  generalize ad:li.getD 4 true=b4 at*
  generalize S:li.getD 5 true=b5 at*
  generalize U:li.getD 6 true=b6 at*
  generalize V:li.getD 7 true=b7 at*
  generalize ae:li.getD 8 true=b8 at*
  generalize af:li.getD 9 true=b9 at*
  obtain⟨s1,s4,RK,RL,RM,RN,d8,d9,l⟩:=j
  match i,K with
  |0,_=>
   refine(Fi T next _).mpr ?_;rw[s4,RH];refine⟨_,W (R:=[_,_,_,_]) l,m _ _ ?_⟩;constructor<;>simp only[g _ _ _ _ (show(20:Nat)<8000 by decide),Nat.reduceEqDiff,pI,reduceCtorEq,fP,gq]<;>first|assumption|(intro _;rfl)|(intro _;trivial)|skip
  |1,_=>
   refine(Fj T next _).mpr ?_;rw[s1];refine m _ _ ?_;constructor<;>simp only[g _ _ _ _ (show(21:Nat)<8000 by decide),Nat.reduceEqDiff,pI,reduceCtorEq,fP,gq]<;>first|assumption|(intro _;rfl)|(intro _;trivial)|skip
  |2,_=>
   refine(Fk T next _).mpr ?_;have t0:b0=true:=Z.symm.trans (hw 0 (by decide+kernel));have t1:b1=true:=aa.symm.trans (hw 1 (by decide+kernel));have f2:b2=false:=Q.symm.trans y;rw[RK t0,RL t1];subst f2;have f8:b8=false:=by cases b8 with|false=>rfl|true=>exact absurd (d8 rfl).1 bO
   subst f8;refine use (aj (R:=[_,_,_,_]) l) ?_;rintro _ r ⟨e,rfl,he,h1⟩;refine⟨e,rfl,m _ _ ?_⟩;constructor<;>simp only[g _ _ _ _ (show(22:Nat)<8000 by decide),Nat.reduceEqDiff,pI,reduceCtorEq,fP,gq]<;>first|assumption|(intro D;cases D;done)|skip
   exact Sep.ex.2 ⟨e,Sep.cC.2 ⟨⟨rfl,he⟩,h1.ro 2 [0] rfl⟩⟩
  |3,_=>
   refine(Fl T next _).mpr ?_;rw[s4,RH];refine⟨_,W (R:=[_,_,_,_]) l,m _ _ ?_⟩;constructor<;>simp only[g _ _ _ _ (show(23:Nat)<8000 by decide),Nat.reduceEqDiff,pI,reduceCtorEq,fP,gq]<;>first|assumption|(intro _;rfl)|(intro _;trivial)|skip
  |4,_=>
   refine(Fm T next _).mpr ?_;rw[s1];refine m _ _ ?_;constructor<;>simp only[g _ _ _ _ (show(24:Nat)<8000 by decide),Nat.reduceEqDiff,pI,reduceCtorEq,fP,gq]<;>first|assumption|(intro _;rfl)|(intro _;trivial)|skip
  |5,_=>
   refine(Fo T next _).mpr ?_;have t3:b3=true:=ab.symm.trans (hw 3 (by decide+kernel));have t4:b4=true:=ad.symm.trans (hw 4 (by decide+kernel));have f5:b5=false:=S.symm.trans y;rw[RM t3,RN t4];subst f5;have f9:b9=false:=by cases b9 with|false=>rfl|true=>exact absurd (d9 rfl).1 bO
   subst f9;refine use (ai (R:=[_,_,_,_]) l) ?_;rintro _ r ⟨e,rfl,he,h1⟩;refine⟨e,rfl,m _ _ ?_⟩;constructor<;>simp only[g _ _ _ _ (show(25:Nat)<8000 by decide),Nat.reduceEqDiff,pI,reduceCtorEq,fP,gq]<;>first|assumption|(intro D;cases D;done)|skip
   exact Sep.swap (Sep.ex.2 ⟨e,Sep.cC.2 ⟨⟨rfl,he⟩,h1.ro 3 [0,1] rfl⟩⟩)
  |6,_=>
   refine(Fp T next _).mpr ?_;have f6:b6=false:=U.symm.trans y;subst f6;have f8:b8=false:=by cases b8 with|false=>rfl|true=>exact absurd (d8 rfl).2 bO
   subst f8;refine Al.i l (λp r h1=>m _ _ ?_);constructor<;>simp only[g _ _ _ _ (show(9:Nat)<8000 by decide),Nat.reduceEqDiff,pI,reduceCtorEq,fP,gq]<;>first|assumption|(intro D;cases D;done)|skip
   have u:Sep E (PB true false (Pb p) (T.get 22)::PA b2 (T.get 22) mn::PA b5 (T.get 25) lw::PB b7 b9 (T.get 10) (T.get 25)::M) r:=Sep.ex.2 ⟨p,Sep.cC.2 ⟨rfl,h1.ro 4 [0,1,2] rfl⟩⟩;exact u.ro 3 [1,2,0] rfl
  |7,_=>
   refine(Fq T next _).mpr ?_;have f7:b7=false:=V.symm.trans y;subst f7;have f9:b9=false:=by cases b9 with|false=>rfl|true=>exact absurd (d9 rfl).2 bO
   subst f9;refine Al.i l (λp r h1=>m _ _ ?_);constructor<;>simp only[g _ _ _ _ (show(10:Nat)<8000 by decide),Nat.reduceEqDiff,pI,reduceCtorEq,fP,gq]<;>first|assumption|(intro D;cases D;done)|skip
   have u:Sep E (PB true false (Pb p) (T.get 25)::PA b2 (T.get 22) mn::PA b5 (T.get 25) lw::PB b6 b8 (T.get 9) (T.get 22)::M) r:=Sep.ex.2 ⟨p,Sep.cC.2 ⟨rfl,h1.ro 5 [0,1,2,3] rfl⟩⟩;exact u.ro 4 [1,2,3,0] rfl
  |8,_=>
   refine(Fs T next _).mpr ?_;have t2:b2=true:=Q.symm.trans (hw 2 (by decide+kernel));have t6:b6=true:=U.symm.trans (hw 6 (by decide+kernel));have f8:b8=false:=ae.symm.trans y;subst t2 t6 f8;obtain⟨s,f⟩:=Sep.ex.1 l;obtain⟨⟨A,N⟩,f⟩:=Sep.cC.1 f;have f:Sep E (PB true false (T.get 9) (T.get 22)::bC s 1 (ea mn)::PA b5 (T.get 25) lw::PB b7 b9 (T.get 10) (T.get 25)::M) w:=f.fr 2 rfl;obtain⟨p,f⟩:=Sep.ex.1 f;obtain⟨O,f⟩:=Sep.cC.1 f;rw[O,A,RI];refine St.i f (by simp) (λr h1=>m _ _ ?_);have h1:Sep E (bE p [Sv s]::bC s 1 (ea mn)::PA b5 (T.get 25) lw::PB b7 b9 (T.get 10) (T.get 25)::M) r:=h1;rw[<- A]at h1;have u:Sep E (PB true true (T.get 9) (T.get 22)::bC s 1 (ea mn)::PA b5 (T.get 25) lw::PB b7 b9 (T.get 10) (T.get 25)::M) r:=Sep.ex.2 ⟨p,Sep.cC.2 ⟨O,h1⟩⟩;have z:Sep E (PA true (T.get 22) mn::PB true true (T.get 9) (T.get 22)::PA b5 (T.get 25) lw::PB b7 b9 (T.get 10) (T.get 25)::M) r:=Sep.ex.2 ⟨s,Sep.cC.2 ⟨⟨A,N⟩,u.swap⟩⟩;constructor<;>(try simp only[Nat.reduceEqDiff,pI,reduceCtorEq,fP,gq])<;>first|assumption|(intro _;exact⟨trivial,trivial⟩)|skip
   exact z.ro 3 [0,2,1] rfl
  |9,_=>
   refine(Ft T next _).mpr ?_;have t5:b5=true:=S.symm.trans (hw 5 (by decide+kernel));have t7:b7=true:=V.symm.trans (hw 7 (by decide+kernel));have f9:b9=false:=af.symm.trans y;subst t5 t7 f9;have al:Sep E (PA true (T.get 25) lw::PA b2 (T.get 22) mn::PB b6 b8 (T.get 9) (T.get 22)::PB true false (T.get 10) (T.get 25)::M) w:=l.swap;obtain⟨s,f⟩:=Sep.ex.1 al;obtain⟨⟨B,N⟩,f⟩:=Sep.cC.1 f;have f:Sep E (PB true false (T.get 10) (T.get 25)::bC s 1 (ea lw)::PA b2 (T.get 22) mn::PB b6 b8 (T.get 9) (T.get 22)::M) w:=f.fr 3 rfl;obtain⟨p,f⟩:=Sep.ex.1 f;obtain⟨F,f⟩:=Sep.cC.1 f;rw[F,B,RI];refine St.i f (by simp) (λr h1=>m _ _ ?_);have h1:Sep E (bE p [Sv s]::bC s 1 (ea lw)::PA b2 (T.get 22) mn::PB b6 b8 (T.get 9) (T.get 22)::M) r:=h1;rw[<- B]at h1;have u:Sep E (PB true true (T.get 10) (T.get 25)::bC s 1 (ea lw)::PA b2 (T.get 22) mn::PB b6 b8 (T.get 9) (T.get 22)::M) r:=Sep.ex.2 ⟨p,Sep.cC.2 ⟨F,h1⟩⟩;have z:Sep E (PA true (T.get 25) lw::PB true true (T.get 10) (T.get 25)::PA b2 (T.get 22) mn::PB b6 b8 (T.get 9) (T.get 22)::M) r:=Sep.ex.2 ⟨s,Sep.cC.2 ⟨⟨B,N⟩,u.swap⟩⟩;constructor<;>(try simp only[Nat.reduceEqDiff,pI,reduceCtorEq,fP,gq])<;>first|assumption|(intro _;exact⟨trivial,trivial⟩)|skip
   exact z.ro 4 [2,0,3,1] rfl
  |n+10,G=>exact absurd G bA
 ·rintro li T w ⟨L,j⟩ aq;have x:=RE aLu aq;rw[Ax]at x;rw[x 0 bO,x 1 bO,x 2 bO,x 3 bO,x 4 bO,x 5 bO,x 6 bO,x 7 bO,x 8 bO,x 9 bO]at j;have an:=j.sep;obtain⟨s1,h1⟩:=Sep.ex.1 an;obtain⟨⟨A,ag⟩,h1⟩:=Sep.cC.1 h1;obtain⟨s2,u⟩:=Sep.ex.1 h1.swap;obtain⟨⟨B,ah⟩,u⟩:=Sep.cC.1 u;obtain⟨p,z⟩:=Sep.ex.1 (u.fr 2 rfl);obtain⟨O,z⟩:=Sep.cC.1 z;obtain⟨q,C⟩:=Sep.ex.1 (z.fr 3 rfl);obtain⟨F,C⟩:=Sep.cC.1 C;have C:Sep E (bE q [T.get 25]::bE p [T.get 22]::bC s2 1 (ea lw)::bC s1 1 (ea mn)::M) w:=C;rw[A,B]at C;show nf [(9,.ptr),(10,.ptr)] J T w;simp only[nf,O,F,C1.un];exact k s1 s2 p q w ag ah (C.ro 4 [3,2,1,0] rfl)
 ·unfold mi;exact mD (lp _ _) (by rw[G3];exact dN _)
 ·have no:∀i,i<10->(Array.replicate kk.size false).getD i true=false:=by
   intro i G;rw[iC,TT,bM (by rw[Ax];exact G)];rfl
  refine⟨by rw[Array.size_replicate,Ax],?_⟩;rw[no 0 bO,no 1 bO,no 2 bO,no 3 bO,no 4 bO,no 5 bO,no 6 bO,no 7 bO,no 8 bO,no 9 bO];exact⟨h1,C,λh=>(by cases h),λh=>(by cases h),λh=>(by cases h),λh=>(by cases h),λh=>(by cases h),λh=>(by cases h),Sep.emp.2 (Sep.emp.2 (Sep.emp.2 (Sep.emp.2 h)))⟩
end Go.Mp
