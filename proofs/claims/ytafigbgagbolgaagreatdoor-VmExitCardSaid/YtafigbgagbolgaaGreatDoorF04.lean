/- A part of the proof. -/
import Derived.Test.YtafigbgagbolgaaGreatDoorF03
import Derived.Shelf.SlIterI.Nil
import Derived.Shelf.SortM.Plain
import Derived.Shelf.SortM.SortNone
import Derived.Test.YtafigbgagbolgaaGreatDoorProg
import Derived.Laws.IdiomRangeMap
set_option linter.all false
set_option maxRecDepth 100000
open Go.IntKind(i64 u64)
open Go.Proofs.Tryz
namespace Go.Mp
open Go Go.Vc Go.Sp Go.Proofs Go.Kc
variable{E:Env}{L:cv}{w:bH}
def PX{s:Sl}{l:bR}{q:Nat}(h:Sep E L w)(m:L[q]?=some (bw s 1 (bD l)))(hn:s.n=l.length)(hb:l.length<=1000000):
  Calls P uM #[.slice s.p s.n s.c] w (cA λv w'=>∃s':Sl,v=.slice s'.p s'.n s'.c/\s'.n=l.length/\Sep E (bw s' 1 (bD l)::L) w'):=by
 have b:=h.fr q m;unfold bw at b;cases hp:s.p with
 |none=>
  rw[hp]at b;obtain⟨⟨_,_,hl⟩,_⟩:=Sep.cG.1 b;have hl:l= []:=List.map_eq_nil_iff.1 hl;subst hl;refine(Any.slices_Clone_int_nil Tryz.nH s.n s.c w).mono ?_;rintro e o ⟨rfl,rfl⟩;exact⟨_,rfl,⟨none,0,0⟩,rfl,rfl,bw.none_ h⟩
 |some a=>
  rw[hp]at b;obtain⟨spare,b⟩:=Sep.ex.1 b;obtain⟨⟨ho,n,hl,_,_⟩,b⟩:=Sep.cG.1 b;obtain⟨f,r,t⟩:=a;cases ho;cases n;have k:∀j,j<l.length->w.cell? ⟨f,0+j,none⟩=some (.int .i64 (l.getD j 0)):=by
   intro j g;rw[fy,bw.cell b (by simpa using g)];simp[List.getD,dL g]
  refine(Any.slices_Clone_int Tryz.nH f 0 s.n s.c l w bu bu k).mono ?_;rintro e o ⟨v,rfl,c,p,d⟩;rw[hn,gg]at c;obtain⟨s',rfl,i,h1⟩:=Dh h c d;exact⟨_,rfl,s',rfl,i,h1⟩
def aGG{x y:Nat}(hx:x<4294967296)(d:x*y<18446744073709551616)(k:y<18446744073709551616)(w:bH):Calls P xP #[.int .u64 (x:Nat),.int .u64 (y:Nat)] w (cA λv w'=>v=.tuple #[.int .u64 0,.int .u64 ((x*y:Nat):Int)]/\w'=w):=by
 apply Mv;unfold C7;have i:(x:Int).fdiv (2^(min (32:Int).toNat 64))=((0:Nat):Int):=by
  rw[show(x:Int).fdiv (2^(min (32:Int).toNat 64))=((x/2^32:Nat):Int)from sh x 32,y8 bu]
 have c:∀z:Nat,(z:Int).fdiv (2^(min (32:Int).toNat 64))=((z/4294967296:Nat):Int):=λz=>sh z 32;have m:∀ {z:Nat},z<18446744073709551616->bU .u64 (z:Int) 4294967295=((z%4294967296:Nat):Int):=by
  intro z f;have h:=sF (a:=z) (b:=4294967295) f bu;have e:z &&& 4294967295=z%4294967296:=tq z 32;rw[e]at h;exact h
 have f:x*y=x*(y%4294967296)+x*(y/4294967296)*4294967296:=by
  conv=>lhs;rw[<- Nat.mod_add_div y 4294967296]
  rw[nb,wm 4294967296,Gt]
 rw[i,c y,m (z:=x) bu,m k,mI hx];have g:∀a:Int,((0:Nat):Int)*a=((0:Nat):Int):=λa=>by simp
 rw[g,g,ds (n:=0) bu,<- tF,<- tF,<- tF];generalize x*(y%4294967296)=p at*
 generalize x*(y/4294967296)=r at*
 have j:p/4294967296+r<4294967296:=by omega
 rw[ds (n:=p) bu,c p];rw[show((0:Nat):Int)+((p/4294967296:Nat):Int)=((p/4294967296:Nat):Int) by omega,ds (n:=p/4294967296) bu];rw[m bu,ds (n:=r) bu,mI (a:=p/4294967296) bu,<- Gl,ds (n:=p/4294967296+r) bu,c,c,y8 j,y8 (a:=p/4294967296) bu,ds d];refine⟨bN,bN,bN,bN,bN,?_,rfl⟩;simp[nA]
def yk{l:bR}{k:Nat}{x:Int}(hx:l[k]?=some x):cn (l.take (k+1))=cn (l.take k)+x:=by
 rw[fL hx];simp[cn,y5]
def DX{l:bR}(hl:∀x∈l,0<=x/\x<=top):∀k,k<=l.length->0<=cn (l.take k)/\cn (l.take k)<=k*1099511627776
 |0,_=>by simp[cn]
 |k+1,h=>by
  have hx:l[k]?=some (l[k]'bu):=dN;have h1:=DX hl k bu;have h2:=hl _ (og (by omega:k<l.length));rw[yk hx];rw[n1]at h2;omega
def DY{s:Sl}{l:bR}(a:Ints E L s l)(hl:∀x∈l,0<=x/\x<=top)(hb:l.length<=64)(h:Sep E L w):
  Calls P uN #[.slice s.p s.n s.c] w (cY E (.int .i64 (cn l)) L):=by
 apply Xn;unfold LB qD qI qW;refine⟨λn i w'=>(∃k:Nat,i=k/\k<=l.length/\n=cn (l.take k))/\Sep E L w',λ_ i _=>(l.length-i).toNat,⟨⟨0,rfl,e7 _,rfl⟩,h⟩,?_⟩;rintro _ n i d ⟨⟨k,rfl,hk,rfl⟩,h1⟩;have hn:=a.1;refine cX (λc=>?_) (λb=>?_)
 ·have hx:l[k]?=some (l[k]'bu):=dN;refine a.el h1 k rfl hx ?_;have h2:=DX hl (k+1) bu;have e:=yk hx;rw[de,cR bu bu];exact⟨⟨⟨k+1,rfl,bu,e.symm⟩,h1⟩,by show(((l.length:Nat):Int)-((k+1:Nat):Int)).toNat<(((l.length:Nat):Int)-(k:Int)).toNat;omega⟩
 ·have:k=l.length:=by omega
  subst this;rw[gg];exact⟨rfl,h1⟩
def aGT(x:Int)(w:bH):Calls P Cy #[.int .i64 x] w (cA λv w'=>v=.bool (!(decide (0<=x)&&decide (x<=top)))/\w'=w):=by
 apply XW;unfold L9;have:=n1;refine cX (λc=>⟨?_,rfl⟩) (λb=>⟨?_,rfl⟩);·rw[di (show ¬ 0<=x by omega)];rfl
 ·rw[dE (show 0<=x by omega),n1];by_cases a:x>1099511627776;·rw[dE a,di (show ¬ x<=1099511627776 by omega)];rfl
  ·rw[di a,dE (show x<=1099511627776 by omega)];rfl
def PY{s:Sl}{l:bR}{n:Int}(hn:s.n=l.length)(h:Sep E (bw s 1 (bD l)::L) w):
  Calls P Cd #[.int .i64 n,.slice s.p s.n s.c] w (cY E (.bool (iu n l)) (bw s 1 (bD l)::L)):=by
 apply Xm;unfold LA qF iu;refine h4 (λh1=>?_) (λh1=>?_);rotate_left;·rw[di (show ¬ 0<=n by omega)];exact⟨by simp,h⟩
 rw[dE h1];refine h4 (λh2=>?_) (λh2=>?_);rotate_left;·rw[di (show ¬ n<=1048576 by omega)];exact⟨by simp,h⟩
 rw[dE h2];refine h4 (λc=>?_) (λc=>?_);rotate_left;·rw[di (show ¬ l.length<=64 by omega)];exact⟨by simp,h⟩
 rw[dE (show l.length<=64 by omega)];refine use (K:=λv w'=>v=.bool (!(l.all λx=>decide (0<=x)&&decide (x<=top)))/\Sep E (bw s 1 (bD l)::L) w') ?_ ?_
 ·apply aig;unfold Ma qQ;refine use (aux (q:=λx=> !(decide (0<=x)&&decide (x<=top))) ?_ hn bu h) ?_
  ·intro x b _ h1;refine⟨Cy,_,rfl,by kernel_rfl,(aGT x b).mono ?_⟩;rintro e w2 ⟨v,rfl,rfl,rfl⟩;exact⟨rfl,h1⟩
  ·rintro _ b ⟨i,rfl,a,h1⟩;refine⟨i,rfl,?_,h1⟩;rcases a with⟨rfl,a⟩|⟨g,f,_,a⟩
   ·have:(l.all λx=>decide (0<=x)&&decide (x<=top))=true:=fS.2 λx hx=>by simpa using a x hx
    rw[this];rfl
   ·have hx:l[i.toNat]?=some (l[i.toNat]'bu):=dN;have d:=a _ hx;have:(l.all λx=>decide (0<=x)&&decide (x<=top))=false:=by
     rw[List.all_eq_false];exact⟨_,og (show i.toNat<l.length by omega),by
      have j:l[i.toNat]<0\/top<l[i.toNat]:=by simpa using d
      simp;omega⟩
    rw[this,dE (show i≥0 by omega)];rfl
 ·rintro _ b ⟨rfl,h1⟩;exact⟨_,rfl,by simp,h1⟩
end Go.Mp
namespace Go.Kc
def PZ{α:Type}{r:α->α->Bool}(ui:∀x,r x x=false)(asym:∀x y,r x y=true->r y x=false):∀ {l:bA α} {j:Nat} {x:α},l.Pairwise (λa b=>r a b=true)->l[j]?=some x->(l.filter λy=>r y x).length=j
 |[],j,x,_,hx=>by simp at hx
 |a::l,0,x,h,hx=>by
  have e:a=x:=by simpa using hx
  subst e;have h':=g7.1 h;have:(a::l).filter (λy=>r y a)= []:=by
   rw[List.filter_eq_nil_iff];intro y d;rcases ey.1 d with rfl|d;·rw[ui];decide
   ·rw[asym _ _ (h'.1 y d)];decide
  rw[this];rfl
 |a::l,j+1,x,h,hx=>by
  have h':=g7.1 h;have c:l[j]?=some x:=by simpa using hx
  have hm:x∈l:=eH c;rw[jD,bL (h'.1 x hm),hI,PZ ui asym h'.2 c]
def rB(a b:Int×Nat):Bool:=decide (b.1<a.1)||(decide (a.1=b.1)&&decide (a.2<b.2))
def pI{a b:Int×Nat}:rB a b=true↔(b.1<a.1\/(a.1=b.1/\a.2<b.2)):=by simp[rB]
def aKg(x:Int×Nat):rB x x=false:=by
 rw[tA];intro h;have:=pI.1 h;omega
def P0(x y:Int×Nat)(h:rB x y=true):rB y x=false:=by
 rw[tA];intro h';have h1:=pI.1 h;have h2:=pI.1 h';omega
def ym{rs:bR}{p:Int×Nat}:p∈rs.zipIdx↔rs[p.2]?=some p.1:=by
 obtain⟨a,i⟩:=p;rw[List.mem_zipIdx_iff_getElem?]
variable{rs:bR}{S:bA (Int×Nat)}
def P1(hp:S.Perm rs.zipIdx)(c:S.Pairwise λa b=>rB a b=true){j:Nat}{x:Int×Nat}(hx:S[j]?=some x):ahead rs x.2 x.1=j:=by
 have h1:=PZ aKg P0 c hx;rw[<- h1];exact((hp.filter _).length_eq).symm
def aGy(hp:S.Perm rs.zipIdx)(e:S.Pairwise λa b=>rB a b=true){i m:Nat}{r:Int}(hr:rs[i]?=some r):ahead rs i r<m↔i∈(S.take m).map (·.2):=by
 constructor
 ·intro h;have h1:(r,i)∈S:=hp.mem_iff.2 (ym.2 hr);obtain⟨j,c⟩:=pW.1 h1;have h2:=P1 hp e c;refine fo.2 ⟨(r,i),pW.2 ⟨j,?_⟩,rfl⟩;rw[o2,bL (by simpa[h2]using h)];exact c
 ·intro h;obtain⟨⟨r',l⟩,h1,rfl⟩:=fo.1 h;obtain⟨j,c⟩:=pW.1 h1;rw[o2]at c;split at c
  ·next n=>
   have f:(r',l)∈rs.zipIdx:=hp.mem_iff.1 (eH c);have d:=ym.1 f;simp only at d hr;have g:=hr.symm.trans d;have k:r=r':=by simpa using g
   subst k;have:=P1 hp e c;simp only at this ⊢;omega
  ·cases c
def P2:(rs.zipIdx.map (·.2)).Nodup:=by
 rw[List.zipIdx_map_snd];exact List.nodup_range'
def P3(hp:S.Perm rs.zipIdx)(m:Nat):((S.take m).map (·.2)).Nodup:=by
 have h:(S.map (·.2)).Nodup:=(hp.map _).nodup_iff.2 P2;rw[List.map_take];exact h.sublist (o3 _ _)
def aJy(hp:S.Perm rs.zipIdx){m:Nat}:∀i∈(S.take m).map (·.2),i<rs.length:=by
 intro i a;obtain⟨⟨r,i⟩,h1,rfl⟩:=fo.1 a;have:=ym.1 (hp.mem_iff.1 (m8 h1));exact(c4.1 this).1
def aF0(rs:bR):∃S:bA (Int×Nat),S.Perm rs.zipIdx/\S.Pairwise λa b=>rB a b=true:=by
 refine⟨rs.zipIdx.mergeSort (λa b=> !rB b a),y2 _ _,?_⟩;have h1:(rs.zipIdx.mergeSort (λa b=> !rB b a)).Pairwise (λa b=>(!rB b a)=true):=by
  apply List.pairwise_mergeSort
  ·intro a b c e f;rw[h9]at*
   rw[tA]at*
   intro h;apply e;rw[pI]at*
   by_cases j:b.1<c.1\/(c.1=b.1/\c.2<b.2);·exact absurd (by rw[pI];omega) f
   ·omega
  ·intro a b;rw[jE,h9,h9];rcases hb:rB b a with _|_;·exact .inl rfl
   ·exact .inr (P0 _ _ hb)
 have h2:(rs.zipIdx.mergeSort (λa b=> !rB b a)).Pairwise (λa b=>a.2≠b.2):=by
  have:=((y2 rs.zipIdx (λa b=> !rB b a)).map (·.2)).nodup_iff.2 P2;exact kc.1 this
 refine(h1.and h2).imp ?_;rintro a b ⟨d,g⟩;rw[h9,tA]at d;rw[pI];have i:¬ (a.1<b.1\/(b.1=a.1/\b.2<a.2)):=λh=>d (pI.2 h);omega
def kT:bR->bA Nat->bR
 |out,[]=>out
 |out,a::r=>kT (out.set a (out.getD a 0+1)) r
def DZ:∀(b:bA Nat) (out:bR),(kT out b).length=out.length
 |[],_=>rfl
 |a::r,out=>by rw[kT,DZ r];simp
def P4:∀(c:bA Nat) (out:bR) (a:Nat),kT out (c++[a])=(kT out c).set a ((kT out c).getD a 0+1)
 |[],out,a=>rfl
 |b::r,out,a=>by rw[o4,kT,kT,P4 r]
def yn:∀(b:bA Nat) (out:bR) (i:Nat) (x:Int),b.Nodup->out[i]?=some x->(kT out b)[i]?=some (x+if i∈b then 1 else 0)
 |[],out,i,x,_,hx=>by simp[kT,hx]
 |a::r,out,i,x,hn,hx=>by
  have c:=rJ.1 hn;have d:i<out.length:=(c4.1 hx).1;rw[kT];by_cases e:a=i
  ·subst e;have h1:(out.set a (out.getD a 0+1))[a]?=some (x+1):=by
    rw[iZ d,dT,hx];rfl
   rw[yn r _ _ _ c.2 h1,bJ c.1,bL (by simp)];simp
  ·have h1:(out.set a (out.getD a 0+1))[i]?=some x:=by rw[ja e];exact hx
   rw[yn r _ _ _ c.2 h1];have:(i∈a::r)↔i∈r:=by rw[ey];exact⟨λh=>h.resolve_left (λh=>e h.symm),.inr⟩
   simp only[this]
def my(x:Int)(l:bR):cn (x::l)=x+cn l:=by
 have h:∀(l:bR) (a b:Int),l.foldl (· + ·) (a+b)=a+l.foldl (· + ·) b:=by
  intro l;induction l with
  |nil=>intro a b;rfl
  |cons y l c=>intro a b;rw[Gh,Gh,Gu,c]
 unfold cn;rw[Gh,Int.add_comm,h]
def rn:cn []=0:=rfl
def P5:∀ {l:bR} {i:Nat},i<l.length->cn (l.set i (l.getD i 0+1))=cn l+1
 |x::l,0,_=>by simp[my];omega
 |x::l,i+1,h=>by
  have:=P5 (l:=l) (i:=i) (by simpa using h);simp only[Tm,List.getD_cons_succ,my,this];omega
def P6:∀(b:bA Nat) (out:bR),(∀i∈b,i<out.length)->cn (kT out b)=cn out+b.length
 |[],out,_=>by simp[kT]
 |a::r,out,h=>by
  rw[kT,P6 r _ (by intro i c;simpa using h i (fT _ c)),P5 (h a (by simp))];simp;omega
end Go.Kc
namespace Go.Kc
def hR(n:Int)(ws:bR):bR:=ws.map λw=>n*w/cn ws
def gv(n:Int)(ws:bR):bR:=ws.map λw=>n*w%cn ws
def iW(n:Int)(ws:bR):Int:=n-cn (hR n ws)
def P7{n:Int}{ws:bR}(hr:iu n ws=true)(a:cn ws≠0):
  iV n ws=ws.zipIdx.map λp:Int×Nat=>n*p.1/cn ws+if(ahead (gv n ws) p.2 (n*p.1%cn ws):Int)<iW n ws then 1 else 0:=by
 unfold iV;rw[bJ (by rw[hr];decide),bJ a];rfl
def D0:∀(a b:bR),cn (a++b)=cn a+cn b
 |[],b=>by simp[rn]
 |x::a,b=>by rw[o4,my,my,D0 a b];omega
def P8(n:Int):∀ws:bR,cn (ws.map (n* ·))=n*cn ws
 |[]=>by simp[rn]
 |w::ws=>by rw[kd,my,my,P8 n ws,Int.mul_add]
def P9(m:Int)(f:Int->Int):∀ws:bR,cn (ws.map f)=m*cn (ws.map λw=>f w/m)+cn (ws.map λw=>f w%m)
 |[]=>by simp[rn]
 |w::ws=>by
  rw[kd,kd,kd,my,my,my,P9 m f ws,Int.mul_add];have:=Int.mul_ediv_add_emod (f w) m;omega
def n2:∀ {l:bR},(∀x∈l,0<=x)->0<=cn l
 |[],_=>by simp[rn]
 |x::l,h=>by
  rw[my];have:=h x (by simp);have:=n2 (l:=l) (λy a=>h y (fT _ a));omega
def Qa{m:Int}:∀ {l:bR},(∀x∈l,0<=x/\x<=m)->cn l<=m*(l.countP λx=>decide (0<x))
 |[],_=>by simp[rn]
 |x::l,h=>by
  rw[my,Gf];have h1:=h x (by simp);have h2:=Qa (l:=l) (λy a=>h y (fT _ a));by_cases hx:0<x;·rw[bL (by simpa using hx),Gl,Int.mul_add];omega
  ·rw[bJ (by simpa using hx)];simp;omega
def aHG{l:bR}(h:∀x∈l,0<=x){x:Int}(hx:x∈l):x<=cn l:=by
 induction l with
 |nil=>cases hx
 |cons y l b=>
  rw[my];have h1:=h y (by simp);have h2:=n2 (l:=l) (λz a=>h z (fT _ a));rcases ey.1 hx with rfl|hx;·omega
  ·have:=b (λz a=>h z (fT _ a)) hx;omega
def s8{n:Int}{ws:bR}(h:iu n ws=true):(0<=n/\n<=1048576)/\ws.length<=64/\∀w∈ws,0<=w/\w<=top:=by
 simpa[iu,and_assoc]using h
variable{n:Int}{ws:bR}
def aHh:cn ws*iW n ws=cn (gv n ws):=by
 have h:=P9 (cn ws) (n* ·) ws;rw[P8]at h;unfold iW hR gv;rw[Int.mul_sub,Int.mul_comm _ n];omega
def D1(a:0<cn ws):∀x∈gv n ws,0<=x/\x<cn ws:=by
 intro x hx;obtain⟨w,_,rfl⟩:=fo.1 hx;exact⟨Gn _ bu,Int.emod_lt_of_pos _ a⟩
def s9(a:0<cn ws):0<=iW n ws/\iW n ws<=(gv n ws).countP (λx=>decide (0<x)):=by
 have h1:=aHh (n:=n) (ws:=ws);have h2:=n2 (l:=gv n ws) (λx hx=>(D1 a x hx).1);have b:=Qa (m:=cn ws) (l:=gv n ws) (λx hx=>⟨(D1 a x hx).1,Int.le_of_lt (D1 a x hx).2⟩);rw[<- h1]at h2 b;exact⟨Int.nonneg_of_mul_nonneg_right h2 a,Int.le_of_mul_le_mul_left b a⟩
def Qb(a:0<cn ws):iW n ws<=ws.length:=by
 have h1:=(s9 (n:=n) a).2;have h2:=FU (p:=λx=>decide (0<x)) (l:=gv n ws);have b:(gv n ws).length=ws.length:=by simp[gv]
 omega
def aEo(a:0<cn ws){i:Nat}{r:Int}(hr:(gv n ws)[i]?=some r)(b:(ahead (gv n ws) i r:Int)<iW n ws):0<r:=by
 refine rE λhn=>?_;have h1:=(s9 (n:=n) a).2;have h2:((gv n ws).countP λx=>decide (0<x))<=ahead (gv n ws) i r:=by
  have e:(gv n ws).countP (λx=>decide (0<x))=(gv n ws).zipIdx.countP (λp=>decide (0<p.1)):=by
   conv=>lhs;rw[<- List.zipIdx_map_fst 0 (gv n ws)]
   rw[List.countP_map];rfl
  unfold ahead;rw[e,<- List.countP_eq_length_filter];refine List.countP_mono_left λp _ hp=>?_;have:0<p.1:=by simpa using hp
  rw[jE];exact .inl (by simp;omega)
 omega
def Qc(hr:iu n ws=true)(a:cn ws≠0){i:Nat}{w:Int}(hw:ws[i]?=some w):(iV n ws)[i]?=some (n*w/cn ws+if(ahead (gv n ws) i (n*w%cn ws):Int)<iW n ws then 1 else 0):=by
 rw[P7 hr a,eI,List.getElem?_zipIdx,hw];simp
def pJ(hr:iu n ws=true):(iV n ws).length=ws.length:=by
 by_cases a:cn ws=0;·unfold iV;rw[bJ (by rw[hr];decide),bL a];simp
 ·rw[P7 hr a];simp
def Qd(hr:iu n ws=true)(c:0<cn ws){S:bA (Int×Nat)}(hp:S.Perm (gv n ws).zipIdx)(f:S.Pairwise λa b=>rB a b=true):
  iV n ws=kT (hR n ws) ((S.take (iW n ws).toNat).map (·.2)):=by
 apply hg;intro i;cases hw:ws[i]? with
 |none=>
  have:ws.length<=i:=FN.1 hw;rw[g2 (by rw[pJ hr];exact this),g2 (by rw[DZ];simpa[hR]using this)]
 |some w=>
  have h1:(hR n ws)[i]?=some (n*w/cn ws):=by simp[hR,hw]
  have h2:(gv n ws)[i]?=some (n*w%cn ws):=by simp[gv,hw]
  rw[Qc hr bu hw,yn _ _ _ _ (P3 hp _) h1];have d:=aGy hp f (m:=(iW n ws).toNat) h2;have g:=(s9 (n:=n) c).1;have e:(ahead (gv n ws) i (n*w%cn ws):Int)<iW n ws↔i∈(S.take (iW n ws).toNat).map (·.2):=by rw[<- d];omega
  simp only[e]
def aDV(hr:iu n ws=true)(a:0<cn ws):cn (iV n ws)=n:=by
 obtain⟨S,hp,d⟩:=aF0 (gv n ws);rw[Qd hr a hp d,P6 _ _ (λi c=>by simpa[hR,gv]using aJy hp i c)];have h1:=Qb (n:=n) a;have h2:=(s9 (n:=n) a).1;have b:S.length=ws.length:=by rw[hp.length_eq];simp[gv]
 rw[en,hJ,b];have:iW n ws=n-cn (hR n ws):=rfl;omega
def D2(hr:iu n ws=true)(c:0<cn ws){i:Nat}{w:Int}(hw:ws[i]?=some w):∃x,(iV n ws)[i]?=some x/\0<=x/\(n<=cn ws->x<=w)/\(cn ws<=n->w<=x):=by
 obtain⟨⟨g,o⟩,hl,f⟩:=s8 hr;have a:=f w (eH hw);have h2:(gv n ws)[i]?=some (n*w%cn ws):=by simp[gv,hw]
 refine⟨_,Qc hr bu hw,?_⟩;have h:=Int.mul_ediv_add_emod (n*w) (cn ws);have p:=Gn (n*w) (b:=cn ws) bu;have j:=aEo (n:=n) c h2;have q:0<=n*w/cn ws:=zc (zd g a.1) bu;refine⟨?_,λhle=>?_,λhle=>?_⟩;·split<;>omega
 ·have d:n*w<=cn ws*w:=FL hle a.1;have k:n*w/cn ws<=w:=Int.ediv_le_of_le_mul c (by rw[Int.mul_comm w];exact d);split
  ·next l=>
   have r:=j l;have m:n*w/cn ws<w:=by
    refine rE λs=>?_;have e:n*w/cn ws=w:=by omega
    rw[e]at h;omega
   omega
  ·omega
 ·have d:cn ws*w<=n*w:=FL hle a.1;have k:w<=n*w/cn ws:=(Int.le_ediv_iff_mul_le c).2 (by rw[Int.mul_comm w];exact d);split<;>omega
end Go.Kc
namespace Go.Mp
open Go Go.Vc Go.Sp Go.Proofs Go.Kc Go.Mp.Sh
variable{E:Env}{L:cv}{w:bH}
def Qe(x:Int)(w:bH):Calls P CH #[.int .u64 x] w (cA λv w'=>v=.bool false/\w'=w):=by
 apply Ym;exact⟨by simp,rfl⟩
def aDq(x y:Int)(w:bH):Calls P Ji #[.int .u64 x,.int .u64 y] w (cA λv w'=>∃r:Int,v=Iv r/\decide (r<0)=decide (x<y)/\w'=w):=by
 apply XZ;unfold Md qF;refine use (Qe x w) ?_;rintro _ _ ⟨rfl,rfl⟩;refine⟨_,rfl,use (Qe y _) ?_⟩;rintro _ _ ⟨rfl,rfl⟩;refine⟨_,rfl,dG (dG (cX (λh=>⟨-1,rfl,by simp[h],rfl⟩) (λh=>gn (λh2=>⟨1,rfl,?_,rfl⟩) (λh2=>⟨0,rfl,?_,rfl⟩))))⟩;·rw[di (show ¬ x<y by omega)];rfl
 ·rw[di (show ¬ x<y by omega)];rfl
def vl(a b:cS):Prop:=b.low<a.low\/(a.low=b.low/\a.at_<b.at_)
def yo(a b:cS):Bool:=decide (b.low<a.low)
def aJx:Sh.lo vl (λa b=>a.at_<b.at_) yo:=by
 refine⟨⟨λx y z h1 h2=>?_,λx h=>?_,λx y h=>?_⟩,λx y h e=>?_,λx y h=>?_⟩;·unfold vl at *;omega
 ·unfold vl at h;omega
 ·unfold vl;obtain⟨a,b⟩:=x;obtain⟨c,d⟩:=y;have:¬ (a=c/\b=d):=λ⟨h1,h2⟩=>h (by rw[h1,h2]);simp only;omega
 ·rw[e]at h;exact absurd h (Int.lt_irrefl _)
 ·unfold yo vl;have h:x.at_<y.at_:=h;rw[decide_eq_true_iff];omega
def ta(p:Int×Nat):cS:=⟨p.2,p.1⟩
def pK(x:cS):Int×Nat:=(x.low,x.at_.toNat)
def Qf(p:Int×Nat):pK (ta p)=p:=by simp[pK,ta]
def aGK(x y:cS)(h:Sep E L w):Calls P Cz #[.agg #[Iv x.at_,.int .u64 x.low],.agg #[Iv y.at_,.int .u64 y.low]] w (cA λv w'=>∃r:Int,v=Iv r/\decide (r<0)=yo x y/\Sep E L w'):=by
 apply XY;unfold Mc qQ;refine Al.i h (λa c h1=>Al.i h1 (λb w2 h2=>?_));have h2:Sep E (bC b [Iv y.at_,.int .u64 y.low]::bC a [Iv x.at_,.int .u64 x.low]::L) w2:=h2;refine ld h2 0 rfl rfl rfl (ld h2 1 rfl rfl rfl (use (aDq _ _ w2) ?_));rintro _ d ⟨r,rfl,hr,rfl⟩;exact⟨r,rfl,r,rfl,hr,h2.tail.tail⟩
def aDJ(n:Nat)(l:bR)(hl:l.length=n):l.map (λ_=>(0:Int))=List.replicate n 0:=by
 rw[<- hl];simp[List.map_const']
def Qg:hi P xc=some (16,2,[Iv 0,.int .u64 0]):=by kernel_rfl
def aFL{s:Sl}{q:Nat}{l:bA cS}{x:cS}(hn:s.n=l.length)(hb:l.length<100000000)(h:Sep E (bC q x.vs::bw s 2 (bP cS.vs l)::L) w){G:Sl->bg0}(g:∀s' a,s'.n=l.length+1->Sep E (bw s' 2 (bP cS.vs (l++[x]))::L) a->G s' a):
  ∃d:Sl,∃a,Sem.run P (Builtin.append_ #[xc,xc] xc #[Sv s,.slice (some ⟨q,0,none⟩) 1 1]) w=.ok (Sv d) a/\G d a:=by
 have e:=Src.bC (n:=1) (c:=1) h (i:=0) rfl Qg rfl (λu hu=>by simp[cS.vs]at hu;rcases hu with rfl|rfl<;>rfl);refine bw.append h.swap Qg rfl e bu (by rw[hn];omega) (λs' a b h1=>?_);refine g s' a (by rw[b,hn]) ?_;rw[m4,oL];exact(h1.fr 0 rfl).ro 2 [0] rfl
def aIw{s:Sl}{l:bR}{n:Int}(hn:s.n=l.length)(h:Sep E (bw s 1 (bD l)::L) w)(bd:l.length<1000000):
  Calls P xJ #[Iv n,Sv s] w (cA λv w'=>∃e:Sl,v=Sv e/\e.n=(iV n l).length/\Sep E (bw e 1 (bD (iV n l))::bw s 1 (bD l)::L) w'):=by
 apply Xo;unfold LC qD qE qF qL qO qQ qU qW zM zN zT;dsimp only;refine use (PY hn h) ?_;rintro _ bn ⟨rfl,h1⟩;refine⟨_,rfl,?_⟩;cases hr:iu n l with
 |false=>
  have e:iV n l= []:=by unfold iV;rw[bL hr]
  rw[e];exact bT rfl ⟨⟨none,0,0⟩,rfl,rfl,bw.none_ h1⟩
 |true=>
  refine bF rfl ?_;obtain⟨⟨am,bg⟩,hl,c⟩:=s8 hr;refine s7 (n:=s.n) bu h1 (λI w2 u h2=>?_);rw[hn]at u h2;refine use (DY (Ints.at_ (q:=1) rfl hn) c hl h2) ?_;rintro _ bo ⟨rfl,ag⟩;refine⟨_,rfl,eX (λe0=>?_) (λbh=>?_)⟩
  ·have e:iV n l=List.replicate l.length 0:=by unfold iV;rw[bJ (by rw[hr];decide),bL e0];exact aDJ _ _ rfl
   rw[e];exact⟨I,rfl,by simpa using u,ag⟩
  have Z:0<cn l:=by have:=n2 (l:=l) (λx hx=>(c x hx).1);omega
  have a9:cn l<=64*1099511627776:=by
   have:=(DX c l.length (ep _)).2;rw[gg]at this;omega
  have M:(hR n l).length=l.length:=by simp[hR]
  have af:(gv n l).length=l.length:=by simp[gv]
  let g:Nat->bA cS:=λk=>((gv n l).zipIdx.take k).map ta;have d:∀k,k<=l.length->(g k).length=k:=λk hk=>by simp[g,af,hk]
  refine⟨λrs left i w'=>∃k:Nat,i=k/\k<=l.length/\left=n-cn ((hR n l).take k)/\rs.n=k/\Sep E (bw rs 2 (bP cS.vs (g k))::bw I 1 (bD ((hR n l).take k++List.replicate (l.length-k) 0))::bw s 1 (bD l)::L) w',
   λ_ _ i _=>(l.length-i).toNat,⟨0,rfl,e7 _,by simp[rn],rfl,bw.none_ (by simpa using ag)⟩,?_⟩
  rintro _ rs _ _ aQ ⟨k,rfl,hk,rfl,an,O⟩;obtain⟨J,t⟩:∃f:Nat->bR,f= λk=>(hR n l).take k++List.replicate (l.length-k) 0:=⟨_,rfl⟩
  have O:Sep E (bw rs 2 (bP cS.vs (g k))::bw I 1 (bD (J k))::bw s 1 (bD l)::L) aQ:=by rw[t];exact O
  have Y:∀k,k<=l.length->(J k).length=l.length:=λk hk=>by simp[t,M];omega
  refine cX (λbf=>?_) (λaI=>?_)
  ·have ab:k<l.length:=by omega
   obtain⟨x,hx⟩:∃x,l[k]?=some x:=⟨_,dL ab⟩
   have aO:=c x (eH hx);rw[n1]at aO;refine(Ints.at_ (q:=2) rfl hn).el O k rfl hx ?_;obtain⟨N,rfl⟩:∃N:Nat,n=N:=⟨n.toNat,bu⟩
   obtain⟨X,rfl⟩:∃X:Nat,x=X:=⟨x.toNat,bu⟩
   obtain⟨T,au⟩:∃T:Nat,cn l=T:=⟨(cn l).toNat,bu⟩
   have a8:N*X<=1048576*1099511627776:=Gr bu bu;rw[ds (n:=N) bu,ds (n:=X) bu,au,ds (n:=T) bu];refine use (aGG bu bu bu aQ) ?_;rintro _ _ ⟨rfl,rfl⟩;refine⟨_,_,rfl,use (PC bu bu O) ?_⟩;rintro _ aR ⟨rfl,B⟩;refine⟨_,_,rfl,?_⟩;have bi:N*X/T<=N*X:=Gk _ _;have G:(hR N l)[k]?=some ((N*X/T:Nat):Int):=by simp[hR,hx,au]
   have ai:(gv N l)[k]?=some ((N*X%T:Nat):Int):=by simp[gv,hx,au]
   generalize N*X/T=Q at*
   generalize N*X%T=R at*
   rw[cR (n:=((Q:Nat):Int)) bu bu];refine kD (B.fr 1 rfl) (by rw[Y k hk];exact u) bu (by rw[Y k hk];omega) (λaj m=>?_);have aq:(J k).set ((k:Nat):Int).toNat ((Q:Nat):Int)=J (k+1):=by
    rw[dz,t];simp only;rw[fL G,ju k _ (by simp;omega),dm];congr 1;rw[hJ,M,o5 hk,jd,show l.length-k=(l.length-(k+1))+1 by omega,oe];rfl
   rw[aq]at m;have m:Sep E (bw I 1 (bD (J (k+1)))::bw rs 2 (bP cS.vs (g k))::bw s 1 (bD l)::L) aj:=m;have aC:(J (k+1))[k]?=some ((Q:Nat):Int):=by
    rw[t];simp only;rw[eN (by simp;omega),o2,eJ];exact G
   refine(Ints.at_ (q:=0) rfl (by rw[Y _ ab];exact u)).el m k rfl aC ?_;refine Al.i m (λp aS C=>?_);have C:Sep E (bC p (cS.vs ⟨k,((R:Nat):Int)⟩)::bw rs 2 (bP cS.vs (g k))::bw I 1 (bD (J (k+1)))::bw s 1 (bD l)::L) aS:=C.ro 3 [0,2,1] rfl;refine aFL (by rw[d k hk];exact an) (by rw[d k hk];omega) C (λs' aT aK D=>?_);have aW:g k++[⟨k,((R:Nat):Int)⟩]=g (k+1):=by
    have:((gv N l).zipIdx)[k]?=some (((R:Nat):Int),k):=by rw[List.getElem?_zipIdx,ai];simp
    simp only[g];rw[fL this,kK];rfl
   rw[aW]at D;have a5:=yk G;have ba:0<=cn ((hR (N:Int) l).take k):=n2 λy o=>by
    obtain⟨z,ay,rfl⟩:=fo.1 (m8 o);exact zc (zd bu (c z ay).1) bu
   have bb:cn ((hR (N:Int) l).take (k+1))<=cn (hR (N:Int) l):=by
    conv=>rhs;rw[<- fK (k+1) (hR (N:Int) l)]
    have:0<=cn ((hR (N:Int) l).drop (k+1)):=n2 λy o=>by
     obtain⟨z,ay,rfl⟩:=fo.1 (rH o);exact zc (zd bu (c z ay).1) bu
    rw[D0];omega
   have al:=(s9 (n:=(N:Int)) Z).1;have a2:iW (N:Int) l=N-cn (hR (N:Int) l):=rfl;rw[de,cR bu bu];refine⟨⟨k+1,rfl,ab,bu,by rw[aK,d k hk],by rw[t]at D;exact D⟩,?_⟩;show(((l.length:Nat):Int)-((k+1:Nat):Int)).toNat<(((l.length:Nat):Int)-(k:Int)).toNat;omega
  ·have:k=l.length:=by omega
   clear aI;have ae:g k=(gv n l).zipIdx.map ta:=by simp only[g];rw[iq (by simp[af];omega)]
   have aw:n-cn ((hR n l).take k)=iW n l:=by rw[this,<- M,gg];rfl
   have aB:J k=hR n l:=by
    rw[t,this];simp only;rw[jd,<- M,gg];simp
   rw[aw];rw[aB]at O;have aY:(g k).Pairwise (λa b=>a.at_<b.at_):=by
    rw[ae,kc];have B:((gv n l).zipIdx.map (·.2)).Pairwise (· < ·):=by rw[List.zipIdx_map_snd];exact List.pairwise_lt_range'
    exact(kc.1 B).imp (λ{a b} h=>by show(a.2:Int)<(b.2:Int);omega)
   refine use (Sh.DW aJx aY (by rw[d k hk];exact an) (by rw[d k hk];omega) ?_ O) ?_
   ·intro bm x y aR _ B;exact⟨Cz,_,rfl,by kernel_rfl,use (K:=λv w'=>∃r:Int,v=Iv r/\decide (r<0)=yo x y/\Sep E _ w') (aGK x y B) (λv w' ⟨r,a6,hr,a4⟩=>⟨r,by rw[a6],hr,a4⟩)⟩
   rintro _ aR ⟨rfl,l',H,ax,B⟩;have av:l'.length=l.length:=by rw[H.length_eq,d k hk,this]
   have ad:∀x∈l',0<=x.at_/\ta (pK x)=x:=by
    intro x hx;have:=H.mem_iff.1 hx;rw[ae]at this;obtain⟨p,_,rfl⟩:=fo.1 this;exact⟨by show(0:Int)<=(p.2:Int);omega,by rw[Qf]⟩
   obtain⟨S,U⟩:∃S,S=l'.map pK:=⟨_,rfl⟩
   have aa:S.Perm (gv n l).zipIdx:=by
    have:=H.map pK;rw[ae,tI,show pK ∘ ta=id from funext Qf,List.map_id]at this;rw[U];exact this
   have aD:S.Pairwise λa b=>rB a b=true:=by
    rw[U,kc];refine FO (λ{a b} ah hb aE=>?_) ax;have h1:=(ad a ah).1;have h2:=(ad b hb).1;rw[pI];show b.low<a.low\/(a.low=b.low/\a.at_.toNat<b.at_.toNat);rcases aE with h|⟨ag,O⟩
    ·exact .inl h
    ·exact .inr ⟨ag,bu⟩
   have aL:=Qd hr Z aa aD;have al:=s9 (n:=n) Z;have be:=Qb (n:=n) Z;have aZ:=bw.cap B;refine⟨rfl,⟨al.1,bu⟩,?_⟩;obtain⟨A,V⟩:∃A:Nat->bR,A= λj=>kT (hR n l) ((S.take j).map (·.2)):=⟨_,rfl⟩
   have W:∀j,(A j).length=l.length:=λj=>by rw[V];simp only[DZ,M]
   have az:A 0=hR n l:=by rw[V];rfl
   have aA:∀j (i:Nat),i<l.length->0<=(A j).getD i 0/\(A j).getD i 0<=1048577:=by
    intro j i a1;obtain⟨x,hx⟩:∃x,l[i]?=some x:=⟨_,dL a1⟩
    have aM:=c x (eH hx);have aN:=aHG (λy o=>(c y o).1) (eH hx);have hb:(hR n l)[i]?=some (n*x/cn l):=by simp[hR,hx]
    have:=yn _ _ _ _ (P3 aa j) hb;rw[V,dT];simp only;rw[this];have D:0<=n*x/cn l:=zc (zd am aM.1) bu;have ar:n*x/cn l<=n:=Int.ediv_le_of_le_mul Z (be1 aN am);simp only[mH];split<;>omega
   rw[<- az]at B;refine⟨λx w'=>∃j:Nat,x=j/\j<=(iW n l).toNat/\Sep E (bw rs 2 (bP cS.vs l')::bw I 1 (bD (A j))::bw s 1 (bD l)::L) w',λx _=>(iW n l-x).toNat,⟨0,rfl,e7 _,B⟩,?_⟩;rintro _ x aj ⟨j,rfl,bl,m⟩;refine cX (λa3=>?_) (λa0=>?_)
   ·have aJ:j<l'.length:=by omega
    obtain⟨y,o⟩:∃y,l'[j]?=some y:=⟨_,dL aJ⟩
    have ap:=(ad y (eH o)).1;have aP:y.at_.toNat<l.length:=by
     have C:S[j]?=some (pK y):=by rw[U,eI,o];rfl
     have D:=ym.1 (aa.mem_iff.1 (eH C));have:=(c4.1 D).1;rw[af]at this;exact this
    have aH:∀ {F:Addr->Prop},(∀a,aj.cell? (a.add 0)=some (Iv y.at_)->aj.cell? (a.add 1)=some (.int .u64 y.low)->F a)->cM (gj rs.p 0 rs.c 2) ((iW n l).toNat-0) (j:Int) 2 F:=by
     intro F a7;obtain⟨b,spare,hp,_⟩:=bw.ik m bu;have aX:gj rs.p 0 rs.c 2=some ⟨b,0,none⟩:=by unfold gj;rw[hp];split<;>rfl
     rw[aX];obtain⟨a,ah,hr,hf⟩:=lR (F:=F) (k:=j) cS.kR 0 m rfl (by rw[av];omega) (i:=(j:Int)) rfl o (λb _ aF=>a7 _ (by rw[cj];exact aF 0 _ rfl) (by rw[cj];exact aF 1 _ rfl));rw[hp]at ah;have:=cU ah;subst this;exact⟨_,rfl,⟨bu,bu⟩,hf⟩
    refine aH (λa aU aV=>⟨_,aU,_,aV,Al.i m (λp aS C=>ew _ C rfl (λaT D=>?_))⟩);refine ld D 0 rfl rfl rfl ?_;have ar:Sep E (bw I 1 (bD (A j))::bw rs 2 (bP cS.vs l')::bw s 1 (bD l)::L) aT:=D.tail.fr 1 rfl;have ao:I.n=(A j).length:=by rw[W];exact u
    refine mu 0 ar rfl ao ap (by rw[W];omega) (λbk aG=>⟨_,aG,?_⟩);have bc:=aA j y.at_.toNat aP;rw[cR bu bu];refine kD ar ao ap (by rw[W];omega) (λbj ak=>?_);have e:(A j).set y.at_.toNat ((A j).getD y.at_.toNat 0+1)=A (j+1):=by
     rw[V];simp only;have C:S[j]?=some (pK y):=by rw[U,eI,o];rfl
     rw[fL C,kK,kd,List.map_nil,P4];rfl
    rw[e]at ak;rw[de];refine⟨⟨j+1,rfl,bu,ak.swap⟩,?_⟩;show(iW n l-((j+1:Nat):Int)).toNat<(iW n l-(j:Int)).toNat;omega
   ·have:j=(iW n l).toNat:=by omega
    subst this;have e:A (iW n l).toNat=iV n l:=by rw[aL,V]
    rw[e]at m;exact⟨I,rfl,by rw[u,pJ hr],m.tail⟩
end Go.Mp
namespace Go.Kc
def iB(n:Int)(l:bR):bR:=List.zipWith min (iV n l) l
variable{n:Int}{l:bR}
def D3(hr:iu n l=true):(iB n l).length=l.length:=by
 simp[iB,pJ hr]
def rp(hr:iu n l=true)(a:0<cn l){i:Nat}{x:Int}(hx:l[i]?=some x):∃p,(iV n l)[i]?=some p/\(iB n l)[i]?=some (min p x)/\0<=min p x/\min p x<=x:=by
 obtain⟨p,hp,h1,h2,b⟩:=D2 hr a hx;have c:=(s8 hr).2.2 x (eH hx);refine⟨p,hp,by simp[iB,FV,hp,hx],bu,bu⟩
def D4(hr:iu n l=true)(b:0<cn l)(hn:0<n):iB n l=ji n l:=by
 unfold ji;rw[bJ (by rw[hr];decide),cF];by_cases hle:cn l<=n
 ·rw[bL hle];apply hg;intro i;cases hx:l[i]? with
  |none=>
   have:=FN.1 hx;exact g2 (by rw[D3 hr];exact this)
  |some x=>
   obtain⟨p,hp,h1,h2,d⟩:=D2 hr b hx;obtain⟨p',a,c,_,_⟩:=rp hr b hx;rw[hp]at a;cases a;rw[c,Int.min_eq_right (d hle)]
 ·rw[bJ hle];apply hg;intro i;cases hx:l[i]? with
  |none=>
   have:=FN.1 hx;rw[g2 (by rw[D3 hr];exact this),g2 (by rw[pJ hr];exact this)]
  |some x=>
   obtain⟨p,hp,h1,h2,d⟩:=D2 hr b hx;obtain⟨p',a,c,_,_⟩:=rp hr b hx;rw[hp]at a;cases a;rw[c,hp,Int.min_eq_left (h2 bu)]
def aF4(hr:iu n l=true)(a:0<cn l)(hn:0<n):0<cn (iB n l)/\cn (iB n l)<=n/\(cn (iB n l)=n\/iB n l=l):=by
 have e:=D4 hr a hn;rw[e];unfold ji;rw[bJ (by rw[hr];decide),cF];by_cases hle:cn l<=n;·rw[bL hle];exact⟨a,hle,.inr rfl⟩
 ·rw[bJ hle,aDV hr a];exact⟨hn,g3 _,.inl rfl⟩
def D5(hr:iu n l=true)(h:n<=0\/cn l=0):ji n l=List.replicate l.length 0:=by
 have h1:=(s8 hr).1.1;unfold ji;rw[bJ (by rw[hr];decide),eJ];simp[List.map_const']
end Go.Kc
namespace Go.Mp
open Go Go.Vc Go.Sp Go.Proofs Go.Kc Go.Mp.Sh
variable{E:Env}{L:cv}{w:bH}
def oR(n:Int)(c h:Sl)(K:bg1)(w:bH):Prop:=
  ∃(i:Int->bg0) (l:Int->bH->Nat),i n w/\∀C:Nat->bE,∀n14:Int,∀f:bH,i n14 f->∃k:bg0,(bif(decide (n14
   >0))then(Calls P uN #[(Sv c)] f λz p=>∃s:Int,z=.returned (Iv s)/\bif(decide (s>0))then(k p)else
   (K (Sv h) p))else(K (Sv h) f))/\(∀D:Nat->bE,∀o:bH,k o->Calls P xJ #[(Iv n14),
   (Sv c)] o λA B=>∃g:Sl,A=.returned (Sv g)/\∃(j:Int->Int->bg0) (m:Int->Int->bH->Nat),
   j n14 0 B/\∀E:Nat->bE,∀n28:Int,∀a:Int,∀b:bH,j n28 a b->bif(decide (a<((g.n:Nat):Int)))then(cM g.p g.n a 1
   λv=>∃d:Int,b.cell? v=some (Iv d)/\cM c.p c.n a 1 λa32=>∃e:Int,b.cell? a32=some (Iv e)/\cM h.p h.n a 1
   λx=>∃t:Int,b.cell? x=some (Iv t)/\cM h.p h.n a 1 λa36=>St a36 (Iv (i64.wrap (t+(min1 d e)))) (λq=>
   cM c.p c.n a 1 λy=>∃u:Int,q.cell? y=some (Iv u)/\cM c.p c.n a 1 λa40=>St a40 (Iv (i64.wrap (u-(min1 d
   e)))) (λr=>(j (i64.wrap (n28-(min1 d e))) (i64.wrap (a+1)) r/\m (i64.wrap (n28-(min1 d e))) (i64.wrap
   (a+1)) r<m n28 a b)) q) b)else((i n28 b/\l n28 b<l n14 f)))
def Qh{n:Int}{l:bR}{o d:Sl}{K:bg1}{M:cv}(hr:iu n l=true)(z:o.n=l.length)(S:d.n=l.length)(h:Sep E (bw o 1 (bD l)::bw d 1 (bD (List.replicate l.length 0))::M) w)(hK:∀w',Sep E (bw d 1 (bD (ji n l))::M) w'->K (Sv d) w'):oR n o d K w:=by
 unfold oR;obtain⟨⟨aq,ar⟩,hl,u⟩:=s8 hr;let st2:Int->bg0:=λn' w'=>∃r:bR,(n'<=0\/cn r=0)/\r.length=l.length/\(∀x∈r,0<=x/\x<=top)/\Sep E (bw o 1 (bD r)::bw d 1 (bD (ji n l))::M) w';refine⟨λn' w'=>(n'=n/\Sep E (bw o 1 (bD l)::bw d 1 (bD (List.replicate l.length 0))::M) w')\/st2 n' w',λn' _=>n'.toNat,.inl ⟨rfl,h⟩,?_⟩;rintro _ n' aD (⟨rfl,h1⟩|⟨r,P,au,ag,h1⟩);rotate_left
 ·refine⟨λ_=>False,gn (λR=>?_) (λhle=>hK _ h1.tail),λ_ _ hf=>hf.elim⟩;refine use (DY (Ints.at_ (q:=0) rfl bu) ag bu h1) ?_;rintro _ w2 ⟨rfl,h2⟩;exact⟨_,rfl,gn (λJ=>bu) (λ_=>hK _ h2.tail)⟩
 refine⟨λw'=>0<n'/\0<cn l/\Sep E (bw o 1 (bD l)::bw d 1 (bD (List.replicate l.length 0))::M) w',gn (λR=>?_) (λhle=>hK _ ?_),?_⟩
 ·refine use (DY (Ints.at_ (q:=0) rfl z) u hl h1) ?_;rintro _ w2 ⟨rfl,h2⟩;refine⟨_,rfl,gn (λJ=>⟨R,J,h2⟩) (λhle=>hK _ ?_)⟩;have:=n2 (l:=l) (λx hx=>(u x hx).1);rw[D5 hr (.inr bu)];exact h2.tail
 ·rw[D5 hr (.inl bu)];exact h1.tail
 rintro _ w2 ⟨L,D,h2⟩;refine use (aIw z h2 bu) ?_;rintro _ aj ⟨ps,rfl,T,U⟩;refine⟨ps,rfl,?_⟩;rw[pJ hr]at T;have b:=D3 hr;obtain⟨O,H⟩:∃f:Nat->bR,f= λk=>(iB n' l).take k++List.replicate (l.length-k) 0:=⟨_,rfl⟩
 obtain⟨F,G⟩:∃f:Nat->bR,f= λk=>(List.zipWith (· - ·) l (iB n' l)).take k++l.drop k:=⟨_,rfl⟩
 have I:∀k,k<=l.length->(O k).length=l.length:=λk hk=>by rw[H];simp[b];omega
 have B:∀k,k<=l.length->(F k).length=l.length:=λk hk=>by rw[G];simp[b];omega
 have aa:O 0=List.replicate l.length 0:=by rw[H];simp
 have X:F 0=l:=by rw[G];simp
 have ab:O l.length=iB n' l:=by rw[H];simp only;rw[jd,<- b,gg];simp
 have Y:F l.length=List.zipWith (· - ·) l (iB n' l):=by rw[G];simp only;rw[iq (by simp[b]),we,hs]
 have U:Sep E (bw ps 1 (bD (iV n' l))::bw o 1 (bD (F 0))::bw d 1 (bD (O 0))::M) aj:=by rw[aa,X];exact U
 have C:∀k,0<=cn ((iB n' l).take k):=λk=>n2 λy N=>by
  obtain⟨i,j⟩:=pW.1 (m8 N);have c:=(c4.1 j).1;rw[b]at c;obtain⟨p,_,g,s,_⟩:=rp hr D (dL c);rw[g]at j;cases j;exact s
 obtain⟨am,an,af⟩:=aF4 hr D L;refine⟨λm x w'=>∃k:Nat,x=k/\k<=l.length/\m=n'-cn ((iB n' l).take k)/\Sep E (bw ps 1 (bD (iV n' l))::bw o 1 (bD (F k))::bw d 1 (bD (O k))::M) w',λ_ x _=>(l.length-x).toNat,⟨0,rfl,e7 _,by simp[rn],U⟩,?_⟩;rintro _ _ _ aE ⟨k,rfl,hk,rfl,A⟩;refine cX (λap=>?_) (λao=>?_)
 ·have v:k<l.length:=by omega
  obtain⟨x,hx⟩:∃x,l[k]?=some x:=⟨_,dL v⟩
  obtain⟨p,hp,V,az,aA⟩:=rp hr D hx;have ah:=u x (eH hx);rw[n1]at ah;have Q:(F k)[k]?=some x:=by
   rw[G];simp only;rw[fR (by rw[hJ,List.length_zipWith,b];omega)];simp[b,o5 hk,hx]
  have ad:(O k)[k]?=some 0:=by
   rw[H];simp only;rw[fR (by simp;omega)];rw[hJ,b,o5 hk,jd,od,eJ]
  refine(Ints.at_ (q:=0) rfl (by rw[pJ hr];exact T)).el A k rfl hp ?_;refine(Ints.at_ (q:=1) rfl (by rw[B k hk];exact z)).el A k rfl Q ?_;refine(Ints.at_ (q:=2) rfl (by rw[I k hk];exact S)).el A k rfl ad ?_;have em:min1 p x=min p x:=by unfold min1;omega
  rw[em];generalize hm:min p x=t at*
  rw[cR (n:=0+t) bu bu];refine kD (A.fr 2 rfl) (by rw[I k hk];exact S) bu (by rw[I k hk];omega) (λak g=>?_);have ae:(O k).set ((k:Nat):Int).toNat (0+t)=O (k+1):=by
   rw[dz,zv,H];simp only;rw[fL V,ju k _ (by simp;omega),dm];congr 1;rw[hJ,b,o5 hk,jd,show l.length-k=(l.length-(k+1))+1 by omega,oe];rfl
  rw[ae]at g;have g:Sep E (bw d 1 (bD (O (k+1)))::bw ps 1 (bD (iV n' l))::bw o 1 (bD (F k))::M) ak:=g;refine(Ints.at_ (q:=2) rfl (by rw[B k hk];exact z)).el g k rfl Q ?_;rw[cR (n:=x-t) bu bu];refine kD (g.fr 2 rfl) (by rw[B k hk];exact z) bu (by rw[B k hk];omega) (λal s=>?_);have Z:(F k).set ((k:Nat):Int).toNat (x-t)=F (k+1):=by
   rw[dz,G];simp only;have P:(List.zipWith (· - ·) l (iB n' l))[k]?=some (x-t):=by simp[FV,hx,V]
   rw[fL P,ju k _ (by simp;omega),dm];congr 1;rw[hJ,List.length_zipWith,b,Nat.min_self,o5 hk,jd];rw[lD v];rfl
  rw[Z]at s;have s:Sep E (bw o 1 (bD (F (k+1)))::bw d 1 (bD (O (k+1)))::bw ps 1 (bD (iV n' l))::M) al:=s;have av:=yk V;have aw:=C k;have ax:=C (k+1);have ay:cn ((iB n' l).take (k+1))<=cn (iB n' l):=by
   conv=>rhs;rw[<- fK (k+1) (iB n' l)]
   rw[D0];have:0<=cn ((iB n' l).drop (k+1)):=n2 λy N=>by
    obtain⟨i,j⟩:=pW.1 (rH N);have c:=(c4.1 j).1;rw[b]at c;obtain⟨p,_,g,s,_⟩:=rp hr D (dL c);rw[g]at j;cases j;exact s
   omega
  rw[de,cR bu bu];refine⟨⟨k+1,rfl,v,bu,s.ro 3 [2,0,1] rfl⟩,?_⟩;show(((l.length:Nat):Int)-((k+1:Nat):Int)).toNat<(((l.length:Nat):Int)-(k:Int)).toNat;omega
 ·have v:k=l.length:=by omega
  subst v;rw[ab,Y]at A;have W:(iB n' l).take l.length=iB n' l:=by rw[<- b,gg]
  rw[W];refine⟨.inr ⟨List.zipWith (· - ·) l (iB n' l),?_,by simp[b],?_,?_⟩,by show(n'-cn (iB n' l)).toNat<n'.toNat;omega⟩;rotate_left
  ·intro y N;obtain⟨i,j⟩:=pW.1 N;have c:=(c4.1 j).1;simp[b]at c;obtain⟨p,_,g,s,aB⟩:=rp hr D (dL c);have aC:=u _ (og c);rw[FV,dL c,g]at j;simp only[fU]at j;omega
  ·rw[D4 hr D L]at A ⊢;exact A.tail
  ·rcases af with e|e;·exact .inl bu
   ·refine .inr ?_;rw[e];have:List.zipWith (· - ·) l l=l.map (λ_=>(0:Int)):=by
     apply hg;intro i;rw[FV,eI];cases l[i]? <;>simp
    rw[this];have P:∀m:bR,cn (m.map λ_=>(0:Int))=0:=by
     intro m;induction m with
     |nil=>rfl
     |cons a m ai=>rw[kd,my,ai];rfl
    exact P l
def aGC{s:Sl}{l:bR}{n:Int}(hn:s.n=l.length)(hb:l.length<1000000)(h:Sep E (bw s 1 (bD l)::L) w):
  Calls P IK #[Iv n,Sv s] w (cA λv w'=>∃e:Sl,v=Sv e/\e.n=(ji n l).length/\Sep E (bw e 1 (bD (ji n l))::bw s 1 (bD l)::L) w'):=by
 obtain⟨K,hK⟩:∃K:bg1,K= λv w'=>∃e:Sl,v=Sv e/\e.n=(ji n l).length/\Sep E (bw e 1 (bD (ji n l))::bw s 1 (bD l)::L) w':=⟨_,rfl⟩
 rw[<- hK];apply WA;unfold KZ qD qF qI qJ qO qQ qW qg;refine use (PY hn h) ?_;rintro _ k ⟨rfl,h1⟩;refine⟨_,rfl,?_⟩;cases hr:iu n l with
 |false=>
  have e:ji n l= []:=by unfold ji;rw[bL hr]
  exact bT rfl (by rw[hK,e];exact⟨⟨none,0,0⟩,rfl,rfl,bw.none_ h1⟩)
 |true=>
  refine bF rfl (Dr.i h1 (λi g=>?_));have j:(ji n l).length=l.length:=by
   unfold ji;rw[bJ (by rw[hr];decide)];split;·simp
   ·split;·rfl
    ·exact pJ hr
  have A:∃x:Sl,∃a:bH,Sem.run P (Instr.makeSlice mr (Iv ((s.n:Nat):Int)) (Iv ((s.n:Nat):Int))) i=.ok (Sv x) a/\Calls P uM #[Sv s] a λe b=>∃y:Sl,e=.returned (Sv y)/\oR n y x K b:=by
   refine s7 (n:=s.n) bu g (λx a hx c=>?_);refine use (PX c (q:=1) rfl hn bu) ?_;rintro _ b ⟨y,rfl,f,d⟩;rw[hn]at d;refine⟨y,rfl,Qh hr f bu d (λw' h'=>?_)⟩;rw[hK];exact⟨x,rfl,bu,h'⟩
  have B:Calls P uM #[Sv s] i λe b=>∃y:Sl,e=.returned (Sv y)/\∃x:Sl,∃a:bH,Sem.run P (Instr.makeSlice mr (Iv ((s.n:Nat):Int)) (Iv ((s.n:Nat):Int))) b=.ok (Sv x) a/\oR n y x K a:=by
   refine use (PX g (q:=0) rfl hn bu) ?_;rintro _ b ⟨y,rfl,f,d⟩;refine⟨y,rfl,s7 (n:=s.n) bu d (λx a hx c=>?_)⟩;rw[hn]at c;refine Qh hr f bu c.swap (λw' h'=>?_);rw[hK];exact⟨x,rfl,bu,h'⟩
  try simp only[and_true]
  repeat' first|exact A|exact B|apply And.intro
end Go.Mp
namespace Go.Mp
open Go Go.Vc Go.Sp Go.Proofs Go.Kc
variable{E:Env}{L:cv}{w W:bH}
structure c7 where
 c:eO
 failed:Int
 jn:Int
def c7.vs(r:c7):bA bE:=[Iv r.c.use,Iv r.c.cC,Iv r.failed,Iv r.jn]
def c7.lv(r:c7):r.vs.length=4:=rfl
def da(b:Nat)(C:bA eO):Asn:=fe λR:bA c7=>cG (R.map c7.c=C/\hv C) (bC b (bP c7.vs R))
def da.get{b:Nat}{C:bA eO}(h:Sep E (da b C::L) w):∃R:bA c7,R.map c7.c=C/\hv C/\R.length=64/\Sep E (bC b (bP c7.vs R)::L) w:=by
 obtain⟨R,h⟩:=Sep.ex.1 h;obtain⟨hn,h⟩:=Sep.cG.1 h;refine⟨R,hn.1,hn.2,?_,h⟩;have:=hn.2.len;rw[<- hn.1,en]at this;exact this
def da.mk{b:Nat}{C:bA eO}{R:bA c7}(h1:R.map c7.c=C)(h2:hv C)(h:Sep E (bC b (bP c7.vs R)::L) w):Sep E (da b C::L) w:=Sep.ex.2 ⟨R,Sep.cG.2 ⟨⟨h1,h2⟩,h⟩⟩
def da.ok{b:Nat}{C:bA eO}{q:Nat}(h:Sep E L w)(a:L[q]?=some (da b C)):hv C:=let ⟨_,_,h2,_⟩:=da.get (h.fr q a);h2
def D6(g:Int)(w:bH):Calls P xz #[Iv g] w (cA λv w'=>v=.bool (fX g)/\w'=w):=by
 apply VV;unfold Kz fX;exact h4 (λh=>⟨by rw[dE h];rfl,rfl⟩) (λh=>⟨by rw[di bu];rfl,rfl⟩)
def Qi(g:Int)(w:bH):Calls P B9 #[Iv g] w (cA λv w'=>v=.bool (gS g)/\w'=w):=by
 apply Xc;unfold Lv gS top;exact h4 (λh=>⟨by rw[dE h];rfl,rfl⟩) (λh=>⟨by rw[di bu];rfl,rfl⟩)
variable{b:Nat}{C:bA eO}
def D7{R:bA c7}(h1:R.map c7.c=C){g:Int}(a:fX g=true){r:c7}(hr:R[g.toNat]?=some r):ht C g=r.c:=by
 unfold ht;rw[a,bL rfl,<- h1,dT,eI,hr];rfl
def vm{q:Nat}(h:Sep E L w)(l:L[q]?=some (da b C))(g:Int):Calls P Bv #[Pb b,Iv g] w
  (cA λv w'=>∃f k:Int,v=.agg #[Iv (ht C g).use,Iv (ht C g).cC,Iv f,Iv k]/\Sep E L w'):=by
 apply VN;unfold Ko qA qF qU;refine Al.i h (λp m h1=>use (D6 g m) ?_);rintro _ w2 ⟨rfl,rfl⟩;refine⟨_,rfl,?_⟩;cases i:fX g with
 |false=>
  refine eB (ew _ h1 rfl (λn a=>⟨_,by rw[cj,a.cell];rfl,_,by rw[cj,a.cell];rfl,_,by rw[cj,a.cell];rfl,_,by rw[cj,a.cell];rfl,?_⟩));have e:ht C g=⟨0,0⟩:=by unfold ht;rw[i];rfl
  rw[e];exact⟨0,0,rfl,a.tail⟩
 |true=>
  obtain⟨R,j,o,hlen,h2⟩:=da.get (h1.fr (q+1) (by simpa using l));have d:=jM.1 i;refine dG ⟨_,rfl,lk (q:=0) c7.lv h2 rfl hlen d.1 (by exact_mod_cast d.2) (λr hr c=>?_)⟩;refine⟨_,by rw[cj];exact c 0 _ rfl,_,by rw[cj];exact c 1 _ rfl,_,by rw[cj];exact c 2 _ rfl,_,by rw[cj];exact c 3 _ rfl,?_⟩;refine ew _ h1 rfl (λn a=>⟨_,by rw[cj,a.cell];rfl,_,by rw[cj,a.cell];rfl,_,by rw[cj,a.cell];rfl,_,by rw[cj,a.cell];rfl,?_⟩);rw[D7 j i hr];exact⟨_,_,rfl,a.tail⟩
def yp{q:Nat}(h:Sep E L w)(a:L[q]?=some (da b C))(g:Int):Calls P xf #[Pb b,Iv g] w (cY E (Iv (cW C g)) L):=by
 apply VC;unfold Ka qH;refine use (vm h a g) ?_;rintro _ c ⟨f,k,rfl,h1⟩;exact⟨_,_,_,_,rfl,rfl,h1⟩
def aIs{q:Nat}(h:Sep E L w)(a:L[q]?=some (da b C))(g:Int):Calls P Jw #[Pb b,Iv g] w (cY E (Iv (g8 C g)) L):=by
 apply Yo;unfold Mz qH;refine use (vm h a g) ?_;rintro _ c ⟨f,k,rfl,h1⟩;exact⟨_,_,_,_,rfl,rfl,h1⟩
def D8{R:bA c7}(h1:R.map c7.c=C){g:Int}{r r':c7}(hr:R[g.toNat]?=some r)(f:eO->eO)(hf:r'.c=f r.c):(R.set g.toNat r').map c7.c=iG C g f:=by
 unfold iG;have:C.getD g.toNat ⟨0,0⟩=r.c:=by rw[<- h1,dT,eI,hr];rfl
 rw[this,<- hf,<- h1,hL]
def td{R:bA c7}{F:bg0}(h:Sep E (bC b (bP c7.vs R)::L) w){k j:Nat}{r r':c7}{v:bE}(hr:R[k]?=some r)(e:j<4)(d:r'.vs=r.vs.set j v)(f:∀a,Sep E (bC b (bP c7.vs (R.set k r'))::L) a->F a):St ((⟨b,k*4,none⟩:Addr).add j) v F w:=by
 have c:=(c4.1 hr).1;rw[cj];refine St.i h ?_ (λa h1=>f a ?_)
 ·rw[nY c7.lv];have:(k+1)*4<=R.length*4:=kY _ c;omega
 ·rw[Dg c7.lv hr e d]at h1;exact h1
def Qj(h:Sep E (da b C::L) w)(g n:Int):Calls P BJ #[Pb b,Iv g,Iv n] w
  (cY E (Iv (j4 C g n).2) (da b (j4 C g n).1::L)):=by
 apply Wt;unfold KU qF qg;have a:=(da.ok (q:=0) h rfl).ku g n;unfold j4 at a ⊢;refine⟨λw'=>w'=w/\fX g=true/\gS n=true,use (D6 g w) ?_,?_⟩
 ·rintro _ i ⟨rfl,rfl⟩;refine⟨_,rfl,?_⟩;cases d:fX g with
  |false=>exact eB ⟨rfl,h⟩
  |true=>
   refine dG (use (Qi n i) ?_);rintro _ w2 ⟨rfl,rfl⟩;refine⟨_,rfl,?_⟩;cases hn:gS n with
   |false=>exact eB ⟨rfl,h⟩
   |true=>exact dG ⟨rfl,rfl,rfl⟩
 ·rintro _ w2 ⟨rfl,d,hn⟩;rw[d,hn]at a ⊢;obtain⟨R,f,j,hlen,h2⟩:=da.get h;have c:=jM.1 d;refine⟨_,rfl,lk (q:=0) c7.lv h2 rfl hlen c.1 (by exact_mod_cast c.2) (λr hr k=>?_)⟩;exact td (r':=⟨{r.c with cC:=n},r.failed,r.jn⟩) h2 hr bN rfl (λl e=>⟨rfl,da.mk (D8 f hr (λx=> {x with cC:=n}) rfl) a e⟩)
def aAe(h:Sep E L w):Calls P Ii #[] w (cA λv w'=>∃p,v=Pb p/\Sep E (da p me::L) w'):=by
 apply VU;unfold Ky qO qz;refine Al.i h (λp d h1=>?_);have h1:Sep E (bC p (bP c7.vs (List.replicate 64 ⟨⟨0,0⟩,0,0⟩))::L) d:=h1;refine⟨λx w'=>∃j:Nat,x=j/\j<=64/\Sep E (bC p (bP c7.vs (List.replicate j ⟨⟨0,top⟩,0,0⟩++List.replicate (64-j) ⟨⟨0,0⟩,0,0⟩))::L) w',λx _=>(64-x).toNat,⟨0,rfl,bu,h1⟩,?_⟩;rintro _ x w2 ⟨j,rfl,i,h2⟩;refine cX (λb=>?_) (λf=>?_)
 ·have b:j<64:=by omega
  refine⟨_,rfl,lk (q:=0) c7.lv h2 rfl (by simp;omega) bu bu (λr hr g=>?_)⟩;rw[dz]at hr ⊢;have c:r=⟨⟨0,0⟩,0,0⟩:=by
   rw[fR (by simp),lF,jd,od,eJ]at hr;exact(cU hr).symm
  subst c;refine td (r':=⟨⟨0,top⟩,0,0⟩) h2 hr bN rfl (λk a=>?_);have e:(List.replicate j (⟨⟨0,top⟩,0,0⟩:c7)++List.replicate (64-j) (⟨⟨0,0⟩,0,0⟩:c7)).set j (⟨⟨0,top⟩,0,0⟩:c7)=List.replicate (j+1) (⟨⟨0,top⟩,0,0⟩:c7)++List.replicate (64-(j+1)) (⟨⟨0,0⟩,0,0⟩:c7):=by
   rw[ju _ _ (by simp),lF,jd,show 64-j=(64-(j+1))+1 by omega,oe,y4,List.replicate_succ',dm];rfl
  rw[e]at a;exact⟨⟨j+1,de,bu,a⟩,by dsimp only;rw[de];omega⟩
 ·have:j=64:=by omega
  subst this;exact⟨p,rfl,da.mk (by rw[jd];simp[me]) hv.new h2⟩
def jS(met:Int->Bool):bA bE:=(List.range 64).map λi:Nat=>Value.bool (met i)
def Qk{l:bR}{k:Nat}{x:Int}(hx:l[k]?=some x)(h:nodupB (l.take k)=true):nodupB (l.take (k+1))= !(l.take k).contains x:=by
 rw[fL hx];cases d:(l.take k).contains x with
 |true=>
  cases f:nodupB (l.take k++[x])with
  |false=>rfl
  |true=>
   rw[r7,v8]at f;have:=f.2.2 x (by simpa using d) x (by simp);exact absurd rfl this
 |false=>
  show nodupB _=true;rw[r7]at h ⊢;rw[v8];refine⟨h,by simp,λa g c b e=>?_⟩;rw[h8]at b;subst b e;have:=kX.2 g;rw[d]at this;cases this
def aFx{l:bR}{k:Nat}(h:nodupB (l.take k)=false):nodupB l=false:=by
 cases a:nodupB l with
 |false=>rfl
 |true=>
  rw[r7]at a;have:(l.take k).Nodup:=a.sublist (o3 k l);rw[<- r7,h]at this;cases this
def Ql{s:Sl}{l:bR}(q:Ints E L s l)(hb:l.length<4611686018427387904)(n:Int)(h:Sep E L w):Calls P B6 #[Sv s,Iv n] w (cY E (.bool (jh l n)) L):=by
 apply W9;unfold Ls qD qF qO qW qm zK;refine Al.i h (λp B h1=>?_);have h1:Sep E (bC p (jS λ_=>false)::L) B:=h1;have hn:=q.1;refine⟨λx w'=>∃k:Nat,x=k/\k<=l.length/\(l.take k).all fX=true/\nodupB (l.take k)=true/\Sep E (bC p (jS λi=>(l.take k).contains i)::L) w',λx _=>(l.length-x).toNat,⟨0,rfl,e7 _,by simp,by simp[nodupB],by simpa using h1⟩,?_⟩;rintro _ x w2 ⟨k,rfl,hk,a,c,h2⟩;refine cX (λF=>?_) (λD=>?_)
 ·obtain⟨y,d⟩:∃y,l[k]?=some y:=⟨_,dN⟩
  refine(q.cons (A:=bC p (jS λi=>(l.take k).contains i))).el h2 k rfl d (use (D6 y w2) ?_);rintro _ C ⟨rfl,rfl⟩;refine⟨_,rfl,?_⟩;cases m:fX y with
  |false=>
   refine eB ⟨?_,h2.tail⟩;have:l.all fX=false:=by
    cases u:l.all fX with
    |false=>rfl
    |true=>have:=fS.1 u y (eH d);rw[m]at this;cases this
   unfold jh;rw[this];rfl
  |true=>
   have b:=jM.1 m;have g:∀(f:Int->Bool) {w':bH},Sep E (bC p (jS f)::L) w'->w'.cell? ((⟨p,0,none⟩:Addr).add (y.toNat*1))=some (.bool (f y)):=by
    intro f w' z;rw[cj,z.cell,fy,fM];unfold jS;rw[eI,m9 bu];simp only[gh];rw[show((y.toNat:Nat):Int)=y by omega]
   refine dG ⟨_,rfl,⟨b.1,by exact_mod_cast b.2⟩,_,g _ h2,?_⟩;cases r:(l.take k).contains y with
   |true=>
    refine eB ⟨?_,h2.tail⟩;have:nodupB l=false:=aFx (k:=k+1) (by rw[Qk d c,r];rfl);unfold jh;rw[this,rL];rfl
   |false=>
    refine dG ⟨_,rfl,⟨b.1,by exact_mod_cast b.2⟩,?_⟩;refine ef.j h2 (by unfold jS;simp;omega) (λG o=>?_);have e:(jS λi=>(l.take k).contains i).set (0+y.toNat*1) (.bool true)=jS λi=>(l.take (k+1)).contains i:=by
     rw[fy,fM,fL d];apply hg;intro i;unfold jS;rw[hd];by_cases t:i<64
     ·by_cases j:y.toNat=i
      ·subst j;rw[bL rfl,bL (by simp;omega),eI,m9 t];simp only[gh,Tg];rw[show((y.toNat:Nat):Int)=y by omega];simp
      ·rw[bJ j,eI,eI,m9 t];simp only[gh,Tg];have:([y].contains ((i:Nat):Int))=false:=by simp;omega
       rw[this,o6]
     ·rw[cF,g2 (by simp;omega),g2 (by simp;omega)]
    rw[e]at o;refine⟨⟨k+1,de,bu,?_,?_,o⟩,by dsimp only;rw[de];omega⟩;·rw[fL d,List.all_append,a];simp[m]
    ·rw[Qk d c,r];rfl
 ·have:k=l.length:=by omega
  subst this;rw[gg]at a c;refine use (Qi n w2) ?_;rintro _ C ⟨rfl,rfl⟩;refine⟨_,rfl,?_,h2.tail⟩;unfold jh;rw[a,c];rfl
def Qm{s:Sl}{l:bR}(t:Ints E L s l)(hb:l.length<4611686018427387904)(hl:∀g∈l,0<=g/\g<64){is:bE}{isB:eO->Bool}(B:hv C)(u:∀(x:eO) f k w',(0<=x.use/\x.use<=top)/\0<=x.cC/\x.cC<=top->Sep E (da b C::L) w'->eY P is #[.agg #[Iv x.use,Iv x.cC,Iv f,Iv k]] w' (cY E (.bool (isB x)) (da b C::L)))(h:Sep E (da b C::L) w):Calls P B7 #[Pb b,Sv s,is] w
  (cY E (Iv (match l.find? (λg=>isB (C.getD g.toNat ⟨0,0⟩))with|some g=>g|none=> -1)) (da b C::L)):=by
 apply Xa;unfold Lt qA qD qO qW;have hn:=t.1;refine⟨λx w'=>∃k:Nat,x=k/\k<=l.length/\(∀g∈l.take k,isB (C.getD g.toNat ⟨0,0⟩)=false)/\Sep E (da b C::L) w',λx _=>(l.length-x).toNat,⟨0,rfl,e7 _,by simp,h⟩,?_⟩;rintro _ x w2 ⟨k,rfl,hk,c,h2⟩;refine cX (λN=>?_) (λM=>?_)
 ·obtain⟨y,j⟩:∃y,l[k]?=some y:=⟨_,dN⟩
  have o:=hl y (eH j);refine(t.cons (A:=da b C)).el h2 k rfl j ?_;obtain⟨R,z,O,hlen,J⟩:=da.get h2;refine⟨_,rfl,lk (q:=0) c7.lv J rfl hlen o.1 (by exact_mod_cast o.2) (λr hr d=>?_)⟩;refine⟨_,by rw[cj];exact d 0 _ rfl,_,by rw[cj];exact d 1 _ rfl,_,by rw[cj];exact d 2 _ rfl,_,by rw[cj];exact d 3 _ rfl,?_⟩;have n:C.getD y.toNat ⟨0,0⟩=r.c:=by rw[<- z,dT,eI,hr];rfl
  have D:=B.ok r.c (by rw[<- z];exact fo.2 ⟨r,eH hr,rfl⟩);have e:=u r.c r.failed r.jn w2 D h2;obtain⟨fn,ca,G,H,I⟩:=e;refine⟨fn,ca,G,H,use I ?_⟩;rintro _ Q ⟨rfl,p⟩;refine⟨_,rfl,?_⟩;cases m:isB r.c with
  |true=>
   refine eB ⟨?_,p⟩;have:l.find? (λg=>isB (C.getD g.toNat ⟨0,0⟩))=some y:=by
    rw[<- fK k l,List.find?_append];have K:(l.take k).find? (λg=>isB (C.getD g.toNat ⟨0,0⟩))=none:=by rw[pZ];intro g a;rw[c g a];decide
    rw[K,lD (by omega:k<l.length)];have:l[k]'(bu)=y:=by have:=dL (l:=l) (i:=k) bu;rw[j]at this;exact(cU this).symm
    rw[this,List.find?_cons,n,m];rfl
   rw[this]
  |false=>
   refine dG ⟨⟨k+1,de,bu,?_,p⟩,by dsimp only;rw[de];omega⟩;intro g a;rw[fL j]at a;rcases gF.1 a with a|a;·exact c g a
   ·rw[h8]at a;subst a;rw[n];exact m
 ·have:k=l.length:=by omega
  subst this;rw[gg]at c;have:l.find? (λg=>isB (C.getD g.toNat ⟨0,0⟩))=none:=by rw[pZ];intro g a;rw[c g a];decide
  rw[this];exact⟨rfl,h2⟩
def Qn{l:bR}{k:Nat}{y:Int}(a:l[k]?=some y)(n:Int):dF C (l.take (k+1)) n=iG (dF C (l.take k) n) y λx=> {x with use:=x.use+n} :=by
 rw[fL a];unfold dF;rw[y5];rfl
def Qo{s:Sl}{l:bR}(H:Ints E L s l)(hb:l.length<4611686018427387904)(n:Int)(h:Sep E (da b C::L) w):Calls P uS #[Pb b,Sv s,Iv n] w
  (cY E (.tuple #[Iv (dh C l n).2.1,Iv (dh C l n).2.2]) (da b (dh C l n).1::L)):=by
 apply Yq;unfold MB qC qD qF qL qO qQ qW;have a:=da.ok (q:=0) h rfl;have t:=a.try l n;have ar:=H.1;refine Al.i h (λp ax h1=>?_);have X:Ints E (bC p [Iv n]::da b C::L) s l:=H.cons.cons;refine⟨_,h1.cell 0,use (Ql X hb n h1) ?_⟩;rintro _ w2 ⟨rfl,h2⟩;refine⟨_,rfl,?_⟩;cases hr:jh l n with
 |false=>
  refine eB ?_;have:dh C l n=(C, -1,1):=by unfold dh;rw[hr];rfl
  rw[this];exact⟨rfl,h2.tail⟩
 |true=>
  obtain⟨z,U,au,av⟩:=mY.1 hr;have Y:Ints E (bC p [Iv n]::L) s l:=H.cons;refine dG (use (Qm (L:=bC p [Iv n]::L) (isB:=λx=>decide (0<n)&&decide (x.cC<x.use+n)) Y hb z a ?_ h2.swap) ?_)
  ·intro x f k w' hx h';refine⟨CP,_,rfl,by kernel_rfl,?_⟩;show Calls P CP #[.agg #[Iv x.use,Iv x.cC,Iv f,Iv k],Pb p] w' _;apply YF;unfold MQ qD qL;refine Al.i h' (λp2 aj d=>?_);refine⟨_,d.cellAt 2 rfl 0,gn (λad=>?_) (λhle=>⟨by rw[di bu];rfl,d.tail⟩)⟩;refine⟨_,by rw[cj];exact d.cell 0,_,d.cellAt 2 rfl 0,_,by rw[cj];exact d.cell 1,?_,d.tail⟩;rw[dE ad,l4,cR (by unfold top at *;omega) (by unfold top at *;omega)]
  ·rintro _ aj ⟨rfl,d⟩;refine⟨_,rfl,?_⟩;cases hf:l.find? (λg=>decide (0<n)&&decide ((C.getD g.toNat ⟨0,0⟩).cC<(C.getD g.toNat ⟨0,0⟩).use+n))with
   |some g=>
    have o:=z g (vV hf);have e:dh C l n=(C,g,22):=by unfold dh;rw[hr,hf];rfl
    rw[e];dsimp only;refine hD (λ_=>?_) (λS=>absurd S bu);refine Dr.i d (λak u=>?_);obtain⟨R,c,ai,hlen,m⟩:=da.get u;refine⟨_,rfl,lk (q:=0) c7.lv m rfl hlen o.1 (by exact_mod_cast o.2) (λr hr aa=>?_)⟩;refine⟨_,by rw[cj];exact aa 2 _ rfl,_,rfl,lk (q:=0) c7.lv m rfl hlen o.1 (by exact_mod_cast o.2) (λaw M ao=>?_)⟩;rw[hr]at M;have:=cU M;subst this;refine td (r':=⟨r.c,i64.wrap (r.failed+1),r.jn⟩) m hr bN rfl (λam Q=>⟨rfl,?_⟩);refine(da.mk (C:=C) ?_ a Q).ro 2 [0] rfl;rw[hL,c];show C.set g.toNat r.c=C;apply hg;intro i;by_cases ae:g.toNat=i
    ·subst ae;have:C[g.toNat]?=some r.c:=by rw[<- c,eI,hr];rfl
     rw[iZ (c4.1 this).1,this]
    ·rw[ja ae]
   |none=>
    have e:dh C l n=(dF C l n, -1,0):=by unfold dh;rw[hr,hf];rfl
    rw[e]at t ⊢;dsimp only at t ⊢;have T:∀g∈l,(ht C g).use+n<=top:=by
     intro g o;have:=pZ.1 hf g o;rw[r8 (z g o)]at this;have ho:=a.of g;simp only[dA,gE,not_and]at this;rcases Int.lt_or_le 0 n with hp|hp;·have:=this hp;omega
     ·omega
    have Z:Ints E (bC p [Iv n]::L) s l:=H.cons;refine hD (λS=>absurd S bN) (λ_=>?_);refine⟨λx w'=>∃k:Nat,x=k/\k<=l.length/\∃R:bA c7,R.map c7.c=dF C (l.take k) n/\Sep E (bC b (bP c7.vs R)::bC p [Iv n]::L) w',λx _=>(l.length-x).toNat,?_,?_⟩
    ·obtain⟨R,c,ai,hlen,m⟩:=da.get d;exact⟨0,rfl,e7 _,R,by rw[wj];exact c,m⟩
    ·rintro _ x ak ⟨k,rfl,hk,R,c,u⟩;have I:R.length=64:=by rw[<- en (f:=c7.c),c,nw];exact a.len
     refine cX (λaq=>?_) (λap=>?_)
     ·obtain⟨y,J⟩:∃y,l[k]?=some y:=⟨_,dN⟩
      have O:=eH J;have G:=z y O;have F:fX y=true:=jM.2 G;refine(Z.cons (A:=bC b (bP c7.vs R))).el u k rfl J ⟨_,rfl,lk (q:=0) c7.lv u rfl I G.1 (by exact_mod_cast G.2) (λr hr aa=>?_)⟩;have ah:r.c=ht C y:=by
       rw[<- D7 c F hr];have ag:y∉l.take k:=by
        intro hm;have:=U.sublist (o3 (k+1) l);rw[fL J,v8]at this;exact this.2.2 y hm y (by simp) rfl
       unfold ht;rw[F,bL rfl,bL rfl,qS n (l.take k) a.len (λg o=>z g (m8 o)) (U.sublist (o3 k l)) F,bJ ag]
      refine Dr.i u (λal m=>?_);have ab:∀(j:Nat) v,(r.vs)[j]?=some v->al.cell? ⟨b,y.toNat*4+j,none⟩=some v:=by
       intro j v B;have D:j<4:=by have:=(c4.1 B).1;rwa[c7.lv]at this
       rw[m.cell,sJ c7.lv hr j D];exact B
      refine⟨_,rfl,_,by rw[cj];exact ab 0 _ rfl,_,m.cellAt 1 rfl 0,_,rfl,?_⟩;have hw:i64.wrap (r.c.use+n)=r.c.use+n:=by
       have:=T y O;have ho:=a.of y;rw[ah];unfold top at*
       exact cR bu bu
      rw[hw];refine td (r':=⟨{r.c with use:=r.c.use+n},r.failed,r.jn⟩) m hr bN rfl (λam Q=>Dr.i Q (λan V=>?_));have af:y.toNat<R.length:=(c4.1 hr).1;have N:(R.set y.toNat ⟨{r.c with use:=r.c.use+n},r.failed,r.jn⟩)[y.toNat]?=some ⟨{r.c with use:=r.c.use+n},r.failed,r.jn⟩:=iZ af;have K:∀(j:Nat) v,(c7.vs ⟨{r.c with use:=r.c.use+n},r.failed,r.jn⟩)[j]?=some v->an.cell? ⟨b,y.toNat*4+j,none⟩=some v:=by
       intro j v B;have D:j<4:=by have:=(c4.1 B).1;rwa[c7.lv]at this
       rw[V.cell,sJ c7.lv N j D];exact B
      refine⟨_,rfl,_,by rw[cj];exact K 3 _ rfl,_,rfl,_,by rw[cj];exact K 0 _ rfl,_,rfl,?_⟩;refine td (r':=⟨{r.c with use:=r.c.use+n},r.failed,ea r.jn (r.c.use+n)⟩) V N bN rfl (λay W=>?_);rw[List.set_set]at W;refine⟨⟨k+1,de,bu,_,?_,W⟩,by dsimp only;rw[de];omega⟩;rw[Qn J];exact D8 c hr (λx=> {x with use:=x.use+n}) rfl
     ·have:k=l.length:=by omega
      subst this;rw[gg]at c;exact⟨rfl,(da.mk c t u).ro 2 [0] rfl⟩
def yq{s:Sl}{l:bR}(B:Ints E L s l)(hb:l.length<4611686018427387904)(n:Int)(h:Sep E (da b C::L) w):Calls P sr #[Pb b,Sv s,Iv n] w
  (cY E (Iv (gk C l n).2) (da b (gk C l n).1::L)):=by
 apply Ws;unfold KT qC qD qF qL qO qQ qW;have a:=da.ok (q:=0) h rfl;have i:=a.dv l n;have Z:=B.1;refine Al.i h (λp af h1=>?_);have M:Ints E (bC p [Iv n]::da b C::L) s l:=B.cons.cons;refine⟨_,h1.cell 0,use (Ql M hb n h1) ?_⟩;rintro _ w2 ⟨rfl,h2⟩;refine⟨_,rfl,?_⟩;cases hr:jh l n with
 |false=>
  refine eB ?_;have:gk C l n=(C,1):=by unfold gk;rw[hr];rfl
  rw[this];exact⟨rfl,h2.tail⟩
 |true=>
  obtain⟨t,K,aa,ab⟩:=mY.1 hr;have N:Ints E (bC p [Iv n]::L) s l:=B.cons;refine dG (use (Qm (L:=bC p [Iv n]::L) (isB:=λx=>decide (x.use<n)) N hb t a ?_ h2.swap) ?_)
  ·intro x f k w' hx h';refine⟨B8,_,rfl,by kernel_rfl,?_⟩;show Calls P B8 #[.agg #[Iv x.use,Iv x.cC,Iv f,Iv k],Pb p] w' _;apply Xb;unfold Lu qD qL;refine Al.i h' (λp2 V m=>?_);exact⟨_,by rw[cj];exact m.cell 0,_,m.cellAt 2 rfl 0,rfl,m.tail⟩
  ·rintro _ V ⟨rfl,m⟩;refine⟨_,rfl,?_⟩;cases hf:l.find? (λg=>decide ((C.getD g.toNat ⟨0,0⟩).use<n))with
   |some g=>
    have u:=t g (vV hf);have e:gk C l n=(C,2):=by unfold gk;rw[hr,hf];rfl
    rw[e];dsimp only;exact hD (λ_=>⟨rfl,m.ro 2 [0] rfl⟩) (λI=>absurd I bu)
   |none=>
    have e:gk C l n=(dF C l (-n),0):=by unfold gk;rw[hr,hf];rfl
    rw[e]at i ⊢;dsimp only at i ⊢;have J:∀g∈l,n<=(ht C g).use:=by
     intro g u;have:=pZ.1 hf g u;rw[r8 (t g u)]at this;simpa using this
    have O:Ints E (bC p [Iv n]::L) s l:=B.cons;refine hD (λI=>absurd I bN) (λ_=>?_);refine⟨λx w'=>∃k:Nat,x=k/\k<=l.length/\∃R:bA c7,R.map c7.c=dF C (l.take k) (-n)/\Sep E (bC b (bP c7.vs R)::bC p [Iv n]::L) w',λx _=>(l.length-x).toNat,?_,?_⟩
    ·obtain⟨R,d,ad,hlen,o⟩:=da.get m;exact⟨0,rfl,e7 _,R,by rw[wj];exact d,o⟩
    ·rintro _ x ag ⟨k,rfl,hk,R,d,H⟩;have j:R.length=64:=by rw[<- en (f:=c7.c),d,nw];exact a.len
     refine cX (λY=>?_) (λX=>?_)
     ·obtain⟨y,D⟩:∃y,l[k]?=some y:=⟨_,dN⟩
      have G:=eH D;have c:=t y G;have z:fX y=true:=jM.2 c;refine(O.cons (A:=bC b (bP c7.vs R))).el H k rfl D (Dr.i H (λah o=>⟨_,rfl,lk (q:=0) c7.lv o rfl j c.1 (by exact_mod_cast c.2) (λr hr U=>?_)⟩));have S:r.c=ht C y:=by
       rw[<- D7 d z hr];have Q:y∉l.take k:=by
        intro hm;have:=K.sublist (o3 (k+1) l);rw[fL D,v8]at this;exact this.2.2 y hm y (by simp) rfl
       unfold ht;rw[z,bL rfl,bL rfl,qS (-n) (l.take k) a.len (λg u=>t g (m8 u)) (K.sublist (o3 k l)) z,bJ Q]
      refine⟨_,by rw[cj];exact U 0 _ rfl,_,o.cellAt 1 rfl 0,_,rfl,lk (q:=0) c7.lv o rfl j c.1 (by exact_mod_cast c.2) (λae F W=>?_)⟩;rw[hr]at F;have:=cU F;subst this;have hw:i64.wrap (r.c.use-n)=r.c.use+ -n:=by
       have:=J y G;have ho:=a.of y;rw[S];unfold top at*
       rw[cR bu bu];omega
      rw[hw];refine td (r':=⟨{r.c with use:=r.c.use+ -n},r.failed,r.jn⟩) o hr bN rfl (λai T=>?_);refine⟨⟨k+1,de,bu,_,?_,T⟩,by dsimp only;rw[de];omega⟩;rw[Qn D];exact D8 d hr (λx=> {x with use:=x.use+ -n}) rfl
     ·have:k=l.length:=by omega
      subst this;rw[gg]at d;exact⟨rfl,(da.mk d i H).ro 2 [0] rfl⟩
end Go.Mp
namespace Go.Mp
open Go Go.Vc Go.Sp Go.Proofs Go.Kc
variable{E:Env}{L:cv}{w W:bH}
def aJ6(n:Int):i64.wrap n%18446744073709551616=n%18446744073709551616:=by
 unfold IntKind.wrap;simp only[IntKind.signed,IntKind.bits,l4];split<;>omega
def Qp(n:Int):bU .i64 n 1099511627775=n%1099511627776:=by
 have h1:((BitVec.ofInt 64 n &&& BitVec.ofInt 64 1099511627775).toNat:Int)=n%1099511627776:=by
  rw[wc];have a:(BitVec.ofInt 64 1099511627775).toNat=2^40-1:=by decide
  have b:((BitVec.ofInt 64 n).toNat:Int)=n%18446744073709551616:=by
   rw[BitVec.toNat_ofInt];have:(n%((2:Nat)^64:Nat))=n%18446744073709551616:=rfl;omega
  rw[a,tq];generalize (BitVec.ofInt 64 n).toNat=m at*
  have:((m%2^40:Nat):Int)=(m:Int)%1099511627776:=by omega
  rw[this,b];omega
 show i64.wrap ((BitVec.ofInt 64 n &&& BitVec.ofInt 64 1099511627775).toNat:Int)=_;rw[h1];exact cR bu bu
structure eM where
 clock:Int
 back:Int
def eM.vs(r:eM):bA bE:=[Iv r.clock,Iv r.back]
def eM.kR(r:eM):r.vs.length=2:=rfl
def fG(b:Nat)(l:bR):Asn:=fe λR:bA eM=>cG (R.map eM.clock=l/\l.length=64) (bC b (bP eM.vs R))
def fG.get{b:Nat}{l:bR}(h:Sep E (fG b l::L) w):∃R:bA eM,R.map eM.clock=l/\l.length=64/\R.length=64/\Sep E (bC b (bP eM.vs R)::L) w:=by
 obtain⟨R,h⟩:=Sep.ex.1 h;obtain⟨hn,h⟩:=Sep.cG.1 h;exact⟨R,hn.1,hn.2,by have:=hn.2;rw[<- hn.1,en]at this;exact this,h⟩
def fG.mk{b:Nat}{l:bR}{R:bA eM}(h1:R.map eM.clock=l)(h2:l.length=64)(h:Sep E (bC b (bP eM.vs R)::L) w):Sep E (fG b l::L) w:=Sep.ex.2 ⟨R,Sep.cG.2 ⟨⟨h1,h2⟩,h⟩⟩
def aBR(h:Sep E L w):Calls P Bt #[] w (cA λv w'=>∃p,v=Pb p/\Sep E (fG p (List.replicate 64 0)::L) w'):=by
 apply VL;unfold Km qB;exact Al.i h (λp a h1=>⟨p,rfl,fG.mk (R:=List.replicate 64 ⟨0,0⟩) rfl rfl h1⟩)
def D9(g:Int)(w:bH):Calls P xS #[Iv g] w (cA λv w'=>v=.bool (fX g)/\w'=w):=by
 apply Ys;unfold MD fX;exact h4 (λh=>⟨by rw[dE h];rfl,rfl⟩) (λh=>⟨by rw[di bu];rfl,rfl⟩)
def Qq(h:Sep E L w):Calls P CQ #[] w (cA λv w'=>∃p,v=.slice (some ⟨p,0,none⟩) 3 3/\Sep E (bC p (bD (ints [1,8,40]))::L) w'):=by
 apply YG;unfold MR qC;exact Al.i h (λp a h1=>⟨p,rfl,h1⟩)
def yr{g:Int}(d:fX g=true)(c:Int)(h:Sep E L w):Calls P Jx #[Iv g,Iv c] w (cY E (.int .u64 (if c<0 then 0 else r0 g c)) L):=by
 apply Yt;unfold ME qC qJ zB;refine cX (λe=>⟨by rw[bL e],h⟩) (λe=>use (Qq h) ?_);rintro _ o ⟨p,rfl,h1⟩;obtain⟨n,rfl⟩:∃n:Nat,g=n:=⟨g.toNat,by have:=jM.1 d;omega⟩
 have l:=(jM.1 d).2;obtain⟨m,hm⟩:∃m:Nat,c%1099511627776=m:=⟨(c%1099511627776).toNat,bu⟩
 have i:m<1099511627776:=by omega
 refine⟨⟨some ⟨p,0,none⟩,3,3⟩,rfl,Al.i h1 (λq w2 h2=>?_)⟩;rw[Qp,hm]at h2;have h2:Sep E (bC q (bD (ints [1,n,m]))::bC p (bD (ints [1,8,40]))::L) w2:=h2;refine use (OY (s:=⟨some ⟨p,0,none⟩,3,3⟩) (t:=⟨some ⟨q,0,none⟩,3,3⟩) (ws:=[1,8,40]) (vs:=[1,n,m]) (Ints.jm (b:=p) (c:=3) (gs:=ints [1,8,40]) (q:=1) rfl) (Ints.jm (b:=q) (c:=3) (gs:=ints [1,n,m]) (q:=0) rfl) bN bN bN rfl (λu hu=>by simp at hu;omega) h2) ?_;rintro _ r ⟨j,rfl⟩;rcases j with⟨_,rfl⟩|⟨f,rfl⟩
 ·refine⟨_,_,rfl,?_,h2.tail.tail⟩;rw[cF];unfold r0 top;rw[hm];congr 1;simp only[jB];omega
 ·exfalso;apply f;intro k y u a hu
  match k,a,hu with
  |0,a,hu=>simp at a hu;subst a hu;decide
  |1,a,hu=>simp at a hu;subst a hu;omega
  |2,a,hu=>simp at a hu;subst a hu;omega
  |k+3,a,_=>simp at a
def Qr{x:Nat}(hx:x<18446744073709551616)(h:Sep E L w):Calls P CJ #[.int .u64 (x:Nat)] w (cY E (.tuple #[Iv (gU x).1,Iv (gU x).2.1,.bool (gU x).2.2]) L):=by
 apply Yu;unfold MF qD qJ qW qg zF;refine use (Qq h) ?_;rintro _ y ⟨p,rfl,h1⟩;refine⟨⟨some ⟨p,0,none⟩,3,3⟩,rfl,use (OW (s:=⟨some ⟨p,0,none⟩,3,3⟩) (ws:=[1,8,40]) (Ints.jm (b:=p) (c:=3) (gs:=ints [1,8,40]) (q:=0) rfl) bN bN bN hx h1) ?_⟩;have k:c6 [1,8,40]=49:=rfl;rw[k];rintro _ w2 (⟨j,t,rfl,l,h2⟩|⟨j,rfl,h2⟩)
 ·have o:x<562949953421312:=by omega
  have hn:t.n=(ints (fields [1,8,40] x)).length:=by rw[l];rfl
  have i:((ints (fields [1,8,40] x)).length:Int)=3:=rfl;refine⟨t,_,rfl,λw'=>w'=w2/\x%2=1,bF rfl ?_,?_⟩
  ·refine mu 0 h2 rfl hn bN bu (λa f=>⟨_,f,?_⟩);show bif(((x%2^1:Nat):Int) !=1)then _ else _;refine iz (λr=>?_) (λhe=>⟨rfl,bu⟩);have e:gU (x:Int)=(0,0,false):=by unfold gU;rw[cF]
   rw[e];exact⟨rfl,h2.tail.tail⟩
  ·rintro _ m ⟨rfl,n⟩;refine Dr.i h2 (λz d=>mu 0 d rfl hn bN bu (λa f=>⟨_,f,mu 0 d rfl hn bN bu (λu g=>⟨_,g,?_,d.tail.tail⟩)⟩));have e:gU (x:Int)=((x:Int)/2%256,(x:Int)/512,true):=by unfold gU top;rw[eJ]
   rw[e];show Value.tuple #[Iv ((x/2^1%2^8:Nat):Int),Iv ((x/2^1/2^8%2^40:Nat):Int),.bool true]=_;rw[show((x/2^1%2^8:Nat):Int)=(x:Int)/2%256 by omega,show((x/2^1/2^8%2^40:Nat):Int)=(x:Int)/512 by omega]
 ·refine⟨⟨none,0,0⟩,_,rfl,λ_=>False,bT rfl ?_,λ_ m hf=>hf.elim⟩;have e:gU (x:Int)=(0,0,false):=by unfold gU top;rw[cF]
  rw[e];exact⟨rfl,h2.tail⟩
def aDr{x:Nat}(hx:x<18446744073709551616)(c:Int)(h:Sep E L w):Calls P JF #[.int .u64 (x:Nat),Iv c] w (cY E (Iv (if(gU x).2.2=false\/c<0 then -1 else(c-(gU x).2.1)%top)) L):=by
 apply YH;unfold MS zO;refine use (Qr hx h) ?_;rintro _ b ⟨rfl,h1⟩;refine⟨_,_,_,rfl,?_⟩;cases hl:(gU (x:Int)).2.2 with
 |false=>exact eB ⟨by rw[bL (.inl rfl)],h1⟩
 |true=>
  refine dG (cX (λa=>⟨by rw[bL (.inr a)],h1⟩) (λa=>⟨?_,h1⟩));rw[bJ (by rintro(e|e);cases e;omega),Qp];have:=aJ6 (c-(gU (x:Int)).2.1);unfold top;congr 1;omega
def aEC{x:Nat}(hx:x<18446744073709551616)(c r:Int)(h:Sep E L w):Calls P Jy #[.int .u64 (x:Nat),Iv c,Iv r] w (cY E (.bool ((gU x).2.2&&decide (0<=c)&&decide ((c-(gU x).2.1)%top<=r))) L):=by
 apply Yv;unfold MG qQ;refine use (aDr hx c h) ?_;rintro _ d ⟨rfl,h1⟩;refine⟨_,rfl,?_⟩;by_cases hb:(gU (x:Int)).2.2=false\/c<0
 ·rw[bL hb];refine h4 (λa=>absurd a bN) (λ_=>⟨?_,h1⟩);rcases hb with hb|hb;·rw[hb];rfl
  ·rw[di (show ¬ 0<=c by omega),rL];rfl
 ·rw[bJ hb];have b:0<=(c-(gU (x:Int)).2.1)%top:=Gn _ bN;refine h4 (λ_=>⟨?_,h1⟩) (λa=>absurd a bu);have h2:(gU (x:Int)).2.2=true:=by cases a:(gU (x:Int)).2.2 with|true=>rfl|false=>exact absurd (.inl a) hb
  rw[h2,dE (show 0<=c by omega)];rfl
variable{b:Nat}{l:bR}
def Qt{R:bA eM}{F:bg0}(h:Sep E (bC b (bP eM.vs R)::L) w){k j:Nat}{r r':eM}{v:bE}(hr:R[k]?=some r)(e:j<2)(d:r'.vs=r.vs.set j v)(f:∀a,Sep E (bC b (bP eM.vs (R.set k r'))::L) a->F a):St ((⟨b,k*2,none⟩:Addr).add j) v F w:=by
 have c:=(c4.1 hr).1;rw[cj];refine St.i h ?_ (λa h1=>f a ?_)
 ·rw[nY eM.kR];have:(k+1)*2<=R.length*2:=kY _ c;omega
 ·rw[Dg eM.kR hr e d]at h1;exact h1
def Qu{R:bA eM}(h1:R.map eM.clock=l){k:Nat}{r:eM}(hr:R[k]?=some r):l.getD k 0=r.clock:=by
 rw[<- h1,dT,eI,hr];rfl
def aJL(h:Sep E (fG b l::L) w)(g:Int):Calls P Jo #[Pb b,Iv g] w (cY E (.int .u64 (dK l g).2) (fG b (dK l g).1::L)):=by
 apply X5;unfold Mj qF qL zU;refine use (D9 g w) ?_;rintro _ o ⟨rfl,rfl⟩;refine⟨_,rfl,?_⟩;unfold dK;cases j:fX g with
 |false=>exact eB ⟨rfl,h⟩
 |true=>
  have a:=jM.1 j;obtain⟨R,i,hl,hlen,h1⟩:=fG.get h;refine dG ⟨_,rfl,lk (q:=0) eM.kR h1 rfl hlen a.1 (by exact_mod_cast a.2) (λr hr m=>⟨_,by rw[cj];exact m 0 _ rfl,use (yr j r.clock h1) ?_⟩)⟩;rintro _ w2 ⟨rfl,h2⟩;refine⟨_,rfl,Dr.i h2 (λp f=>⟨_,rfl,lk (q:=0) eM.kR f rfl hlen a.1 (by exact_mod_cast a.2) (λn c d=>?_)⟩)⟩;rw[hr]at c;have:=cU c;subst this;refine⟨_,by rw[cj];exact d 0 _ rfl,_,rfl,lk (q:=0) eM.kR f rfl hlen a.1 (by exact_mod_cast a.2) (λn c d=>?_)⟩;refine Qt (r':=⟨i64.wrap (r.clock+1),r.back⟩) f hr bN rfl (λs k=>?_);have e:oA l g=r.clock:=Qu i hr;rw[e];refine⟨rfl,fG.mk ?_ (by rw[bJ bN];simpa using hl) k⟩;rw[hL,i];rfl
def aJE(h:Sep E (fG b l::L) w){x:Nat}(hx:x<18446744073709551616)(o r:Int):Calls P Jq #[Pb b,.int .u64 (x:Nat),Iv o,Iv r] w (cY E (.bool (mh l x r)) (fG b l::L)):=by
 apply X7;unfold Ml qF qL qg zO;refine use (Qr hx h) ?_;rintro _ t ⟨rfl,h1⟩;refine⟨_,_,_,rfl,?_⟩;unfold mh;refine⟨λw'=>((gU (x:Int)).2.2&&fX (gU (x:Int)).1&&decide (0<=oA l (gU (x:Int)).1)&&decide ((oA l (gU (x:Int)).1-(gU (x:Int)).2.1)%top<=r))=true/\Sep E (fG b l::L) w',?_,?_⟩
 ·cases hl:(gU (x:Int)).2.2 with
  |false=>exact eB ⟨rfl,h1⟩
  |true=>
   refine dG (use (D9 _ t) ?_);rintro _ w2 ⟨rfl,rfl⟩;refine⟨_,rfl,?_⟩;cases m:fX (gU (x:Int)).1 with
   |false=>exact eB ⟨rfl,h1⟩
   |true=>
    have a:=jM.1 m;obtain⟨R,f,g,hlen,p⟩:=fG.get h1;refine dG ⟨_,rfl,lk (q:=0) eM.kR p rfl hlen a.1 (by exact_mod_cast a.2) (λc hr k=>⟨_,by rw[cj];exact k 0 _ rfl,use (aEC hx c.clock r h1) ?_⟩)⟩;rintro _ u ⟨rfl,d⟩;have e:oA l (gU (x:Int)).1=c.clock:=Qu f hr;rw[e,hl];refine⟨_,rfl,?_⟩;simp only[l4];cases hb:(decide (0<=c.clock)&&decide ((c.clock-(gU (x:Int)).2.1)%top<=r))with
    |false=>exact eB ⟨rfl,d⟩
    |true=>exact dG ⟨rfl,d⟩
 ·rintro _ w2 ⟨hb,h2⟩;rw[hb];refine use (D9 o w2) ?_;rintro _ u ⟨rfl,rfl⟩;refine⟨_,rfl,?_⟩;cases m:fX o with
  |false=>exact dG ⟨rfl,h2⟩
  |true=>
   have a:=jM.1 m;refine eB (Dr.i h2 (λB d=>?_));obtain⟨R,f,g,hlen,j⟩:=fG.get d;refine⟨_,rfl,lk (q:=0) eM.kR j rfl hlen a.1 (by exact_mod_cast a.2) (λc hr k=>⟨_,by rw[cj];exact k 1 _ rfl,_,rfl,lk (q:=0) eM.kR j rfl hlen a.1 (by exact_mod_cast a.2) (λA z y=>?_)⟩)⟩;refine Qt (r':=⟨c.clock,i64.wrap (c.back+1)⟩) j hr bN rfl (λC s=>⟨rfl,fG.mk ?_ g s⟩);rw[hL,f];show l.set o.toNat c.clock=l;apply hg;intro i;by_cases n:o.toNat=i
   ·subst n;have:l[o.toNat]?=some c.clock:=by rw[<- f,eI,hr];rfl
    rw[iZ (c4.1 this).1,this]
   ·rw[ja n]
end Go.Mp
namespace Go.Mp
open Go Go.Vc Go.Sp Go.Kc
open By
variable{E:Env}{L:cv}{w:bH}
def gf(s n:Nat)(X:bA UInt8):Asn:=
 fe λbl:Nat=>cG (X.length=16*n/\n<=1024) (star (bC s [.slice (some ⟨bl,0,none⟩) n n]) (bC bl (g9 X)))
def gf.open{s n:Nat}{X:bA UInt8}(h:Sep E (gf s n X::L) w):
  ∃bl:Nat,X.length=16*n/\n<=1024/\Sep E (bC s [.slice (some ⟨bl,0,none⟩) n n]::bC bl (g9 X)::L) w:=by
 obtain⟨bl,h⟩:=Sep.ex.1 h;obtain⟨⟨h1,h2⟩,h⟩:=Sep.cG.1 h;exact⟨bl,h1,h2,Sep.star.1 h⟩
def gf.shut{s n bl:Nat}{X:bA UInt8}(h1:X.length=16*n)(h2:n<=1024)(h:Sep E (bC s [.slice (some ⟨bl,0,none⟩) n n]::bC bl (g9 X)::L) w):Sep E (gf s n X::L) w:=
 Sep.ex.2 ⟨bl,Sep.cG.2 ⟨⟨h1,h2⟩,Sep.star.2 h⟩⟩
def vn{s n bl:Nat}{X:bA UInt8}(i:Int)(h:Sep E (bC s [.slice (some ⟨bl,0,none⟩) n n]::bC bl (g9 X)::L) w):
  Calls P sx #[Pb s,Iv i] w (cA λv w'=>w'=w/\v=.pointer (if pg n i then some ⟨bl,16*i.toNat,none⟩else none)):=by
 apply Xz;unfold LN qK qW;refine cw (λb=>?_) (λb=>?_)
 ·simp only[gE]at b;exact⟨rfl,by rw[bJ (λc=>by have:=c.1;omega)]⟩
 ·simp only[FQ]at b;refine⟨_,rfl,⟨_,_,_⟩,(h.cell _).trans rfl,?_⟩;refine cw (λa=>?_) (λa=>?_)
  ·simp only[gE]at a;exact⟨rfl,by rw[bJ (λc=>by have:=c.2;omega)]⟩
  ·simp only[FQ]at a;refine⟨_,rfl,⟨_,_,_⟩,(h.cell _).trans rfl,_,rfl,⟨bu,by dsimp only;omega⟩,rfl,?_⟩;rw[bL ⟨bu,bu⟩,cj,wm,fy]
def aI5{n:Int}:min1 (ea n 0) 1024=((min (max n 0).toNat 1024:Nat):Int):=by
 unfold min1 ea;split<;>split<;>omega
def aBP(n:Int)(h:Sep E L w):
  Calls P Ih #[Iv n] w (cA λv w'=>∃s,v=Pb s/\Sep E (gf s (min (max n 0).toNat 1024) (List.replicate (16*min (max n 0).toNat 1024) 0)::L) w'):=by
 apply VT;unfold Kx;rw[aI5];generalize hm:min (max n 0).toNat 1024=m;have a:m<=1024:=by omega
 refine mi.i h (m:=16) (sz:=16) (dd:=16) cV bu bu bu bu (λb c h1=>?_);refine Al.i h1 (λs w2 h2=>?_);refine⟨s,rfl,gf.shut (bl:=b) (by simp) a ?_⟩;simp only[dz]at h2;rw[wm]at h2;exact h2
def Qv(l:bA UInt8){b o n c q:Nat}{C:bA bE}(h:Sep E L w)(f:L[q]?=some (bC b C))(hn:l.length=n)(d:∀j (m:j<l.length),C[o+j]?=some (.int .u8 (l[j].toNat:Int))):
  tR P sm Be (.slice (some ⟨b,o,none⟩) n c) w (.string ⟨l.toArray⟩):=by
 intro w' g;obtain⟨e,k,q2⟩:=AP (P:=P) (t:=sm) cV;subst hn;exact run_convert_bytes_back (P:=P) w' sm Be e ⟨b,o,none⟩ c l k q2 cV (λi a=>by rw[cj,(h.grow g).cellAt q f];exact d i a)
def Qw{s n:Nat}{X:bA UInt8}(i:Int)(h:Sep E (gf s n X::L) w):
  Calls P CE #[Pb s,Iv i] w (cA λv w'=>w'=w/\v=.tuple #[.string (⟨(By.rd n X i).1.toArray⟩:ByteArray),Iv (By.rd n X i).2]):=by
 obtain⟨bl,h1,h2,h⟩:=gf.open h;apply Yc;unfold Mr qR;refine use (vn i h) ?_;rintro _ d ⟨rfl,rfl⟩;refine⟨_,rfl,?_⟩;by_cases a:pg n i
 ·rw[bL a];refine⟨_,rfl,?_⟩;have hr:By.rd n X i=(la X i,0):=bL a;rw[hr];refine⟨_,Qv (la X i) (q:=1) h rfl (Hx h1 a) (λj c=>?_),rfl,rfl⟩;have b:=c;rw[Hx h1 a]at b;rw[ug,<- UI b,dL c];rfl
 ·rw[bJ a];have hr:By.rd n X i=([],1):=bJ a;rw[hr];exact⟨rfl,rfl⟩
def aAa(t:ByteArray):byteCells t=g9 t.data.toList:=rfl
def Qx{s n:Nat}{X:bA UInt8}(i:Int)(t:ByteArray)(h:Sep E (gf s n X::L) w):
  Calls P CI #[Pb s,Iv i,.string t] w (cY E (Iv (wr n X i t.data.toList).2) (gf s n (wr n X i t.data.toList).1::L)):=by
 have d:=h;obtain⟨bl,h1,h2,h⟩:=gf.open h;apply Yr;unfold MC qR;refine use (vn i h) ?_;rintro _ f ⟨rfl,rfl⟩;refine⟨_,rfl,?_⟩;have g:t.data.toList.length=t.size:=rfl;by_cases a:pg n i
 ·rw[bL a];refine dG (cw (λb=>?_) (λb=>?_))
  ·simp only[bne_iff_ne,ne_eq]at b;have:¬ (pg n i/\t.data.toList.length=16):=λc=>by have:=c.2;omega
   have hr:wr n X i t.data.toList=(X,1):=bJ this;rw[hr];exact⟨rfl,d⟩
  ·simp only[bne_eq_false_iff_eq]at b;have hr:wr n X i t.data.toList=(lb X i t.data.toList,0):=bL ⟨a,bu⟩;rw[hr];refine⟨_,rfl,?_⟩;have hx:=a.1;have j:=a.2;refine oD.i h.swap (dd:=1) (zs:=[.int .u8 0]) cV bu (by simp;omega) (λf e=>?_);rw[aAa,Hy h1 a bu]at e;exact⟨rfl,gf.shut (AU h1 a bu) h2 e.swap⟩
 ·rw[bJ a];have hr:wr n X i t.data.toList=(X,1):=bJ (λc=>a c.1);rw[hr];exact⟨rfl,d⟩
def bB{n i:Int}{A B:Prop}(h1:n<i->A)(h2:i<=n->B):bif decide (n<i)then A else B:=
 cw (λh=>h1 (by simpa using h)) (λh=>h2 (by simpa using h))
def bG{n i:Int}{A B:Prop}(h1:i<=n->A)(h2:n<i->B):bif decide (n≥i)then A else B:=
 cw (λh=>h1 (by simpa using h)) (λh=>h2 (by simpa using h))
def gn{n i:Int}{A B:Prop}(h1:i<n->A)(h2:n<=i->B):bif decide (n>i)then A else B:=
 cw (λh=>h1 (by simpa using h)) (λh=>h2 (by simpa using h))
def iz{n i:Int}{A B:Prop}(h1:n≠i->A)(h2:n=i->B):bif(n !=i)then A else B:=
 cw (λh=>h1 (by simpa using h)) (λh=>h2 (by simpa using h))
def aBO{s n:Nat}{X:bA UInt8}(i a:Int)(h:Sep E (gf s n X::L) w):
  Calls P IS #[Pb s,Iv i,Iv a] w (cA λv w'=>w'=w/\v=.tuple #[.int .u8 (gt n X i a).1.toNat,Iv (gt n X i a).2]):=by
 obtain⟨bl,h1,h2,h⟩:=gf.open h;apply WH;unfold K6 qR;refine use (vn i h) ?_;rintro _ j ⟨rfl,rfl⟩;refine⟨_,rfl,?_⟩;by_cases c:pg n i
 ·rw[bL c];obtain⟨hx,g⟩:=c;refine dG (bB (λe=>?_) (λe=>bG (λb=>?_) (λb=>?_)))
  ·have hr:gt n X i a=(0,1):=cF;rw[hr];exact⟨rfl,rfl⟩
  ·have hr:gt n X i a=(0,1):=cF;rw[hr];exact⟨rfl,rfl⟩
  ·have hr:gt n X i a=(X.getD (16*i.toNat+a.toNat) 0,0):=bL ⟨⟨hx,g⟩,e,b⟩;rw[hr];have d:16*i.toNat+a.toNat<X.length:=by omega
   refine⟨_,rfl,_,rfl,⟨e,b⟩,(X[16*i.toNat+a.toNat].toNat:Int),?_,rfl,?_⟩;·rw[cj,h.cellAt 1 rfl,ug,fM,dL d];rfl
   ·simp[List.getD,d]
 ·rw[bJ c];have hr:gt n X i a=(0,1):=bJ (λf=>c f.1);rw[hr];exact⟨rfl,rfl⟩
def aJl(X:bA UInt8)(k:Nat)(b:UInt8):(g9 X).set k (.int .u8 b.toNat)=g9 (X.set k b):=by simp[g9,hL]
def aBQ{s n:Nat}{X:bA UInt8}(i a:Int)(b:UInt8)(h:Sep E (gf s n X::L) w):
  Calls P IW #[Pb s,Iv i,Iv a,.int .u8 b.toNat] w (cY E (Iv (pt n X i a b).2) (gf s n (pt n X i a b).1::L)):=by
 have e:=h;obtain⟨bl,h1,h2,h⟩:=gf.open h;apply WL;unfold La qR;refine use (vn i h) ?_;rintro _ l ⟨rfl,rfl⟩;refine⟨_,rfl,?_⟩;by_cases d:pg n i
 ·rw[bL d];obtain⟨hx,k⟩:=d;refine dG (bB (λf=>?_) (λf=>bG (λc=>?_) (λc=>?_)))
  ·have hr:pt n X i a b=(X,1):=cF;rw[hr];exact⟨rfl,e⟩
  ·have hr:pt n X i a b=(X,1):=cF;rw[hr];exact⟨rfl,e⟩
  ·have hr:pt n X i a b=(X.set (16*i.toNat+a.toNat) b,0):=bL ⟨⟨hx,k⟩,f,c⟩;rw[hr];refine⟨_,rfl,_,rfl,⟨f,c⟩,?_⟩;rw[cj,fM];refine St.i h.swap (by simp;omega) (λl g=>⟨rfl,?_⟩);rw[aJl]at g;exact gf.shut (by simpa using h1) h2 g.swap
 ·rw[bJ d];have hr:pt n X i a b=(X,1):=bJ (λj=>d j.1);rw[hr];exact⟨rfl,e⟩
def azo{s n:Nat}{X:bA UInt8}(i:Int)(h:Sep E (gf s n X::L) w):
  Calls P Jd #[Pb s,Iv i] w (cY E (Iv (cl n X i).2) (gf s n (cl n X i).1::L)):=by
 have c:=h;obtain⟨bl,h1,h2,h⟩:=gf.open h;apply XE;unfold LS qR;refine use (vn i h) ?_;rintro _ e ⟨rfl,rfl⟩;refine⟨_,rfl,?_⟩;by_cases a:pg n i
 ·rw[bL a];have hr:cl n X i=(lb X i zs,0):=bL ⟨a,rfl⟩;rw[hr];have hx:=a.1;have f:=a.2;refine dG ⟨_,rfl,?_⟩;refine tT.i (List.replicate 16 0) h.swap rfl rfl (by simp;omega) (λe b=>⟨rfl,?_⟩);have:(List.replicate 16 (0:Int)).map (Value.int .u8)=g9 zs:=rfl;rw[this,Hy h1 a rfl]at b;exact gf.shut (AU h1 a rfl) h2 b.swap
 ·rw[bJ a];have hr:cl n X i=(X,1):=bJ (λd=>a d.1);rw[hr];exact⟨rfl,c⟩
end Go.Mp
namespace Go.Proofs
open Go.Shelf
def Tryz.gO:Go.Shelf.Ren:=⟨fun|7=>67|10=>105|n=>n,fun|23=>117|26=>3|3=>118|28=>115|0=>0|27=>114|33=>148|4=>4|n=>n,fun|n=>n⟩
def Tryz.pM:Go.Proofs.SlLaysZI.n7 Tryz.prog Tryz.gO:={
 mixed:=by kernel_rfl
 f7:=⟨f67.name,bN,func67.trans (eK some cV)⟩
 f10:=⟨f105.name,bN,func105.trans (eK some cV)⟩
 t0:=Tryz.underlying0
 a0:=Tryz.isAgg0
 z0:=Tryz.sizeOf0
 v0:=Tryz.zeroValue0
 t4:=Tryz.underlying4
 a4:=Tryz.isAgg4
 z4:=Tryz.sizeOf4
 v4:=Tryz.zeroValue4
 t23:=Tryz.underlying117
 a23:=Tryz.isAgg117
 z23:=Tryz.sizeOf117
 v23:=Tryz.zeroValue117
 t26:=Tryz.underlying3
 a26:=Tryz.isAgg3
 z26:=Tryz.sizeOf3
 v26:=Tryz.zeroValue3
 t27:=Tryz.underlying114
 a27:=Tryz.isAgg114
 z27:=Tryz.sizeOf114
 v27:=Tryz.zeroValue114
 t28:=Tryz.underlying115
 a28:=Tryz.isAgg115
 z28:=Tryz.sizeOf115
 v28:=Tryz.zeroValue115
 t33:=Tryz.underlying148
 a33:=Tryz.isAgg148
 z33:=Tryz.sizeOf148
 v33:=Tryz.zeroValue148}
def Tryz.fY:Go.Shelf.Ren:=⟨fun|7=>249|10=>278|n=>n,fun|23=>140|26=>3|3=>239|28=>115|0=>0|27=>114|33=>148|4=>4|n=>n,fun|n=>n⟩
def Tryz.nI:Go.Proofs.SlLaysZI.n7 Tryz.prog Tryz.fY:={
 mixed:=by kernel_rfl
 f7:=⟨f249.name,bN,func249.trans (eK some cV)⟩
 f10:=⟨f278.name,bN,func278.trans (eK some cV)⟩
 t0:=Tryz.underlying0
 a0:=Tryz.isAgg0
 z0:=Tryz.sizeOf0
 v0:=Tryz.zeroValue0
 t4:=Tryz.underlying4
 a4:=Tryz.isAgg4
 z4:=Tryz.sizeOf4
 v4:=Tryz.zeroValue4
 t23:=Tryz.underlying140
 a23:=Tryz.isAgg140
 z23:=Tryz.sizeOf140
 v23:=Tryz.zeroValue140
 t26:=Tryz.underlying3
 a26:=Tryz.isAgg3
 z26:=Tryz.sizeOf3
 v26:=Tryz.zeroValue3
 t27:=Tryz.underlying114
 a27:=Tryz.isAgg114
 z27:=Tryz.sizeOf114
 v27:=Tryz.zeroValue114
 t28:=Tryz.underlying115
 a28:=Tryz.isAgg115
 z28:=Tryz.sizeOf115
 v28:=Tryz.zeroValue115
 t33:=Tryz.underlying148
 a33:=Tryz.isAgg148
 z33:=Tryz.sizeOf148
 v33:=Tryz.zeroValue148}
def Tryz.ez:Go.Shelf.Ren:=⟨fun|6=>66|8=>72|9=>104|11=>109|13=>163|12=>162|23=>229|24=>230|14=>220|15=>221|16=>222|17=>223|18=>224|19=>225|20=>226|21=>227|22=>228|25=>267|26=>268|27=>269|28=>270|29=>271|30=>272|31=>295|n=>n,fun|26=>3|28=>115|24=>22|0=>0|3=>3|37=>202|48=>285|50=>174|4=>4|40=>279|39=>278|45=>166|5=>5|9=>9|51=>322|55=>326|57=>345|58=>65|33=>148|n=>n,fun|n=>n⟩
def Tryz.lU:Go.Proofs.SlLaysZI.n6 Tryz.prog Tryz.ez:={
 mixed:=by kernel_rfl
 f6:=⟨f66.name,bN,func66.trans (eK some cV)⟩
 f8:=⟨f72.name,bN,func72.trans (eK some cV)⟩
 f11:=⟨f109.name,bN,func109.trans (eK some cV)⟩
 t0:=Tryz.underlying0
 a0:=Tryz.isAgg0
 z0:=Tryz.sizeOf0
 v0:=Tryz.zeroValue0
 t24:=Tryz.underlying22
 a24:=Tryz.isAgg22
 z24:=Tryz.sizeOf22
 v24:=Tryz.zeroValue22
 t26:=Tryz.underlying3
 a26:=Tryz.isAgg3
 z26:=Tryz.sizeOf3
 v26:=Tryz.zeroValue3
 t28:=Tryz.underlying115
 a28:=Tryz.isAgg115
 z28:=Tryz.sizeOf115
 v28:=Tryz.zeroValue115
 i26:=by kernel_rfl}
def Tryz.mz:Go.Shelf.Ren:=⟨fun|5=>104|8=>163|7=>162|19=>229|20=>230|10=>220|11=>221|12=>222|13=>223|14=>224|15=>225|16=>226|17=>227|18=>228|30=>267|31=>268|32=>269|33=>270|34=>271|35=>272|40=>295|n=>n,fun|23=>22|25=>3|3=>3|32=>202|22=>22|0=>0|44=>285|46=>174|4=>4|36=>279|35=>278|41=>166|5=>5|9=>9|53=>322|57=>326|63=>345|64=>65|n=>n,fun|n=>n⟩
def Tryz.pN:Go.Proofs.SlLaysM.n5 Tryz.prog Tryz.mz:={
 mixed:=by kernel_rfl
 f5:=⟨f104.name,bN,func104.trans (eK some cV)⟩
 f7:=⟨f162.name,bN,func162.trans (eK some cV)⟩
 f8:=func163.trans (eK some cV)
 f10:=⟨f220.name,bN,func220.trans (eK some cV)⟩
 f11:=⟨f221.name,bN,func221.trans (eK some cV)⟩
 f12:=⟨f222.name,bN,func222.trans (eK some cV)⟩
 f13:=⟨f223.name,bN,func223.trans (eK some cV)⟩
 f14:=⟨f224.name,bN,func224.trans (eK some cV)⟩
 f15:=⟨f225.name,bN,func225.trans (eK some cV)⟩
 f16:=⟨f226.name,bN,func226.trans (eK some cV)⟩
 f17:=⟨f227.name,bN,func227.trans (eK some cV)⟩
 f18:=⟨f228.name,bN,func228.trans (eK some cV)⟩
 f19:=func229.trans (eK some cV)
 f20:=func230.trans (eK some cV)
 f30:=⟨f267.name,bN,func267.trans (eK some cV)⟩
 f31:=func268.trans (eK some cV)
 f32:=func269.trans (eK some cV)
 f33:=⟨f270.name,bN,func270.trans (eK some cV)⟩
 f34:=⟨f271.name,bN,func271.trans (eK some cV)⟩
 f35:=⟨f272.name,bN,func272.trans (eK some cV)⟩
 f40:=⟨f295.name,bN,func295.trans (eK some cV)⟩
 t0:=Tryz.underlying0
 a0:=Tryz.isAgg0
 z0:=Tryz.sizeOf0
 v0:=Tryz.zeroValue0
 t3:=Tryz.underlying3
 a3:=Tryz.isAgg3
 z3:=Tryz.sizeOf3
 v3:=Tryz.zeroValue3
 t4:=Tryz.underlying4
 a4:=Tryz.isAgg4
 z4:=Tryz.sizeOf4
 v4:=Tryz.zeroValue4
 t5:=Tryz.underlying5
 a5:=Tryz.isAgg5
 z5:=Tryz.sizeOf5
 v5:=Tryz.zeroValue5
 t9:=Tryz.underlying9
 a9:=Tryz.isAgg9
 z9:=Tryz.sizeOf9
 v9:=Tryz.zeroValue9
 t22:=Tryz.underlying22
 a22:=Tryz.isAgg22
 z22:=Tryz.sizeOf22
 v22:=Tryz.zeroValue22
 t23:=Tryz.underlying22
 a23:=Tryz.isAgg22
 z23:=Tryz.sizeOf22
 v23:=Tryz.zeroValue22
 t25:=Tryz.underlying3
 a25:=Tryz.isAgg3
 z25:=Tryz.sizeOf3
 v25:=Tryz.zeroValue3
 t32:=Tryz.underlying202
 a32:=Tryz.isAgg202
 z32:=Tryz.sizeOf202
 v32:=Tryz.zeroValue202
 t35:=Tryz.underlying278
 a35:=Tryz.isAgg278
 z35:=Tryz.sizeOf278
 v35:=Tryz.zeroValue278
 t36:=Tryz.underlying279
 a36:=Tryz.isAgg279
 z36:=Tryz.sizeOf279
 v36:=Tryz.zeroValue279
 t41:=Tryz.underlying166
 a41:=Tryz.isAgg166
 z41:=Tryz.sizeOf166
 v41:=Tryz.zeroValue166
 t44:=Tryz.underlying285
 a44:=Tryz.isAgg285
 z44:=Tryz.sizeOf285
 v44:=Tryz.zeroValue285
 t46:=Tryz.underlying174
 a46:=Tryz.isAgg174
 z46:=Tryz.sizeOf174
 v46:=Tryz.zeroValue174
 t53:=Tryz.underlying322
 a53:=Tryz.isAgg322
 z53:=Tryz.sizeOf322
 v53:=Tryz.zeroValue322
 t57:=Tryz.underlying326
 a57:=Tryz.isAgg326
 z57:=Tryz.sizeOf326
 v57:=Tryz.zeroValue326
 t63:=Tryz.underlying345
 a63:=Tryz.isAgg345
 z63:=Tryz.sizeOf345
 v63:=Tryz.zeroValue345
 t64:=Tryz.underlying65
 a64:=Tryz.isAgg65
 z64:=Tryz.sizeOf65
 v64:=Tryz.zeroValue65}
end Go.Proofs
namespace Go.Mp
open Go Go.Vc Go.Sp Go.Proofs Go.Shelf
variable{E:Env}{L:cv}{w:bH}
def Qy(m:Nat):AnyZI.SortsIn P Tryz.ez Fence.wide m:=
  ⟨λbC off cap d W c a b=>callsIn_wide.2 (AnyM.slices_Sort_int Tryz.pN bC off cap d W c a b),
   λp cap W=>callsIn_wide.2 (AnyM.slices_Sort_int_none Tryz.pN p cap W)⟩
def aIH(a:bW Nat)(W:bH):Calls P Bw #[.map a] W λe w'=>e=.returned (.func (.func xC) #[] #[Pb W.heap.size])/\w'=W.alloc (.cells #[.map a] (Tryz.gO.t 23)):=
 (callsIn_wide (n:=5)).1 (AnyZI.keys_in Tryz.pM Fence.wide 5 trivial rfl a W)
def azr{mp q:Nat}{f:Int->bW bE}(h:Sep E L w)(J:L[q]?=some (cE mp (Value.int .i64) f)){N:Nat}(C:∀k v,f k=some v->0<=k/\k<N)(hb:N<=17592186044416){G:Sl->bg0}(k:∀(s:Sl) (l:bR) (w':bH),s.n=l.length->KeysOf f l->Sep E (bw s 1 (bD l)::L) w'->G s w'):
  Calls P Bw #[(.map (some mp))] w λA K=>∃d:bE,A=.returned d/\Calls P xw #[d] K λp z=>∃g:Sl,p=.returned (Sv g)/\G g z:=by
 refine(aIH _ w).mono ?_;rintro e O ⟨rfl,rfl⟩;refine⟨_,rfl,?_⟩;have h1:=h.alloc #[.map (some mp)] (Tryz.gO.t 23);have t:(bC w.heap.size [.map (some mp)]::L)[q+1]?=some (cE mp (Value.int .i64) f):=by simpa using J
 obtain⟨D,m,M,u⟩:=cE.owns (kt:=lO) h1 t cV C hb;have o:=AnyZI.keys_gives (ρ:=Tryz.gO) {Tryz.pM with} Fence.wide 2 trivial rfl bu w.heap.size mp N D _ (by simp) (by simp) m;have H:∀args W,(callFunc xC args).run P W=.ok (.enter xC args) W:=enters_of func105 cV rfl;have B:∀args W,(callFunc (Tryz.ez.f 9) args).run P W=.ok (.enter (Tryz.ez.f 9) args) W:=enters_of func104 cV rfl;have F:=AnyZI.sorted_in Tryz.lU Fence.wide 5 trivial trivial trivial trivial rfl bu (Qy _) B xC #[Pb w.heap.size] trivial H _ _ (by simp[maxLen];omega) bu _ o;refine((callsIn_wide (n:=5)).1 F).mono ?_;rintro e w2 ⟨v,c,rfl,b,a,I,i⟩;obtain⟨r,j⟩:=u c b;have hlen:(c.mergeSort λx y=>decide (x<=y)).length=c.length:=List.length_mergeSort c;rw[<- hlen]at a;obtain⟨s,rfl,hn,h2⟩:=Dh h1 a i;refine⟨s,rfl,k s _ w2 hn ⟨M4 r,λk=>?_⟩ (h2.fr 1 rfl).tail⟩;rw[(y2 _ _).mem_iff];exact j k
def aIG(a:bW Nat)(W:bH):Calls P CA #[.map a] W λe w'=>e=.returned (.func (.func xR) #[] #[Pb W.heap.size])/\w'=W.alloc (.cells #[.map a] (Tryz.fY.t 23)):=
 (callsIn_wide (n:=5)).1 (AnyZI.keys_in Tryz.nI Fence.wide 5 trivial rfl a W)
def azq{mp q:Nat}{f:Int->bW bE}(h:Sep E L w)(J:L[q]?=some (cE mp (Value.int .i64) f)){N:Nat}(C:∀k v,f k=some v->0<=k/\k<N)(hb:N<=17592186044416){G:Sl->bg0}(k:∀(s:Sl) (l:bR) (w':bH),s.n=l.length->KeysOf f l->Sep E (bw s 1 (bD l)::L) w'->G s w'):
  Calls P CA #[(.map (some mp))] w λA K=>∃d:bE,A=.returned d/\Calls P xw #[d] K λp z=>∃g:Sl,p=.returned (Sv g)/\G g z:=by
 refine(aIG _ w).mono ?_;rintro e O ⟨rfl,rfl⟩;refine⟨_,rfl,?_⟩;have h1:=h.alloc #[.map (some mp)] (Tryz.fY.t 23);have t:(bC w.heap.size [.map (some mp)]::L)[q+1]?=some (cE mp (Value.int .i64) f):=by simpa using J
 obtain⟨D,m,M,u⟩:=cE.owns (kt:=lO) h1 t cV C hb;have o:=AnyZI.keys_gives (ρ:=Tryz.fY) {Tryz.nI with} Fence.wide 2 trivial rfl bu w.heap.size mp N D _ (by simp) (by simp) m;have H:∀args W,(callFunc xR args).run P W=.ok (.enter xR args) W:=enters_of func278 cV rfl;have B:∀args W,(callFunc (Tryz.ez.f 9) args).run P W=.ok (.enter (Tryz.ez.f 9) args) W:=enters_of func104 cV rfl;have F:=AnyZI.sorted_in Tryz.lU Fence.wide 5 trivial trivial trivial trivial rfl bu (Qy _) B xR #[Pb w.heap.size] trivial H _ _ (by simp[maxLen];omega) bu _ o;refine((callsIn_wide (n:=5)).1 F).mono ?_;rintro e w2 ⟨v,c,rfl,b,a,I,i⟩;obtain⟨r,j⟩:=u c b;have hlen:(c.mergeSort λx y=>decide (x<=y)).length=c.length:=List.length_mergeSort c;rw[<- hlen]at a;obtain⟨s,rfl,hn,h2⟩:=Dh h1 a i;refine⟨s,rfl,k s _ w2 hn ⟨M4 r,λk=>?_⟩ (h2.fr 1 rfl).tail⟩;rw[(y2 _ _).mem_iff];exact j k
end Go.Mp
namespace Go.Kc
open Go
def Pg.vs(p:Pg):bA bE:=[Iv p.kf,Iv p.ki,Iv p.place,Iv p.at_,Iv p.owner,Iv p.refs,Iv p.gen,.bool p.UG,.bool p.e9]
end Go.Kc
namespace Go.Mp.Tp
open Go Go.Vc Go.Sp Go.Kc Go.Mp
abbrev encI:Int->bE:=Value.int .i64
def fZ(k:Int×Int):bE:=.agg #[Iv k.1,Iv k.2]
def Qz(a b:Int×Int)(h:fZ a=fZ b):a=b:=by
 obtain⟨c,d⟩:=a;obtain⟨b1,b2⟩:=b;simpa[fZ]using h
def mA:h3 P lO encI:=h3.int cV
def Ea:h3 P w8 fZ:=h3.agg (d:=3) (l:=[.int .i64,.int .i64]) Qz cV bN cV (λk=>by
 unfold Typed;rw[show ei P w8=some true by kernel_rfl];exact⟨_,rfl,⟨_,rfl⟩,⟨_,rfl⟩,trivial⟩)
def Eb:h3 P H4 fZ:=h3.agg (d:=3) (l:=[.int .i64,.int .i64]) Qz cV bN cV (λk=>by
 unfold Typed;rw[show ei P H4=some true by kernel_rfl];exact⟨_,rfl,⟨_,rfl⟩,⟨_,rfl⟩,trivial⟩)
def hq(S:TS)(a:Int->Nat):Int->Asn:=λid=>match S.pg id with
 |some p=>bC (a id) p.vs
 |none=>emp
def eS(S:TS)(a:Int->Nat):Int->bW bE:=λid=>(S.pg id).map λ_=>.pointer (some ⟨a id,0,none⟩)
def Ec(t mp mf ms:Nat)(a:Int->Nat)(S:TS):cv:=
 [bC t [.map (some mp),.map (some mf),.map (some ms),Iv S.next],cE mp encI (eS S a),cE mf fZ (λk=>(S.files k).map encI),cE ms fZ (λk=>(S.c1 k).map encI),eL (hq S a)]
def c5(t:Nat)(S:TS):Asn:=fe λmp:Nat=>fe λmf:Nat=>fe λms:Nat=>fe λa:Int->Nat=>cB (Ec t mp mf ms a S)
variable{E:Env}{L:cv}{w:bH}
def c5.open{t:Nat}{S:TS}(h:Sep E (c5 t S::L) w):∃mp mf ms a,Sep E (bC t [.map (some mp),.map (some mf),.map (some ms),Iv S.next]::cE mp encI (eS S a)::
  cE mf fZ (λk=>(S.files k).map encI)::cE ms fZ (λk=>(S.c1 k).map encI)::eL (hq S a)::L) w:=by
 obtain⟨mp,h⟩:=Sep.ex.1 h;obtain⟨mf,h⟩:=Sep.ex.1 h;obtain⟨ms,h⟩:=Sep.ex.1 h;obtain⟨a,h⟩:=Sep.ex.1 h;exact⟨mp,mf,ms,a,Sep.cB.1 h⟩
def c5.shut{t mp mf ms:Nat}{a:Int->Nat}{S:TS}(h:Sep E (bC t [.map (some mp),.map (some mf),.map (some ms),Iv S.next]::cE mp encI (eS S a)::
  cE mf fZ (λk=>(S.files k).map encI)::cE ms fZ (λk=>(S.c1 k).map encI)::eL (hq S a)::L) w):Sep E (c5 t S::L) w:=
 Sep.ex.2 ⟨mp,Sep.ex.2 ⟨mf,Sep.ex.2 ⟨ms,Sep.ex.2 ⟨a,Sep.cB.2 h⟩⟩⟩⟩
def aKw{t mp q:Nat}{f:Int->bW bE}(h:Sep E L w){i:Nat}{c:bA bE}(e:L[i]?=some (bC t c))(b:c[0]?=some (.map (some mp)))(d:L[q]?=some (cE mp (Value.int .i64) f)){N:Nat}(a:∀k v,f k=some v->0<=k/\k<N)(hb:N<=17592186044416):
  Calls P xg #[Pb t] w (cA λv w'=>∃(s:Sl) (l:bR),v=Sv s/\s.n=l.length/\KeysOf f l/\Sep E (bw s 1 (bD l)::L) w'):=by
 apply VD;unfold Kb qJ qM qN;refine⟨_,rfl,some mp,by rw[cj,h.cellAt i e];exact b,azr h d a hb (λs l w' hn hk h1=>?_)⟩;exact⟨s,l,rfl,hn,hk,h1⟩
def vo(h:Sep E L w):Calls P Bu #[] w (cA λv w'=>∃t,v=Pb t/\Sep E (c5 t TS.zero::L) w'):=by
 apply VM;unfold Kn;refine cE.new (enc:=encI) h (λmp f h1=>cE.new (enc:=fZ) h1 (λmf w2 h2=>cE.new (enc:=fZ) h2 (λms g b=>Al.i b (λt e c=>?_))));refine⟨t,rfl,c5.shut (mp:=mp) (mf:=mf) (ms:=ms) (a:=λ_=>0) ?_⟩;have d:Sep E (eL (hq TS.zero λ_=>0)::_) e:=eL.nil c (λi=>rfl);exact d.ro 5 [1,4,3,2,0] rfl
def QA{κ:Type}{enc:κ->bE}{b:Nat}{t kt:cf}{g:κ->bW Int}(i:Nat)(h:Sep E L w)(c:L[i]?=some (cE b enc (λk=>(g k).map encI)))(K:h3 P kt enc)(d:mQ P t=some (kt,Iv 0))(k:κ):
  gr P t (.map (some b)) (enc k) true w (.tuple #[Iv ((g k).getD 0),.bool (g k).isSome]):=by
 have:=gr.i true i h c K d k;cases a:g k with
 |none=>simpa[a]using this
 |some v=>simpa[a]using this
def rq{b:Nat}{S:TS}{a:Int->Nat}(i:Nat)(h:Sep E L w)(d:L[i]?=some (cE b encI (eS S a)))(k:Int):
  gr P H2 (.map (some b)) (Iv k) false w (.pointer ((S.pg k).map λ_=>⟨a k,0,none⟩)):=by
 have:=gr.i false i h d mA (t:=H2) (z:=.pointer none) cV k;unfold eS at this;cases c:S.pg k with
 |none=>simpa[c]using this
 |some v=>simpa[c]using this
def vp{t:Nat}{S:TS}(k:Int×Int)(h:Sep E (c5 t S::L) w):Calls P Ck #[Pb t,fZ k] w (cY E (Iv (S.of k)) (c5 t S::L)):=by
 obtain⟨mp,mf,ms,a,h⟩:=c5.open h;apply Xx;unfold LL qM zZ;refine Al.i h (λp d h1=>Dr.i h1 (λw2 h2=>?_));have b:=c5.shut (h2.tail);refine⟨_,rfl,some mf,by rw[cj];exact(h2.cellAt 1 rfl _).trans rfl,k.1,(h2.cellAt 0 rfl _).trans rfl,k.2,by rw[cj];exact(h2.cellAt 0 rfl _).trans rfl,_,_,QA 3 h2 rfl Ea cV k,?_⟩;unfold TS.of;cases c:S.files k with
 |none=>exact dG ⟨rfl,b⟩
 |some v=>exact eB ⟨rfl,b⟩
def Ed{t:Nat}{S:TS}(place at_:Int)(h:Sep E (c5 t S::L) w):Calls P Cp #[Pb t,Iv place,Iv at_] w (cA λv w'=>w'=w/\v=Iv (S.at_ (place,at_))):=by
 obtain⟨mp,mf,ms,a,h⟩:=c5.open h;apply XH;unfold LY qM;refine⟨_,rfl,some ms,by rw[cj];exact(h.cellAt 0 rfl _).trans rfl,_,_,QA 3 h rfl Eb cV (place,at_),?_⟩;unfold TS.at_;cases b:S.c1 (place,at_)with
 |none=>exact dG ⟨rfl,rfl⟩
 |some v=>exact eB ⟨rfl,rfl⟩
def aI8{S:TS}{a:Int->Nat}{id:Int}{p:Pg}{S':TS}(c:S'.pg=cL S.pg id (some p))(b:Nat)(hb:∀j,j≠id->S.pg j≠none->(λj=>if j=id then b else a j) j=a j):hq S' (λj=>if j=id then b else a j)=e3 (hq S a) id (bC b p.vs):=by
 have _:=hb;funext j;unfold hq e3;rw[c];unfold cL;by_cases h:j=id;·simp[h]
 ·simp[h]
def aHy{S:TS}{a:Int->Nat}{id:Int}{p:Pg}{S':TS}(c:S'.pg=cL S.pg id (some p))(b:Nat):eS S' (λj=>if j=id then b else a j)=cL (eS S a) id (some (Pb b)):=by
 funext j;unfold eS cL;rw[c];unfold cL;by_cases h:j=id;·simp[h]
 ·simp[h]
def ys{S:TS}{a:Int->Nat}{id:Int}{p:Pg}{S':TS}(b:S'.pg=cL S.pg id (some p)):hq S' a=e3 (hq S a) id (bC (a id) p.vs):=by
 funext j;unfold hq e3;rw[b];unfold cL;by_cases h:j=id;·simp[h]
 ·simp[h]
def yt{S:TS}{a:Int->Nat}{id:Int}{p q:Pg}{S':TS}(b:S'.pg=cL S.pg id (some p))(c:S.pg id=some q):eS S' a=eS S a:=by
 funext j;unfold eS;rw[b];unfold cL;by_cases h:j=id;·simp[h,c]
 ·simp[h]
def QB{S:TS}{a:Int->Nat}{id:Int}{p:Pg}(h:S.pg id=some p):hq S a id=bC (a id) p.vs:=by unfold hq;rw[h]
def oS{t:Nat}{S:TS}(id:Int)(h:Sep E (c5 t S::L) w):Calls P px #[Pb t,Iv id] w (cY E (.tuple #[.agg (S.get id).1.vs.toArray,Iv (S.get id).2]) (c5 t S::L)):=by
 obtain⟨mp,mf,ms,a,h⟩:=c5.open h;apply VE;unfold Ke qM qU qV qY;refine Al.i h (λr g h1=>?_);refine⟨_,rfl,some mp,by rw[cj];exact(h1.cellAt 1 rfl _).trans rfl,_,rq 2 h1 rfl id,?_⟩;have fin:∀ {w2:bH} (p:Pg),Sep E (bC r p.vs::c5 t S::L) w2->∀(j:Nat) (v:bE),p.vs[j]?=some v->w2.cell? (Addr.add ⟨r,0,none⟩ j)=some v:=by
  intro w2 p h2 j v c;rw[cj,h2.cell,fy];exact c
 unfold TS.get;cases e:S.pg id with
 |none=>
  refine dG (kM.i (h1.ro 6 [0,1,2,3,4,5] rfl) bN (λw2 h2=>?_));have b:Sep E (c5 t S::L) w2:=c5.shut h2.tail;have f:=fin Pg.zero (w2:=w2) ((c5.shut (L:=bC r Pg.zero.vs::L) (h2.ro 6 [1,2,3,4,5,0] rfl)).swap);exact⟨_,f 0 _ rfl,_,f 1 _ rfl,_,f 2 _ rfl,_,f 3 _ rfl,_,f 4 _ rfl,_,f 5 _ rfl,_,f 6 _ rfl,_,f 7 _ rfl,_,f 8 _ rfl,rfl,b⟩
 |some p=>
  have d:=eL.out (h1.fr 5 rfl) id;rw[QB e]at d;have ld:∀(j:Nat) (v:bE),p.vs[j]?=some v->g.cell? (Addr.add ⟨a id,0,none⟩ j)=some v:=by
   intro j v c;rw[cj,d.cell,fy];exact c
  refine eB ⟨_,rfl,_,ld 0 _ rfl,_,ld 1 _ rfl,_,ld 2 _ rfl,_,ld 3 _ rfl,_,ld 4 _ rfl,_,ld 5 _ rfl,_,ld 6 _ rfl,_,ld 7 _ rfl,_,ld 8 _ rfl,?_⟩;refine kM.i (h1.ro 6 [0,1,2,3,4,5] rfl) (ep 9) (λw2 h2=>?_);have b:Sep E (c5 t S::L) w2:=c5.shut h2.tail;have f:=fin p (w2:=w2) ((c5.shut (L:=bC r p.vs::L) (h2.ro 6 [1,2,3,4,5,0] rfl)).swap);exact⟨_,f 0 _ rfl,_,f 1 _ rfl,_,f 2 _ rfl,_,f 3 _ rfl,_,f 4 _ rfl,_,f 5 _ rfl,_,f 6 _ rfl,_,f 7 _ rfl,_,f 8 _ rfl,rfl,b⟩
def QC{t mp mf ms q p:Nat}{a:Int->Nat}{S:TS}{kf ki o:Int}{l:bA bE}(b:S.pg S.next=none)(h:Sep E (cE mp encI (cL (eS S a) S.next (some (Pb q)))::bC q [Iv kf,Iv ki,Iv 0,Iv 0,Iv o,Iv 0,Iv 0,.bool false,.bool false]::
   bC t [.map (some mp),.map (some mf),.map (some ms),Iv (i64.wrap (S.next+1))]::bC p l::cE mf fZ (λk=>(S.files k).map encI)::cE ms fZ (λk=>(S.c1 k).map encI)::eL (hq S a)::L) w):
  Sep E (c5 t (S.iH kf ki o)::L) w:=by
 have h1:=h.ro 7 [1,6,2,0,4,5,3] rfl;have h2:=eL.M3 (i:=S.next) h1 (by unfold hq;rw[b]);have c:=aI8 (S:=S) (a:=a) (id:=S.next) (p:=⟨kf,ki,0,0,o,0,0,false,false⟩) (S':=S.iH kf ki o) rfl q (λj g _=>by simp[g]);have d:=aHy (S:=S) (a:=a) (id:=S.next) (p:=⟨kf,ki,0,0,o,0,0,false,false⟩) (S':=S.iH kf ki o) rfl q;have e:e3 (hq S a) S.next (bC q [Iv kf,Iv ki,Iv 0,Iv 0,Iv o,Iv 0,Iv 0,.bool false,.bool false])=hq (S.iH kf ki o) (λj=>if j=S.next then q else a j):=c.symm;rw[e,<- d]at h2;have f:=(h2.fr 5 rfl).tail;exact c5.shut (S:=S.iH kf ki o) (f.ro 5 [1,2,3,4,0] rfl)
def yr{t:Nat}{S:TS}(kf ki o:Int)(c:S.pg S.next=none)(h:Sep E (c5 t S::L) w):Calls P Cl #[Pb t,fZ (kf,ki),Iv o] w
  (cY E (.tuple #[Iv (S.make kf ki o).2.1,Iv (S.make kf ki o).2.2]) (c5 t (S.make kf ki o).1::L)):=by
 obtain⟨mp,mf,ms,a,h⟩:=c5.open h;apply Xy;unfold LM qL qM qQ qU zS zZ;refine Al.i h (λp x h1=>?_);refine⟨_,rfl,S.next,by rw[cj];exact(h1.cellAt 1 rfl _).trans rfl,kf,(h1.cellAt 0 rfl _).trans rfl,?_⟩;unfold TS.make;refine cX (λhk=>?_) (λhk=>?_)
 ·rw[bL hk];refine kM.i h1 (ep 2) (λw2 h2=>?_);refine⟨_,rfl,S.next,by rw[cj];exact(h2.cellAt 1 rfl _).trans rfl,_,rfl,?_⟩;rw[cj];refine St.i h2.swap (show 3<4 by decide) (λm d=>Dr.i d (λn b=>?_));refine⟨_,rfl,some mp,by rw[cj];exact(b.cellAt 0 rfl _).trans rfl, -1,(b.cellAt 1 rfl _).trans rfl,S.next,by rw[cj];exact(b.cellAt 1 rfl _).trans rfl,?_⟩;refine Al.i b (λq r g=>?_);refine⟨some mp,by rw[cj];exact(g.cellAt 1 rfl _).trans rfl,rfl,?_⟩;refine mapUpdate.i (g.ro 7 [3,0,1,2,4,5,6] rfl) mA (z:=.pointer none) cV S.next _ (λs f=>⟨rfl,?_⟩);exact QC c f
 ·rw[cF];refine⟨kf,(h1.cellAt 0 rfl _).trans rfl,ki,by rw[cj];exact(h1.cellAt 0 rfl _).trans rfl,?_⟩;refine use (vp (L:=bC p [Iv kf,Iv ki]::L) (S:=S) (t:=t) (kf,ki) (c5.shut (h1.ro 6 [1,2,3,4,5,0] rfl))) ?_;rintro _ w2 ⟨rfl,h2⟩;refine⟨_,rfl,hD (λl=>?_) (λu=>?_)⟩;·rw[bL l];exact⟨rfl,(h2.fr 1 rfl).tail⟩
  ·rw[cF];obtain⟨mp,mf,ms,a,h2⟩:=c5.open h2;refine Dr.i h2 (λm d=>?_);refine⟨_,rfl,some mf,by rw[cj];exact(d.cellAt 0 rfl _).trans rfl,kf,(d.cellAt 5 rfl _).trans rfl,ki,by rw[cj];exact(d.cellAt 5 rfl _).trans rfl,?_⟩;refine mapUpdate.i (d.ro 6 [2,0,1,3,4,5] rfl) Ea (z:=Iv 0) cV (kf,ki) _ (λn b=>?_);refine⟨_,rfl,S.next,by rw[cj];exact(b.cellAt 1 rfl _).trans rfl,_,rfl,?_⟩;rw[cj];refine St.i b.swap (show 3<4 by decide) (λr g=>Dr.i g (λs f=>?_));refine⟨_,rfl,some mp,by rw[cj];exact(f.cellAt 0 rfl _).trans rfl,kf,(f.cellAt 5 rfl _).trans rfl,ki,by rw[cj];exact(f.cellAt 5 rfl _).trans rfl,?_⟩;refine Al.i f (λq y i=>?_);refine⟨some mp,by rw[cj];exact(i.cellAt 1 rfl _).trans rfl,rfl,?_⟩;refine mapUpdate.i (i.ro 7 [3,0,1,6,2,4,5] rfl) mA (z:=.pointer none) cV S.next _ (λA j=>⟨rfl,?_⟩);have e:(cL (λk=>(S.files k).map encI) (kf,ki) (some (Iv S.next)))= λk=>(cL S.files (kf,ki) (some S.next) k).map encI:=by
    funext k;unfold cL;split<;>rfl
   rw[e]at j;exact QC (S:={S with files:=cL S.files (kf,ki) (some S.next)}) c j
def c5.bK{mp:Nat}{a:Int->Nat}{S:TS}{id:Int}{p:Pg}{A B C D:Asn}(b:S.pg id=some p)(h:Sep E (A::B::C::D::eL (hq S a)::L) w):Sep E (bC (a id) p.vs::eL (e3 (hq S a) id emp)::A::B::C::D::L) w:=by
 have _:=mp;have h1:=eL.out (h.fr 4 rfl) id;rw[QB b]at h1;exact h1
def aIv{t:Nat}{S:TS}(id n:Int)(h:Sep E (c5 t S::L) w):Calls P IY #[Pb t,Iv id,Iv n] w
  (cY E (.tuple #[Iv (S.bO id n).2.1,Iv (S.bO id n).2.2]) (c5 t (S.bO id n).1::L)):=by
 have b:=h;obtain⟨mp,mf,ms,a,h⟩:=c5.open h;apply WO;unfold Ld qL qM;refine⟨_,rfl,some mp,by rw[cj];exact(h.cellAt 0 rfl _).trans rfl,_,rq 1 h rfl id,?_⟩;unfold TS.bO;cases i:S.pg id with
 |none=>exact eB ⟨rfl,b⟩
 |some p=>
  refine dG (cX (λh1=>?_) (λh1=>gn (λh2=>?_) (λh2=>?_)));·dsimp only;rw[bL (.inl h1)];exact⟨rfl,b⟩
  ·dsimp only;rw[bL (.inr (.inl h2))];exact⟨rfl,b⟩
  ·have c:=c5.bK (mp:=mp) i h;refine⟨_,rfl,p.refs,by rw[cj];exact(c.cellAt 0 rfl _).trans rfl,cX (λd=>?_) (λd=>?_)⟩;·dsimp only;rw[bL (.inr (.inr d))];exact⟨rfl,b⟩
   ·dsimp only;rw[cF];refine⟨_,rfl,p.refs,by rw[cj];exact(c.cellAt 0 rfl _).trans rfl,_,rfl,?_⟩;refine ef.j c (show 5<9 by decide) (λw2 f=>?_);refine⟨_,rfl,i64.wrap (p.refs+n),by rw[cj];exact(f.cellAt 0 rfl _).trans rfl,rfl,?_⟩;have g:=eL.back f;have e:e3 (hq S a) id (bC (a id) (p.vs.set (0+5) (Iv (i64.wrap (p.refs+n)))))=hq (S.cK id {p with refs:=i64.wrap (p.refs+n)}) a:=(ys (S':=S.cK id {p with refs:=i64.wrap (p.refs+n)}) rfl).symm;have j:eS S a=eS (S.cK id {p with refs:=i64.wrap (p.refs+n)}) a:=(yt rfl i).symm;rw[e,j]at g;exact c5.shut (S:=S.cK id {p with refs:=i64.wrap (p.refs+n)}) (g.ro 5 [1,2,3,4,0] rfl)
def vq{t:Nat}{S:TS}(id:Int)(h:Sep E (c5 t S::L) w):Calls P BX #[Pb t,Iv id] w
  (cY E (Iv (S.drop id).2) (c5 t (S.drop id).1::L)):=by
 have c:=h;obtain⟨mp,mf,ms,a,h⟩:=c5.open h;apply WU;unfold Li qL qM zZ;refine⟨_,rfl,some mp,by rw[cj];exact(h.cellAt 0 rfl _).trans rfl,_,rq 1 h rfl id,?_⟩;unfold TS.drop;cases o:S.pg id with
 |none=>exact eB ⟨rfl,c⟩
 |some p=>
  have d:=c5.bK (mp:=mp) o h;refine dG ⟨_,rfl,p.refs,by rw[cj];exact(d.cellAt 0 rfl _).trans rfl,gn (λe=>?_) (λe=>?_)⟩;·dsimp only;rw[bL (.inl e)];exact⟨rfl,c⟩
  ·refine⟨_,rfl,p.place,by rw[cj];exact(d.cellAt 0 rfl _).trans rfl,iz (λf=>?_) (λf=>?_)⟩;·dsimp only;rw[bL (.inr f)];exact⟨rfl,c⟩
   ·dsimp only;rw[cF];refine Dr.i d (λq b=>?_);refine⟨_,rfl,some mf,by rw[cj];exact(b.cellAt 2 rfl _).trans rfl,_,rfl,p.kf,by rw[cj,cj];exact(b.cellAt 0 rfl _).trans rfl,p.ki,by rw[cj,cj];exact(b.cellAt 0 rfl _).trans rfl,?_⟩;refine gI.i (b.ro 6 [4,0,1,2,3,5] rfl) Ea (z:=Iv 0) cV (p.kf,p.ki) (λw2 g=>?_);refine⟨_,rfl,some mp,by rw[cj];exact(g.cellAt 3 rfl _).trans rfl,?_⟩;refine gI.i (g.ro 6 [4,0,1,2,3,5] rfl) mA (z:=.pointer none) cV id (λr i=>⟨rfl,?_⟩);have l:cL (eS S a) id none=eS {S with pg:=cL S.pg id none,files:=cL S.files (p.kf,p.ki) none} a:=by
     funext j;unfold eS cL;dsimp only;split<;>rfl
    have m:(cL (λk=>(S.files k).map encI) (p.kf,p.ki) none)= λk=>(cL S.files (p.kf,p.ki) none k).map encI:=by
     funext k;unfold cL;split<;>rfl
    have n:e3 (hq S a) id emp=hq {S with pg:=cL S.pg id none,files:=cL S.files (p.kf,p.ki) none} a:=by
     funext j;unfold hq e3 cL;dsimp only;split<;>rfl
    rw[l,m,n]at i;exact c5.shut (S:={S with pg:=cL S.pg id none,files:=cL S.files (p.kf,p.ki) none}) ((i.fr 2 rfl).tail.ro 5 [3,0,1,4,2] rfl)
def aAd{t:Nat}{S:TS}(id o:Int)(b:Nat)(h:Sep E (c5 t S::bC b [Iv o]::L) w):Calls P xI #[Pb t,Iv id,.func (.func B4) #[] #[Pb b]] w
  (cY E (Iv (S.own id o).2) (c5 t (S.own id o).1::L)):=by
 have i:=h;obtain⟨mp,mf,ms,a,h⟩:=c5.open h;apply LW;unfold C0 qM;refine⟨_,rfl,some mp,by rw[cj];exact(h.cellAt 0 rfl _).trans rfl,_,rq 1 h rfl id,?_⟩;unfold TS.own;cases f:S.pg id with
 |none=>exact eB ⟨rfl,(i.fr 1 rfl).tail⟩
 |some p=>
  refine dG ⟨B4,_,rfl,by kernel_rfl,?_⟩;have c:=c5.bK (mp:=mp) f h;refine use (K:=λv w'=>v=.tuple #[]/\Sep E (c5 t (S.cK id {p with owner:=o})::L) w') (W6 (some ⟨a id,0,none⟩) ⟨b,0,none⟩ ?_) ?_
  ·unfold Lp qD;refine⟨o,(c.cellAt 6 rfl _).trans rfl,_,rfl,?_⟩;refine ef.j c (show 4<9 by decide) (λw2 k=>⟨rfl,?_⟩);have d:=eL.back k;have e:e3 (hq S a) id (bC (a id) (p.vs.set (0+4) (Iv o)))=hq (S.cK id {p with owner:=o}) a:=(ys (S':=S.cK id {p with owner:=o}) rfl).symm;have g:eS S a=eS (S.cK id {p with owner:=o}) a:=(yt rfl f).symm;rw[e,g]at d;exact c5.shut (S:=S.cK id {p with owner:=o}) ((d.fr 5 rfl).tail.ro 5 [1,2,3,4,0] rfl)
  ·rintro v w' ⟨rfl,j⟩;exact⟨rfl,rfl,j⟩
def QD{t:Nat}{S:TS}(id o:Int)(h:Sep E (c5 t S::L) w):Calls P BI #[Pb t,Iv id,Iv o] w
  (cY E (Iv (S.own id o).2) (c5 t (S.own id o).1::L)):=by
 apply Wq;unfold KR qC qQ;refine Al.i h (λb a h1=>use (aAd id o b h1.swap) ?_);rintro v w' ⟨rfl,h2⟩;exact⟨_,rfl,rfl,h2⟩
def azp{t:Nat}{S:TS}(id:Int)(o:Bool)(b:Nat)(h:Sep E (c5 t S::bC b [.bool o]::L) w):Calls P xI #[Pb t,Iv id,.func (.func Cn) #[] #[Pb b]] w
  (cY E (Iv (S.mark id o).2) (c5 t (S.mark id o).1::L)):=by
 have i:=h;obtain⟨mp,mf,ms,a,h⟩:=c5.open h;apply LW;unfold C0 qM;refine⟨_,rfl,some mp,by rw[cj];exact(h.cellAt 0 rfl _).trans rfl,_,rq 1 h rfl id,?_⟩;unfold TS.mark;cases f:S.pg id with
 |none=>exact eB ⟨rfl,(i.fr 1 rfl).tail⟩
 |some p=>
  refine dG ⟨Cn,_,rfl,by kernel_rfl,?_⟩;have c:=c5.bK (mp:=mp) f h;refine use (K:=λv w'=>v=.tuple #[]/\Sep E (c5 t (S.cK id {p with e9:=o})::L) w') (XC (some ⟨a id,0,none⟩) ⟨b,0,none⟩ ?_) ?_
  ·unfold LQ qm;refine⟨o,(c.cellAt 6 rfl _).trans rfl,_,rfl,?_⟩;refine ef.j c (show 8<9 by decide) (λw2 k=>⟨rfl,?_⟩);have d:=eL.back k;have e:e3 (hq S a) id (bC (a id) (p.vs.set (0+8) (.bool o)))=hq (S.cK id {p with e9:=o}) a:=(ys (S':=S.cK id {p with e9:=o}) rfl).symm;have g:eS S a=eS (S.cK id {p with e9:=o}) a:=(yt rfl f).symm;rw[e,g]at d;exact c5.shut (S:=S.cK id {p with e9:=o}) ((d.fr 5 rfl).tail.ro 5 [1,2,3,4,0] rfl)
  ·rintro v w' ⟨rfl,j⟩;exact⟨rfl,rfl,j⟩
def QE{t:Nat}{S:TS}(id:Int)(o:Bool)(h:Sep E (c5 t S::L) w):Calls P BT #[Pb t,Iv id,.bool o] w
  (cY E (Iv (S.mark id o).2) (c5 t (S.mark id o).1::L)):=by
 apply WM;unfold Lb qQ;refine Al.i h (λb a h1=>use (azp id o b h1.swap) ?_);rintro v w' ⟨rfl,h2⟩;exact⟨_,rfl,rfl,h2⟩
def QF(g:Int×Int->bW Int)(k:Int×Int)(v:bW Int):cL (λk=>(g k).map encI) k (v.map encI)= λx=>(cL g k v x).map encI:=by
 funext x;unfold cL;split<;>rfl
def aHL(g:Int×Int->bW Int)(k:Int×Int):cL (λk=>(g k).map encI) k none= λx=>(cL g k none x).map encI:=QF g k none
def aHM(g:Int×Int->bW Int)(k:Int×Int)(v:Int):cL (λk=>(g k).map encI) k (some (Value.int .i64 v))= λx=>(cL g k (some v) x).map encI:=QF g k (some v)
def te{t:Nat}{S:TS}(id place at_:Int)(h:Sep E (c5 t S::L) w):Calls P uL #[Pb t,Iv id,Iv place,Iv at_] w
  (cY E (Iv (S.put id place at_).2) (c5 t (S.put id place at_).1::L)):=by
 have d:=h;obtain⟨mp,mf,ms,a,h⟩:=c5.open h;apply WT;unfold Lh qL qM qQ;refine⟨_,rfl,some mp,by rw[cj];exact(h.cellAt 0 rfl _).trans rfl,_,rq 1 h rfl id,?_⟩;unfold TS.put;cases q:S.pg id with
 |none=>exact eB ⟨rfl,d⟩
 |some p=>
  dsimp only;have bad:∀ {r:TS×Int},(place<0\/2<place\/at_<0\/(place=0/\at_≠0))->(Value.int .i64 1=Iv (if place<0\/2<place\/at_<0\/(place=0/\at_≠0)then(S,(1:Int))else r).2/\Sep E (c5 t (if place<0\/2<place\/at_<0\/(place=0/\at_≠0)then(S,(1:Int))else r).1::L) w):=by
   intro r hb;rw[bL hb];exact⟨rfl,d⟩
  refine dG (cX (λc=>bad (.inl c)) (λA=>gn (λc=>bad (.inr (.inl c))) (λB=>cX (λc=>bad (.inr (.inr (.inl c)))) (λC=>eX (λe=>iz (λc=>bad (.inr (.inr (.inr ⟨e,c⟩)))) (λl=>?_)) (λe=>?_)))));all_goals
   have s:¬ (place<0\/2<place\/at_<0\/(place=0/\at_≠0)):=by omega
   rw[bJ s];refine use (Ed place at_ d) ?_;rintro _ D ⟨rfl,rfl⟩;refine⟨_,rfl,?_⟩;refine hD (λm=>iz (λn=>?_) (λn=>?_)) (λm=>?_);·rw[bL ⟨m,n⟩];exact⟨rfl,d⟩
   all_goals
    rw[cF];have u:=c5.bK (mp:=mp) q h;refine Dr.i u (λw2 f=>?_);refine⟨_,rfl,some ms,by rw[cj];exact(f.cellAt 2 rfl _).trans rfl,_,rfl,p.place,by rw[cj];exact(f.cellAt 0 rfl _).trans rfl,_,rfl,p.at_,by rw[cj];exact(f.cellAt 0 rfl _).trans rfl,?_⟩;refine gI.i (f.ro 6 [5,0,1,2,3,4] rfl) Eb (z:=Iv 0) cV (p.place,p.at_) (λF o=>?_);rw[aHL S.c1 (p.place,p.at_)]at o;refine⟨_,rfl,ef.j o.swap (show 2<9 by decide) (λG x=>?_)⟩;refine⟨_,rfl,ef.j x (show 3<9 by decide) (λH y=>?_)⟩;have i:=eL.back (y.ro 6 [0,2,1,3,4,5] rfl);have fin:∀ {sp:Int×Int->bW Int} {g:bH},Sep E (eL (e3 (hq S a) id (bC (a id) ((p.vs.set (0+2) (Iv place)).set (0+3) (Iv at_))))::
      cE ms fZ (λk=>(sp k).map encI)::bC t [.map (some mp),.map (some mf),.map (some ms),Iv S.next]::cE mp encI (eS S a)::cE mf fZ (λk=>(S.files k).map encI)::L) g->
      Sep E (c5 t {pg:=cL S.pg id (some {p with place:=place,at_:=at_}),files:=S.files,c1:=sp,next:=S.next} ::L) g:=by
     intro sp g b;have e:e3 (hq S a) id (bC (a id) ((p.vs.set (0+2) (Iv place)).set (0+3) (Iv at_)))=hq {pg:=cL S.pg id (some {p with place:=place,at_:=at_}),files:=S.files,c1:=sp,next:=S.next} a:=
      (ys (S':={pg:=cL S.pg id (some {p with place:=place,at_:=at_}),files:=S.files,c1:=sp,next:=S.next}) rfl).symm
     have l:eS S a=eS {pg:=cL S.pg id (some {p with place:=place,at_:=at_}),files:=S.files,c1:=sp,next:=S.next} a:=(yt rfl q).symm;rw[e,l]at b;exact c5.shut (S:={pg:=cL S.pg id (some {p with place:=place,at_:=at_}),files:=S.files,c1:=sp,next:=S.next}) (b.ro 5 [2,3,4,1,0] rfl)
    refine iz (λj=>?_) (λj=>?_)
    ·refine⟨_,rfl,some ms,by rw[cj];exact(i.cellAt 2 rfl _).trans rfl,?_⟩;refine mapUpdate.i (i.ro 5 [1,0,2,3,4] rfl) Eb (z:=Iv 0) cV (place,at_) _ (λg b=>⟨rfl,?_⟩);rw[aHM (cL S.c1 (p.place,p.at_) none) (place,at_) id]at b;rw[bL j];exact fin b.swap
    ·rw[bJ (by simpa using j)];exact⟨rfl,fin i⟩
structure yu(S:TS)(l:bR):Prop where
 cZ:l.Pairwise (· < ·)
 mem:∀k,k∈l↔(S.pg k).isSome=true
def e8(S:TS)(N:Nat):Prop:=∀k,(S.pg k).isSome=true->0<=k/\k<N
def yu.le{S:TS}{l:bR}{N:Nat}(h:yu S l)(hf:e8 S N):l.length<=N:=
 sK N l (ob.2 (h.cZ.imp (λa he=>bu))) (λx hx=>hf x ((h.mem x).1 hx))
def QG{t:Nat}{S:TS}{N:Nat}(b:e8 S N)(hb:N<=17592186044416)(h:Sep E (c5 t S::L) w):
  Calls P xg #[Pb t] w (cA λv w'=>∃(s:Sl) (l:bR),v=Sv s/\s.n=l.length/\yu S l/\Sep E (bw s 1 (bD l)::c5 t S::L) w'):=by
 obtain⟨mp,mf,ms,a,h⟩:=c5.open h;refine use (aKw (f:=eS S a) h (i:=0) (q:=1) rfl rfl rfl (N:=N) (λk v hk=>?_) hb) ?_
 ·refine b k ?_;unfold eS at hk;cases c:S.pg k with
  |none=>rw[c]at hk;cases hk
  |some p=>rfl
 ·rintro v d ⟨s,l,rfl,hn,hl,h1⟩;refine⟨_,rfl,s,l,rfl,hn,⟨hl.cZ,λk=>?_⟩,?_⟩;·rw[hl.mem k];unfold eS;cases S.pg k<;>simp
  ·have h2:=c5.shut (L:=bw s 1 (bD l)::L) (h1.ro 6 [1,2,3,4,5,0] rfl);exact h2.swap
def rr(S:TS)(o id:Int):Bool:=match S.pg id with
 |some p=>p.owner !=o
 |none=>true
def aIx{t:Nat}{S:TS}{N:Nat}(o:Int)(g:e8 S N)(hb:N<=17592186044416)(h:Sep E (c5 t S::L) w):
  Calls P IG #[Pb t,Iv o] w (cA λv w'=>∃(s:Sl) (l:bR),v=Sv s/\yu S l/\s.n=(l.filter λx=> !rr S o x).length/\Sep E (bw s 1 (bD (l.filter λx=> !rr S o x))::c5 t S::L) w'):=by
 apply Wp;unfold KQ qC qJ qb;refine Al.i h (λc r h1=>Al.i h1 (λd w2 h2=>?_));refine⟨_,(h2.cellAt 1 rfl _).trans rfl,?_⟩;have j:Sep E (c5 t S::bC d [Iv o]::bC c [Pb t]::L) w2:=h2.ro 3 [2,0,1] rfl;refine use (QG g hb j) ?_;rintro _ u ⟨s,l,rfl,hn,hl,k⟩;refine⟨s,rfl,?_⟩;have hlen:=hl.le g;refine use (PW (L:=c5 t S::bC d [Iv o]::bC c [Pb t]::L) (q:=rr S o) ?_ hn bu k) ?_
 ·intro m hm x z hx e;obtain⟨p,hp⟩:=kJ.1 ((hl.mem x).1 hx);refine⟨I0,_,rfl,by kernel_rfl,?_⟩;refine use (K:=λv w'=>v=.bool (rr S o x)/\Sep E (bw s 1 (bD m)::c5 t S::bC d [Iv o]::bC c [Pb t]::L) w') (W5 x ⟨c,0,none⟩ ⟨d,0,none⟩ ?_) ?_
  ·unfold Lo qD qL qM qb;refine Dr.i e (λA b=>?_);obtain⟨mp,mf,ms,a,f⟩:=c5.open (b.fr 1 rfl);refine⟨_,(b.cellAt 3 rfl _).trans rfl,_,rfl,some mp,by rw[cj];exact(f.cellAt 0 rfl _).trans rfl,_,rq 1 f rfl x,?_⟩;rw[hp];have n:=c5.bK (mp:=mp) hp f;refine⟨_,rfl,p.owner,by rw[cj];exact(n.cellAt 0 rfl _).trans rfl,o,(b.cellAt 2 rfl _).trans rfl,?_,b⟩;unfold rr;rw[hp]
  ·rintro v w' ⟨rfl,b⟩;exact⟨rfl,b⟩
 ·rintro _ y ⟨s',rfl,i,e⟩;have b:=(e.fr 2 rfl).tail;exact⟨s',rfl,s',l,rfl,hl,i,(b.fr 2 rfl).tail⟩
end Go.Mp.Tp
namespace Go.Mp
open Go Go.Vc Go.Sp Go.Stab
section
variable{E:Env}{L:cv}{w:bH}{s:Sl}{cmp:bE}{lt:Int->Int->Bool}{n:Nat}{R b:Int->Int->Prop}
def lq{A X Y B:bR}{k:Nat}(hk:k<X.length):(A++X++Y++B)[A.length+k]?=X[k]? :=by
 rw[dm,dm,lp,eN hk]
def lr{A X Y B:bR}{k:Nat}(hk:k<Y.length):(A++X++Y++B)[A.length+X.length+k]?=Y[k]? :=by
 have:A.length+X.length+k=(A++X).length+k:=by simp
 rw[this,dm,lp,eN hk]
def vj(K:lo R b lt)(aX:n<1152921504606846976)(hn:s.n=n)(aD:gA E L s cmp lt n):∀(N:Nat) {A X Y B:bR} {w:bH},X.length+Y.length<=N->1<=X.length->1<=Y.length->
  X.Pairwise R->Y.Pairwise R->(∀x∈X,∀y∈Y,b x y)->(A++X++Y++B).length=n->Sep E (bw s 1 (bD (A++X++Y++B))::L) w->∀ {a m e:Int},a=A.length->m=A.length+X.length->e=A.length+X.length+Y.length->
  Calls P uU #[Sv s,Iv a,Iv m,Iv e,cmp] w (cA λv w'=>v=.tuple #[]/\∃Z,Z.Perm (X++Y)/\Z.Pairwise R/\Sep E (bw s 1 (bD (A++Z++B))::L) w'):=by
 intro N;induction N with
 |zero=>intro A X Y B w h1 h2;omega
 |succ N aP=>
 intro A X Y B w a5 aI aJ ao ap hb aL h a m e aW hm he;subst aW hm he;have hlen:(A++X++Y++B).length=A.length+X.length+Y.length+B.length:=by simp only[dg]
 rw[hlen]at aL;have J:s.n=(A++X++Y++B).length:=by omega
 apply YD;unfold MO qD qE qI qO qW qg qh zP;rw[cR (n:=(A.length:Int)+X.length-A.length) bu bu,cR (n:=(A.length:Int)+X.length+Y.length-(A.length+X.length)) bu bu];refine eX (λh1=>?_) (λaY=>eX (λh2=>?_) (λaZ=>?_))
 ·
  obtain⟨x,rfl⟩:∃x,X= [x]:=by
   match X,aI,h1 with
   |[x],_,_=>exact⟨x,rfl⟩
   |_::_::_,_,h=>simp at h;omega
  simp only[l1]at*
  have ay:∀y∈Y,b x y:=λy l=>hb x (by simp) y l;refine⟨λi j w=>∃p q:Nat,i=A.length+1+p/\j=A.length+1+q/\p<=q/\q<=Y.length/\(p=0\/∃y,Y[p-1]?=some y/\R y x)/\(Y.length<=q\/∃y,Y[q]?=some y/\R x y)/\Sep E (bw s 1 (bD (A++[x]++Y++B))::L) w,
   λi j _=>(j-i).toNat,⟨0,Y.length,bu,bu,bu,bu,.inl rfl,.inl (ep _),h⟩,?_⟩
  rintro _ i j aS ⟨p,q,rfl,rfl,az,aG,F,G,h1⟩;refine cX (λag=>⟨bN,Dr.i h1 (λw2 h2=>?_)⟩) (λaf=>?_)
  ·have z:((A.length:Int)+1+p+(A.length+1+q))/2=((A.length+1+(p+q)/2:Nat):Int):=by omega
   rw[half,z];have u:(p+q)/2<Y.length:=by omega
   have l:Y[(p+q)/2]?=some (Y[(p+q)/2]'u):=dL u;generalize Y[(p+q)/2]'u=y at l;have aB:y∈Y:=eH l;refine gY (A.length+1+(p+q)/2) h2 J rfl ((lr (A:=A) (X:=[x]) (B:=B) u).trans l) (gY (A.length+0) h2 J bu (by rw[lq (by simp)];rfl) ?_);refine aD.i bu h2 (λO aa f=>?_) (λhf aa f=>?_)
   ·rw[cR bu bu];exact⟨⟨(p+q)/2+1,q,bu,rfl,bu,aG,.inr ⟨y,by simpa using l,(K.ask x y (ay y aB)).1 O⟩,G,f⟩,by dsimp only;omega⟩
   ·exact⟨⟨p,(p+q)/2,rfl,bu,bu,bu,F,.inr ⟨y,l,K.no (ay y aB) hf⟩,f⟩,by dsimp only;omega⟩
  ·have V:p=q:=by omega
   subst V;rw[cR (n:=(A.length:Int)+1+p-1) bu bu];have e0:A++[x]++Y++B=A++ins Y 0 x++B:=by simp[ins]
   rw[e0]at h1;refine⟨λk w=>∃t:Nat,k=A.length+t/\t<=p/\Sep E (bw s 1 (bD (A++ins Y t x++B))::L) w,λk _=>(A.length+p-k).toNat,⟨0,bu,bu,h1⟩,?_⟩;rintro _ k w2 ⟨t,rfl,O,h2⟩;have C:s.n=(A++ins Y t x++B).length:=by
    have:=mT Y t x;simp only[dg,this];omega
   refine cX (λag=>Dr.i h2 (λaa f=>?_)) (λaf=>?_)
   ·rw[cR (n:=(A.length:Int)+t+1) bu bu];have l:Y[t]?=some (Y[t]'bu):=dN;generalize Y[t]'(bu)=y at l;refine gY (A.length+(t+1)) f C bu (by rw[kF bu bu,cF,cF];exact l) ?_;refine gY (A.length+t) f C bu (by rw[kF bu bu,cF,bL rfl]) ?_;refine kE (A.length+t) f C bu bu (λah r=>kE (A.length+t+1) r (by rw[dM];exact C) bu (by rw[dM];omega) (λaH I=>?_));rw[Hw l]at I;exact⟨⟨t+1,bu,bu,I⟩,by dsimp only;omega⟩
   ·have:t=p:=by omega
    subst this;exact⟨trivial,ins Y t x,r1 Y t x,r4 K.ord ap F G,h2⟩
 ·
  obtain⟨y,rfl⟩:∃y,Y= [y]:=by
   match Y,aJ,h2 with
   |[y],_,_=>exact⟨y,rfl⟩
   |_::_::_,_,h=>simp at h;omega
  simp only[l1]at*
  have ax:∀x∈X,b x y:=λx hx=>hb x hx y (by simp);refine⟨λi j w=>∃p q:Nat,i=A.length+p/\j=A.length+q/\p<=q/\q<=X.length/\(p=0\/∃x,X[p-1]?=some x/\R x y)/\(X.length<=q\/∃x,X[q]?=some x/\R y x)/\Sep E (bw s 1 (bD (A++X++[y]++B))::L) w,
   λi j _=>(j-i).toNat,⟨0,X.length,bu,bu,bu,bu,.inl rfl,.inl (ep _),h⟩,?_⟩
  rintro _ i j aS ⟨p,q,rfl,rfl,az,aG,F,G,h1⟩;refine cX (λag=>⟨bN,Dr.i h1 (λw2 h2=>?_)⟩) (λaf=>?_)
  ·have z:((A.length:Int)+p+(A.length+q))/2=((A.length+(p+q)/2:Nat):Int):=by omega
   rw[half,z];have u:(p+q)/2<X.length:=by omega
   have hx:X[(p+q)/2]?=some (X[(p+q)/2]'u):=dL u;generalize X[(p+q)/2]'u=x at hx;have aA:x∈X:=eH hx;refine gY (A.length+X.length+0) h2 J bu (by rw[lr (by simp)];rfl) (gY (A.length+(p+q)/2) h2 J rfl (by rw[lq u];exact hx) ?_);refine aD.j bu h2 (λO aa f=>?_) (λhf aa f=>?_);·exact⟨⟨p,(p+q)/2,rfl,bu,bu,bu,F,.inr ⟨x,hx,(K.ask x y (ax x aA)).1 O⟩,f⟩,by dsimp only;omega⟩
   ·rw[cR bu bu];exact⟨⟨(p+q)/2+1,q,bu,rfl,bu,aG,.inr ⟨x,by simpa using hx,K.no (ax x aA) hf⟩,G,f⟩,by dsimp only;omega⟩
  ·have V:p=q:=by omega
   subst V;have e0:A++X++[y]++B=A++ins X X.length y++B:=by rw[wP];simp
   rw[e0]at h1;refine⟨λk w=>∃t:Nat,k=A.length+t/\p<=t/\t<=X.length/\Sep E (bw s 1 (bD (A++ins X t y++B))::L) w,λk _=>(k-A.length).toNat,⟨X.length,rfl,bu,bu,h1⟩,?_⟩;rintro _ k w2 ⟨t,rfl,O,a1,h2⟩;have C:s.n=(A++ins X t y++B).length:=by
    have:=mT X t y;simp only[dg,this];omega
   refine gn (λag=>Dr.i h2 (λaa f=>?_)) (λaf=>?_)
   ·obtain⟨M,rfl⟩:∃M,t=M+1:=⟨t-1,bu⟩
    rw[cR (n:=(A.length:Int)+((M+1:Nat):Int)-1) bu bu];have hx:X[M]?=some (X[M]'bu):=dN;generalize X[M]'(bu)=x at hx;refine gY (A.length+M) f C bu (by rw[kF bu bu,eJ];exact hx) ?_;refine gY (A.length+(M+1)) f C bu (by rw[kF bu bu,cF,bL rfl]) ?_;refine kE (A.length+M+1) f C bu bu (λah r=>kE (A.length+M) r (by rw[dM];exact C) bu (by rw[dM];omega) (λaH I=>?_));rw[wQ hx]at I;exact⟨⟨M,bu,bu,bu,I⟩,by dsimp only;omega⟩
   ·have:t=p:=by omega
    subst this;exact⟨trivial,ins X t y,(r1 X t y).trans (lZ (l₁:=[y]) (l₂:=X)),r4 K.ord ao F G,h2⟩
 ·
  refine⟨bN,?_⟩;obtain⟨d,a6⟩:∃d,d=(X.length+Y.length)/2:=⟨_,rfl⟩
  have aF:((A.length:Int)+(A.length+X.length+Y.length))/2=((A.length+d:Nat):Int):=by omega
  rw[half,aF];rw[cR (n:=((A.length+d:Nat):Int)+(A.length+X.length)) bu bu];rw[cR (n:=((A.length+d:Nat):Int)+(A.length+X.length)-(A.length+X.length+Y.length)) bu bu];rw[cR (n:=((A.length+d:Nat):Int)+(A.length+X.length)-1) bu bu];obtain⟨W,U⟩:∃W,W=if X.length>d then d-Y.length else 0:=⟨_,rfl⟩
  obtain⟨Q,T⟩:∃Q,Q=if X.length>d then d else X.length:=⟨_,rfl⟩
  have aq:W<=Q/\Q<=d/\Q<=X.length/\d<=W+Y.length:=by
   rw[U,T];split<;>omega
  refine⟨λi j w=>i=A.length+W/\j=A.length+Q/\Sep E (bw s 1 (bD (A++X++Y++B))::L) w,?_,?_⟩
  ·refine gn (λa0=>?_) (λhle=>?_)
   ·refine⟨?_,?_,h⟩;·rw[U,eJ];omega
    ·rw[T,eJ];omega
   ·refine⟨?_,?_,h⟩;·rw[U,cF];omega
    ·rw[T,cF]
  rintro _ i0 a7 aS ⟨rfl,rfl,h1⟩;refine⟨λi j w=>∃p q:Nat,i=A.length+p/\j=A.length+q/\W<=p/\p<=q/\q<=Q/\(p=W\/∃x y,X[p-1]?=some x/\Y[d-p]?=some y/\R x y)/\(q=Q\/∃x y,Y[d-q-1]?=some y/\X[q]?=some x/\R y x)/\
    Sep E (bw s 1 (bD (A++X++Y++B))::L) w,λi j _=>(j-i).toNat,⟨W,Q,rfl,rfl,ep _,aq.1,ep _,.inl rfl,.inl rfl,h1⟩,?_⟩
  rintro _ i j w2 ⟨p,q,rfl,rfl,aM,az,aN,F,G,h2⟩;refine cX (λag=>⟨bN,Dr.i h2 (λaa f=>?_)⟩) (λaf=>?_)
  ·have z:((A.length:Int)+p+(A.length+q))/2=((A.length+(p+q)/2:Nat):Int):=by omega
   rw[half,z];rw[cR (n:=((A.length+d:Nat):Int)+(A.length+X.length)-1-((A.length+(p+q)/2:Nat):Int)) bu bu];obtain⟨c,aK⟩:∃c,c=(p+q)/2:=⟨_,rfl⟩
   rw[<- aK];have ad:c<X.length:=by omega
   have ae:d-1-c<Y.length:=by omega
   have hx:X[c]?=some (X[c]'ad):=dL ad;have l:Y[d-1-c]?=some (Y[d-1-c]'ae):=dL ae;generalize X[c]'ad=x at hx;generalize Y[d-1-c]'ae=y at l;have al:=hb x (eH hx) y (eH l);refine gY (A.length+X.length+(d-1-c)) f J bu (by rw[lr ae];exact l) (gY (A.length+c) f J bu (by rw[lq ad];exact hx) ?_);refine aD.j bu f (λO ah r=>?_) (λhf ah r=>?_)
   ·refine⟨⟨p,c,rfl,bu,aM,bu,bu,F,.inr ⟨x,y,?_,hx,(K.ask x y al).1 O⟩,r⟩,by dsimp only;omega⟩;rw[show d-c-1=d-1-c by omega];exact l
   ·rw[cR bu bu];refine⟨⟨c+1,q,bu,rfl,bu,bu,aN,.inr ⟨x,y,by simpa using hx,?_,K.no al hf⟩,G,r⟩,by dsimp only;omega⟩;rw[show d-(c+1)=d-1-c by omega];exact l
  ·have V:p=q:=by omega
   subst V;obtain⟨t,O⟩:∃t,t=d-p:=⟨_,rfl⟩
   have am:=wS K.ord (X:=X) (Y:=Y) (i:=p) (j:=t) ao ap (by
    rcases F with e|⟨x,y,H,ab,ai⟩
    ·by_cases an:X.length>d;·rw[bL an]at U;right;left;omega
     ·rw[bJ an]at U;left;omega
    ·exact .inr (.inr ⟨x,y,H,by rw[O];exact ab,ai⟩)) (by
    rcases G with e|⟨x,y,H,ab,ai⟩
    ·by_cases an:X.length>d;·rw[bL an]at T;left;omega
     ·rw[bJ an]at T;right;left;omega
    ·exact .inr (.inr ⟨x,y,by rw[O];exact H,ab,ai⟩))
   have aQ:(X.take p).length=p:=by simp;omega
   have aR:(Y.take t).length=t:=by simp;omega
   have a2:(X.drop p).length=X.length-p:=by simp
   have a3:(Y.drop t).length=Y.length-t:=by simp
   have aE:i64.wrap (((A.length+d:Nat):Int)+(A.length+X.length)-(A.length+p))=((A.length+X.length+t:Nat):Int):=by
    rw[cR bu bu];omega
   rw[aE];refine⟨λw=>Sep E (bw s 1 (bD (A++(X.take p++Y.take t)++(X.drop p++Y.drop t)++B))::L) w,?_,?_⟩
   ·refine⟨λc w=>c=decide (p<X.length/\0<t)/\Sep E (bw s 1 (bD (A++X++Y++B))::L) w,?_,?_⟩
    ·refine cX (λg=>⟨?_,h2⟩) (λg=>⟨?_,h2⟩)
     ·have:(decide ((A.length:Int)+X.length<((A.length+X.length+t:Nat):Int)))=decide (0<t):=by
       by_cases o:0<t;·rw[dE o,dE bu]
       ·rw[di o,di bu]
      rw[this];by_cases o:0<t;·rw[dE o,dE ⟨bu,o⟩]
      ·rw[di o,di (λz=>o z.2)]
     ·exact(di (λz=>bu)).symm
    rintro _ c aa ⟨rfl,f⟩;refine cw (λg=>?_) (λg=>?_)
    ·have g:=mG g;have H:A++X++Y++B=(A++X.take p)++X.drop p++Y.take t++(Y.drop t++B):=by
      simp only[dm];rw[<- dm (Y.take t),fK,<- dm (X.take p),fK]
     rw[H]at f;refine use (DU (cmp:=cmp) bu bu (by rw[<- H];exact J) (by rw[<- H];omega) f (by simp only[dg];omega) (by simp only[dg];omega) (by simp only[dg];omega)) ?_;rintro _ ah ⟨rfl,r⟩;refine⟨rfl,?_⟩;have ab:(A++X.take p)++Y.take t++X.drop p++(Y.drop t++B)=A++(X.take p++Y.take t)++(X.drop p++Y.drop t)++B:=by simp
     rw[<- ab];exact r
    ·have g:=kb g;have ab:A++(X.take p++Y.take t)++(X.drop p++Y.drop t)++B=A++X++Y++B:=by
      by_cases o:p<X.length
      ·have:t=0:=by omega
       subst this;simp only[wj,hs,rK,dm];rw[<- dm (X.take p),fK]
      ·have ai:X.drop p= []:=kW bu;have aU:X.take p=X:=iq bu;rw[ai,aU,l3];simp only[dm];rw[<- dm (Y.take t),fK]
     rw[ab];exact f
   rintro _ aa f;have au:(X.take p).Pairwise R:=ao.sublist (o3 _ _);have ar:(X.drop p).Pairwise R:=ao.sublist (Gd _ _);have aw:(Y.take t).Pairwise R:=ap.sublist (o3 _ _);have av:(Y.drop t).Pairwise R:=ap.sublist (Gd _ _);refine⟨λw=>∃D,D.Perm (X.take p++Y.take t)/\D.Pairwise R/\Sep E (bw s 1 (bD (A++D++(X.drop p++Y.drop t)++B))::L) w,?_,?_⟩
   ·refine⟨λc w=>c=decide (0<p/\0<t)/\Sep E (bw s 1 (bD (A++(X.take p++Y.take t)++(X.drop p++Y.drop t)++B))::L) w,?_,?_⟩
    ·refine cX (λg=>⟨?_,f⟩) (λg=>⟨?_,f⟩)
     ·by_cases o:0<t;·rw[dE bu,dE ⟨bu,o⟩]
      ·rw[di bu,di (λz=>o z.2)]
     ·exact(di (λz=>bu)).symm
    rintro _ c ah ⟨rfl,r⟩;refine cw (λg=>?_) (λg=>?_)
    ·have g:=mG g;have H:A++(X.take p++Y.take t)++(X.drop p++Y.drop t)++B=A++X.take p++Y.take t++((X.drop p++Y.drop t)++B):=by simp
     rw[H]at r;refine use (aP bu bu bu au aw (λx hx y l=>hb x (m8 hx) y (m8 l)) (by simp only[dg];omega) r rfl bu bu) ?_;rintro _ aH ⟨rfl,D,S,ak,I⟩;refine⟨rfl,D,S,ak,?_⟩;rw[dm (A++D)];exact I
    ·have g:=kb g;refine⟨_,.refl _,?_,r⟩;by_cases o:0<p
     ·have:t=0:=by omega
      subst this;simpa using au
     ·have:p=0:=by omega
      subst this;simpa using aw
   rintro _ ah ⟨D,S,aj,r⟩;have a4:D.length=d:=by rw[S.length_eq,dg,aQ,aR];omega
   refine⟨λc w=>c=decide (p<X.length/\t<Y.length)/\Sep E (bw s 1 (bD (A++D++(X.drop p++Y.drop t)++B))::L) w,?_,?_⟩
   ·refine cX (λg=>⟨?_,r⟩) (λg=>⟨?_,r⟩)
    ·by_cases o:t<Y.length;·rw[dE bu,dE ⟨bu,o⟩]
     ·rw[di bu,di (λz=>o z.2)]
    ·exact(di (λz=>bu)).symm
   rintro _ c aH ⟨rfl,I⟩;refine cw (λg=>?_) (λg=>?_)
   ·have g:=mG g;have H:A++D++(X.drop p++Y.drop t)++B=(A++D)++X.drop p++Y.drop t++B:=by simp
    rw[H]at I;refine use (aP bu bu bu ar av (λx hx y l=>hb x (rH hx) y (rH l)) (by simp only[dg];omega) I (by simp only[dg];omega) (by simp only[dg];omega) (by simp only[dg];omega)) ?_;rintro _ a8 ⟨rfl,aT,ak,aC,aV⟩;have:=jH S ak aj aC am;refine⟨rfl,rfl,D++aT,this.1,this.2,?_⟩;rw[<- dm A];exact aV
   ·have g:=kb g;have aO:(X.drop p++Y.drop t).Pairwise R:=by
     by_cases o:p<X.length
     ·have:Y.drop t= []:=kW bu;rw[this,hs];exact ar
     ·have:X.drop p= []:=kW bu;rw[this,l3];exact av
    have:=jH S (.refl _) aj aO am;refine⟨rfl,D++(X.drop p++Y.drop t),this.1,this.2,?_⟩;rw[<- dm A];exact I
end
end Go.Mp
namespace Go.Mp
open Go Go.Vc Go.Sp Go.Stab
section
variable{E:Env}{L:cv}{w:bH}{s:Sl}{cmp:bE}{lt:Int->Int->Bool}{R b:Int->Int->Prop}
def fj(b:Int->Int->Prop)(X Y:bR):Prop:=∀x∈X,∀y∈Y,b x y
def fj.merge{Ps Qs:bA (bR)}{X Y Z:bR}(h:(Ps++X::Y::Qs).Pairwise (fj b))(j:Z.Perm (X++Y)):(Ps++Z::Qs).Pairwise (fj b):=by
 have hm:∀z,z∈Z->z∈X\/z∈Y:=λz a=>gF.1 (j.mem_iff.1 a);rw[jv,g7,g7]at h;rw[jv,g7];obtain⟨h1,⟨h2,g,i⟩,d⟩:=h;refine⟨h1,⟨λQ c z a y f=>?_,i⟩,λP' e Q c=>?_⟩
 ·rcases hm z a with a|a;·exact h2 Q (by simp[c]) z a y f
  ·exact g Q c z a y f
 ·rcases ey.1 c with rfl|c
  ·intro x hx z a;rcases hm z a with a|a;·exact d P' e X (by simp) x hx z a
   ·exact d P' e Y (by simp) x hx z a
  ·exact d P' e Q (by simp[c])
def fj.perm{Ps Qs:bA (bR)}{X Z:bR}(h:(Ps++X::Qs).Pairwise (fj b))(g:Z.Perm X):(Ps++Z::Qs).Pairwise (fj b):=by
 have hm:∀z,z∈Z->z∈X:=λz c=>g.mem_iff.1 c;rw[jv,g7]at h ⊢;obtain⟨h1,⟨h2,f⟩,d⟩:=h;refine⟨h1,⟨λQ a z c y i=>h2 Q a z (hm z c) y i,f⟩,λP' e Q a=>?_⟩;rcases ey.1 a with rfl|a;·intro x hx z c;exact d P' e X (by simp) x hx z (hm z c)
 ·exact d P' e Q (by simp[a])
def fj.split{Ps:bA (bR)}{a M2:bR}(h:(Ps++[a++M2]).Pairwise (fj b))(c:(a++M2).Pairwise b):(Ps++[a,M2]).Pairwise (fj b):=by
 rw[jv]at h c ⊢;obtain⟨h1,_,f⟩:=h;refine⟨h1,by simpa[fj]using c.2.2,λP' g Q d x hx y e=>?_⟩;have:=f P' g (a++M2) (by simp) x hx y;simp only[ey,tE,tJ]at d;rcases d with rfl|rfl;·exact this (by simp[e])
 ·exact this (by simp[e])
def fx(R:Int->Int->Prop)(b:Nat)(a:bA (bR)):Prop:=∀F∈a,F.length=b/\F.Pairwise R
def fx.length{b:Nat}:∀ {a:bA (bR)},fx R b a->a.flatten.length=b*a.length
 |[],_=>by simp
 |F::a,h=>by
  have h1:=(h F (by simp)).1;have h2:a.flatten.length=b*a.length:=fx.length (λG c=>h G (by simp[c]));rw[tz,dg,h1,h2,hI,nb,fM,rM]
def fx.snoc{b:Nat}{c:bA (bR)}{F:bR}(h:fx R b c)(h1:F.length=b)(h2:F.Pairwise R):fx R b (c++[F]):=by
 intro G a;rcases gF.1 a with a|a;·exact h G a
 ·rw[h8.1 a];exact⟨h1,h2⟩
def DV{l:bR}(K:lo R b lt)(ag:l.Pairwise b)(hn:s.n=l.length)(ah:l.length<288230376151711744)(Q:gA E L s cmp lt l.length)(h:Sep E (bw s 1 (bD l)::L) w):
  Calls P Jv #[Sv s,Iv (s.n:Nat),cmp] w (cA λv w'=>v=.tuple #[]/\∃l',l'.Perm l/\l'.Pairwise R/\Sep E (bw s 1 (bD l')::L) w'):=by
 apply Yn;unfold My qE qI qO;rw[hn];refine⟨λa e w=>∃c M,a=(20*c.length:Nat)/\e=(20*c.length+20:Nat)/\fx R 20 c/\M.Pairwise b/\(c++[M]).Pairwise (fj b)/\(c.flatten++M).Perm l/\Sep E (bw s 1 (bD (c.flatten++M))::L) w,λa _ _=>(l.length-a).toNat,
  ⟨[],l,rfl,rfl,λF i=>(by cases i),ag,by simp,by simp,by simpa using h⟩,?_⟩
 rintro _ a e ar ⟨c,M,rfl,rfl,i,S,p,j,h1⟩;have hlen:=j.length_eq;have k:=i.length;rw[dg,k]at hlen;refine h4 (λhle=>?_) (λad=>?_)
 ·have m:c.flatten++M=c.flatten++M.take 20++M.drop 20:=by rw[dm,fK]
  have ae:(M.take 20).length=20:=by simp;omega
  have u:=S;rw[<- fK 20 M]at u p;have ab:=fj.split p u;rw[jv]at u;have C:(c.flatten++M.take 20++M.drop 20).length=l.length:=by rw[<- m];exact j.length_eq
  rw[m]at h1;rw[<- hn];refine use (vi K u.1 (by rw[C];exact hn) bu (by rw[C];exact Q) h1 (by rw[k]) (by rw[k,ae];omega)) ?_;rintro _ w2 ⟨rfl,X,G,aa,h2⟩;rw[cR bu bu];have ak:X.length=20:=by rw[G.length_eq,ae]
  refine⟨rfl,⟨c++[X],M.drop 20,by simp;omega,by simp;omega,i.snoc ak aa,u.2.1,?_,?_,?_⟩,by dsimp only;omega⟩
  ·have:=fj.perm (Ps:=c) (Qs:=[M.drop 20]) ab G;simpa using this
  ·refine List.Perm.trans ?_ j;rw[m];simp only[F4,tz,y6,hs];exact(G.append_left _).append_right _
  ·simpa using h2
 ·have m:c.flatten++M=c.flatten++M++[]:=by simp
  rw[m]at h1;rw[<- hn];refine use (vi K S (by rw[<- m,j.length_eq];exact hn) (by rw[<- m,j.length_eq];omega) (by rw[<- m,j.length_eq];exact Q) h1 (by rw[k]) (by rw[k];omega)) ?_;rintro _ w2 ⟨rfl,T,W,q,h2⟩;rw[hs]at h2;have aq:=W.length_eq;refine⟨rfl,λz w=>∃(f:Nat) (c:bA (bR)) (T:bR),z=f/\20<=f/\fx R f c/\T.length<f/\T.Pairwise R/\(c++[T]).Pairwise (fj b)/\(c.flatten++T).Perm l/\Sep E (bw s 1 (bD (c.flatten++T))::L) w,λz _=>(l.length-z).toNat,
   ⟨20,c,T,rfl,ep _,i,bu,q,fj.perm p W,(W.append_left _).trans j,h2⟩,?_⟩
  rintro _ z au ⟨f,c,T,rfl,an,i,I,q,p,j,O⟩;have hlen:=j.length_eq;have k:=i.length;rw[dg,k]at hlen;refine cX (λap=>?_) (λao=>⟨rfl,_,j,?_,O⟩)
  ·have aj:f<l.length:=by omega
   rw[cR (n:=2*(f:Int)) bu bu];refine⟨λa e w=>∃d c T,a=(2*f*d.length:Nat)/\e=(2*f*d.length+2*f:Nat)/\fx R (2*f) d/\fx R f c/\T.length<f/\T.Pairwise R/\(d++(c++[T])).Pairwise (fj b)/\
     (d.flatten++(c.flatten++T)).Perm l/\Sep E (bw s 1 (bD (d.flatten++(c.flatten++T)))::L) w,λa _ _=>(l.length-a).toNat,
    ⟨[],c,T,by simp,by simp,λF i=>(by cases i),i,I,q,by simpa using p,by simpa using j,by simpa using O⟩,?_⟩
   rintro _ a e av ⟨d,c,T,rfl,rfl,V,i,I,q,p,j,x⟩;have hlen:=j.length_eq;have t:=V.length;have k:=i.length;rw[dg,dg,k,t]at hlen;have hmul:f*c.length<=l.length:=by omega
   have af:2*f*d.length<=l.length:=by omega
   rw[cR (n:=((2*f*d.length:Nat):Int)+f) bu bu];refine h4 (λhle=>?_) (λad=>?_)
   ·obtain⟨r,o,g,rfl⟩:∃r o g,c=r::o::g:=by
     match c,hlen with
     |[],hl=>simp at hl;omega
     |[F],hl=>simp at hl;omega
     |r::o::g,_=>exact⟨r,o,g,rfl⟩
    have f1:=i r (by simp);have f2:=i o (by simp);have y:=p;rw[jv]at y;have N:fj b r o:=(g7.1 y.2.1).1 o (by simp);have m:d.flatten++((r::o::g).flatten++T)=d.flatten++r++o++(g.flatten++T):=by simp
    have C:(d.flatten++r++o++(g.flatten++T)).length=l.length:=by rw[<- m];exact j.length_eq
    rw[m]at x;rw[<- hn];refine use (vj K bu hn Q _ (ep _) bu bu f1.2 f2.2 N C x (by rw[t]) (by rw[t,f1.1]) (by rw[t,f1.1,f2.1];omega)) ?_;rintro _ am ⟨rfl,Z,A,J,D⟩;have al:Z.length=2*f:=by rw[A.length_eq,dg,f1.1,f2.1];omega
    rw[cR bu bu];refine⟨rfl,⟨d++[Z],g,T,?_,?_,V.snoc al J,λF Y=>i F (by simp[Y]),I,q,?_,?_,?_⟩,?_⟩;·rw[dg,l1,nb,fM]
    ·rw[dg,l1,nb,fM];omega
    ·have:=fj.merge (Ps:=d) (Qs:=g++[T]) (by simpa using p) A;simpa using this
    ·refine List.Perm.trans ?_ j;rw[m];simp only[F4,tz,y6,hs];have:d.flatten++r++o++(g.flatten++T)=d.flatten++(r++o)++(g.flatten++T):=by simp
     rw[this];exact(A.append_left _).append_right _
    ·simpa using D
    ·dsimp only;omega
   ·have fin:∀ {T':bR} {w':bH},T'.length<2*f->T'.Pairwise R->T'.Perm (c.flatten++T)->(d++[T']).Pairwise (fj b)->Sep E (bw s 1 (bD (d.flatten++T'))::L) w'->
      ((∃(B:Nat) (c:bA (bR)) (T:bR),i64.wrap ((f:Int)*2)=B/\20<=B/\fx R B c/\T.length<B/\T.Pairwise R/\(c++[T]).Pairwise (fj b)/\(c.flatten++T).Perm l/\Sep E (bw s 1 (bD (c.flatten++T))::L) w')/\
       (l.length-i64.wrap ((f:Int)*2)).toNat<(l.length-(f:Int)).toNat):=by
     intro T' w' h1 h2 O x D;rw[cR bu bu];exact⟨⟨2*f,d,T',bu,bu,V,h1,h2,x,(O.append_left _).trans j,D⟩,bu⟩
    rcases c with _|⟨F,_|⟨o,g⟩⟩
    ·refine cX (λU=>?_) (λ_=>?_);·exfalso;simp at hlen;omega
     ·exact fin (T':=T) bu q (by simp) (by simpa using p) (by simpa using x)
    ·have f1:=i F (by simp);simp only[l1,fM]at hlen;refine cX (λU=>?_) (λU=>?_)
     ·have y:=p;rw[jv]at y;have N:fj b F T:=(g7.1 y.2.1).1 T (by simp);have m:d.flatten++([F].flatten++T)=d.flatten++F++T++[]:=by simp
      have C:(d.flatten++F++T++[]).length=l.length:=by rw[<- m];exact j.length_eq
      rw[m]at x;rw[<- hn];refine use (vj K bu hn Q _ (ep _) bu bu f1.2 q N C x (by rw[t]) (by rw[t,f1.1]) (by rw[t,f1.1];omega)) ?_;rintro _ am ⟨rfl,Z,A,J,D⟩;refine⟨rfl,?_⟩;rw[hn];refine fin (T':=Z) (by rw[A.length_eq,dg,f1.1];omega) J (by simpa using A) ?_ (by simpa using D);exact fj.merge (Ps:=d) (Qs:=[]) (by simpa using p) A
     ·have H:T= []:=by
       have:T.length=0:=by omega
       exact yZ.1 this
      subst H;refine fin (T':=F) bu f1.2 (by simp) ?_ (by simpa using x);have:(d++F::[]::[]).Pairwise (fj b):=by simpa using p
      exact fj.merge (Ps:=d) (Qs:=[]) this (by simp)
    ·exfalso;simp only[hI,nb,fM]at hlen;omega
  ·have ai:l.length<=f:=by omega
   match c,i,k,hlen,p with
   |[],_,_,_,_=>simpa using q
   |[F],i,_,hlen,_=>
    have f1:=i F (by simp);have H:T= []:=by
     have:T.length=0:=by simp at hlen;omega
     exact yZ.1 this
    subst H;simpa using f1.2
   |r::o::g,_,_,hlen,_=>
    exfalso;simp only[hI,nb,fM]at hlen;omega
def DW{l:bR}(K:lo R b lt)(c:l.Pairwise b)(hn:s.n=l.length)(a:l.length<288230376151711744)(d:gA E L s cmp lt l.length)(h:Sep E (bw s 1 (bD l)::L) w):
  Calls P Jk #[Sv s,cmp] w (cA λv w'=>v=.tuple #[]/\∃l',l'.Perm l/\l'.Pairwise R/\Sep E (bw s 1 (bD l')::L) w'):=by
 apply X1;unfold Mf qE;refine use (DV K c hn a d h) ?_;rintro _ e ⟨rfl,h1⟩;exact⟨rfl,rfl,h1⟩
end
end Go.Mp
namespace Go.Sp
open Go Go.Vc
def Sep.Ee{E:Env}{A A':Asn}{L:cv}{w:bH}(h:Sep E (A::L) w)(hw:∀F,A.holds w.heap F->∃F',A'.holds w.heap F'/\∀x,F' x->F x):Sep E (A'::L) w:=by
 obtain⟨he,F,h1,h2,c⟩:=h;obtain⟨F',d,a⟩:=hw F h1;exact⟨he,F',d,λb hb=>h2 b (a b hb),c.weaken (λb hb=>hb.imp id (a b))⟩
def aHn{P:cP}(w:bH)(ty:cf)(it c ck:Nat)(seen:cb Nat)(es:cb MapEntry)(hb:w.heap[c]?=some (.map es ck))(l:w.heap[it]?=some (.mapIter (some c) ck seen ck))(hold:∀x∈es.toList,x.born<ck):
  ((leftOf es seen).size=0/\(Instr.next (.pointer (some ⟨it,0,none⟩)) false ty).run P w=.ok (.tuple #[.bool false]) w)\/
  ∃e∈(leftOf es seen).toList,∃a:bH,World.env a=World.env w/\a.heap=w.heap.setIfInBounds it (.mapIter (some c) ck (seen.push e.born) ck)/\(Instr.next (.pointer (some ⟨it,0,none⟩)) false ty).run P w=.ok (.tuple #[.bool true,e.key,e.val]) a:=by
 simp only[Instr.next,getObj,Sem.run_bind,Sem.run,l,hb,Result.andThen,next_test_false seen es ck ck hold (ep _),l2,gP];unfold leftOf;have b:∀x∈(Array.filter (λe=> !seen.contains e.born) es).toList,x.born<ck:=λx hx=>hold x (by simp at hx ⊢;exact hx.1);generalize Array.filter (λe=> !seen.contains e.born) es=L at b ⊢;have o:L.filter (λx=>decide (x.born<ck))=L:=Array.filter_eq_self.2 (λx hx=>by simpa using b x (by simpa using hx));have p:L.filter (λx=>decide (x.born≥ck))= #[]:=by
  rw[Array.filter_eq_empty_iff];intro x hx;have:=b x (by simpa using hx);simp;omega
 simp only[o,p,Array.append_empty];by_cases h:L.size=0
 ·left;have:L= #[]:=Array.eq_empty_of_size_eq_zero h;subst this;refine⟨rfl,?_⟩;simp[choose,Sem.run,Question.forced]
 ·right;have n:L.isEmpty=false:=by simp[Array.isEmpty,h]
  simp only[n,l2,gP,Array.empty_append,Array.size_map];have k:∃(j:Nat) (a:bH),j<L.size/\World.env a=World.env w/\a.heap=w.heap/\(choose (Question.mapNext L.size)).run P w=.ok j a:=by
   by_cases hf:L.size<=1;·exact⟨0,w,bu,rfl,rfl,by simp[choose,Sem.run,Question.forced,hf]⟩
   ·exact⟨_,w.drew,kL _ bu,rfl,rfl,by
     simp only[choose,Sem.run,Question.forced,gE,hf,gP,Question.cut];rfl⟩
  obtain⟨j,a,q,i,d,f⟩:=k;have m:a.heap[it]?=some (.mapIter (some c) ck seen ck):=by rw[d];exact l
  have g:∀(o':Obj),(setObj it o').run P a=.ok () {a with heap:=a.heap.setIfInBounds it o'} :=λo'=>by
   simp only[setObj,Sem.run,m]
  refine⟨L[j],by simp, {a with heap:=a.heap.setIfInBounds it (.mapIter (some c) ck (seen.push L[j].born) ck)},i,by rw[<- d],?_⟩;simp only[f,Array.getElem?_map,oc q,gh,Sem.run_bind,g,Result.andThen];rfl
def aFc{P:cP}(w:bH)(it a ck:Nat)(seen:cb Nat)(es:cb MapEntry)(e:MapEntry)(hb:w.heap[a]?=some (.map es ck))(b:w.heap[it]?=some (.mapIter (some a) ck seen ck))(c:seen.back? =some e.born)(he:e∈es.toList)(hn:(es.toList.map (·.born)).Nodup):(Instr.entry (.pointer (some ⟨it,0,none⟩))).run P w=.ok (.tuple #[e.key,e.val]) w:=by
 have hf:es.find? (·.born==e.born)=some e:=by rw[<- Array.find?_toList];exact find_born e es.toList hn he
 simp only[Instr.entry,getObj,Sem.run_bind,Sem.run,b,hb,Result.andThen,c,bne_self_eq_false,l2,gP,hf];rfl
section
variable{E:Env}{L:cv}{w:bH}{P:cP}{κ:Type}[DecidableEq κ]{enc:κ->bE}{f:κ->bW bE}{done:κ->Prop}{cur:bW κ}{it b n:Nat}
structure vr{κ:Type}(enc:κ->bE)(f:κ->bW bE)(done:κ->Prop)(cur:bW κ)(n:Nat)(es:bA MapEntry)(ck:Nat)(seen:cb Nat):Prop where
 ok:iv enc f es ck
 dn:∀e∈es,∀k,e.key=enc k->(seen.contains e.born=true↔done k)
 cu:∀k,cur=some k->∃e∈es,e.key=enc k/\seen.back? =some e.born
 len:(leftOf es.toArray seen).size=n
def fA{κ:Type}(it b:Nat)(enc:κ->bE)(f:κ->bW bE)(done:κ->Prop)(cur:bW κ)(n:Nat):Asn:=
 ⟨λh F=>(∃es ck seen,h[b]?=some (.map es.toArray ck)/\h[it]?=some (.mapIter (some b) ck seen ck)/\vr enc f done cur n es ck seen)/\∀x,F x↔x=b\/x=it,
  λa hl=>⟨by rw[hl b ((a.2 b).2 (.inl rfl)),hl it ((a.2 it).2 (.inr rfl))];exact a.1,a.2⟩⟩
omit [DecidableEq κ] in
def fA.start{t kt:cf}{z:bE}(h:Sep E (cE b enc f::L) w)(j:mQ P t=some (kt,z)){G:ch->bg0}(g:∀it a n,Sep E (fA it b enc f (λ_=>False) none n::L) a->G (some ⟨it,0,none⟩) a):
  ∃x:ch,∃a,Sem.run P (Instr.range t (.map (some b))) w=.ok (.pointer x) a/\G x a:=by
 obtain⟨e,l,_⟩:=uh j;obtain⟨es,ck,hb,M⟩:=cE.at_ (i:=0) h rfl;have c:b<w.heap.size:=(oZ.1 hb).1;refine⟨_,_,run_range_map w t kt e b es.toArray ck l hb,g w.heap.size _ (leftOf es.toArray #[]).size ?_⟩;refine h.change (A':=fA w.heap.size b enc f (λ_=>False) none _) rfl (by rw[size_alloc];omega) (λF d hl=>⟨λx hx _=>(Grow.alloc w _).heap x hx,λx=>x=b\/x=w.heap.size,⟨⟨es,ck,#[],?_,?_,M,?_,?_,rfl⟩,λ_=>l5⟩,λx hx=>⟨?_,?_⟩⟩);·rw[(Grow.alloc w _).heap b c];exact hb
 ·exact heap_alloc w _
 ·intro e _ k _;simp
 ·intro k hk;cases hk
 ·rw[size_alloc];rcases hx with rfl|rfl<;>omega
 ·rcases hx with rfl|rfl;·exact .inl ((d.2 _).2 rfl)
  ·exact .inr (ep _)
omit [DecidableEq κ] in
def fA.over(h:Sep E (fA it b enc f done cur n::L) w):Sep E (cE b enc f::L) w:=
 h.Ee (λF ⟨⟨es,ck,_,h1,_,a⟩,c⟩=>⟨λx=>x=b,⟨⟨es,ck,h1,a.ok⟩,λ_=>l5⟩,λx hx=>(c x).2 (.inl hx)⟩)
omit [DecidableEq κ] in
def fA.get(h:Sep E (fA it b enc f done cur n::L) w):∃es ck seen,w.heap[b]?=some (.map es.toArray ck)/\w.heap[it]?=some (.mapIter (some b) ck seen ck)/\vr enc f done cur n es ck seen:=by
 obtain⟨_,F,⟨h1,_⟩,_⟩:=h;exact h1
def yv(w:bH)(it b:Nat):Nat:=match w.heap[b]?,w.heap[it]? with
 |some (.map es _),some (.mapIter _ _ seen _)=>(leftOf es seen).size
 |_,_=>0
omit [DecidableEq κ] in
def fA.left(h:Sep E (fA it b enc f done cur n::L) w):yv w it b=n:=by
 obtain⟨es,ck,seen,hb,a,c⟩:=fA.get h;unfold yv;rw[hb,a];exact c.len
omit [DecidableEq κ] in
def fA.next{ty:cf}(N:∀a b,enc a=enc b->a=b)(h:Sep E (fA it b enc f done cur n::L) w){A:bg0}{B:bE->bE->bg0}(ag:(∀k v,f k=some v->done k)->∀w',Sep E (fA it b enc f done cur n::L) w'->A w')(ah:∀k v n',f k=some v->¬ done k->n=n'+1->∀w',Sep E (fA it b enc f (λx=>done x\/x=k) (some k) n'::L) w'->B (enc k) v w'):
  (∃w',Sem.run P (Instr.next (.pointer (some ⟨it,0,none⟩)) false ty) w=.ok (.tuple #[.bool false]) w'/\A w')\/
  (∃k v:bE,∃w',Sem.run P (Instr.next (.pointer (some ⟨it,0,none⟩)) false ty) w=.ok (.tuple #[.bool true,k,v]) w'/\B k v w'):=by
 obtain⟨es,ck,seen,hb,D,Q⟩:=fA.get h;have M:=Q.ok;have t:∀e,e∈(leftOf es.toArray seen).toList↔e∈es/\seen.contains e.born=false:=by
  intro e;unfold leftOf;simp
 rcases aHn (P:=P) w ty it b ck seen es.toArray hb D (λx hx=>M.born x (by simpa using hx))with⟨aj,hr⟩|⟨e,he,Y,K,d,hr⟩
 ·refine .inl ⟨w,hr,ag (λk v hk=>?_) w h⟩;obtain⟨e,he,g,_⟩:=M.has k v hk;refine(Q.dn e he k g).1 ?_;cases J:seen.contains e.born with
  |true=>rfl
  |false=>
   have:e∈(leftOf es.toArray seen).toList:=(t e).2 ⟨he,J⟩;have:=List.length_pos_of_mem this;rw[tv]at this;omega
 ·obtain⟨o,C⟩:=(t e).1 he;obtain⟨k,g,T⟩:=M.key e o;have W:¬ done k:=λab=>by rw[(Q.dn e o k g).2 ab]at C;cases C
  have ai:=left_shrinks es.toArray seen e he;refine .inr ⟨e.key,e.val,Y,hr,?_⟩;rw[g];have O:(leftOf es.toArray (seen.push e.born)).size+1=(leftOf es.toArray seen).size:=by
   have go:∀(c:Nat->Bool) (l:bA MapEntry),c e.born=false->l.Pairwise (λa b=>a.born≠b.born)->e∈l->(l.filter λx=> !(c x.born||x.born==e.born)).length+1=(l.filter λx=> !c x.born).length:=by
    intro c l J;induction l with
    |nil=>intro _ h;cases h
    |cons x l af=>
     intro hp hm;obtain⟨I,X⟩:=g7.1 hp;rcases ey.1 hm with rfl|hm
     ·have G:l.filter (λx=> !(c x.born||x.born==e.born))=l.filter (λx=> !c x.born):=by
       apply wa;intro y ae;have:(y.born==e.born)=false:=by simpa using(I y ae).symm
       rw[this,o6]
      rw[jD,jD,J,G];simp
     ·have:=af X hm;have hx:(x.born==e.born)=false:=by simpa using I e hm
      rw[jD,jD,hx,o6];cases c x.born;·simp only[Bool.not_false,gQ,hI];omega
      ·simpa using this
   have ad:=go (λy=>seen.contains y) es C M.k9 o;have Z:(leftOf es.toArray (seen.push e.born)).size=(es.filter λx=> !(seen.contains x.born||x.born==e.born)).length:=by
    unfold leftOf;rw[<- tv,F5];congr 2;funext x;rw[contains_push]
   have aa:(leftOf es.toArray seen).size=(es.filter λx=> !seen.contains x.born).length:=by
    unfold leftOf;rw[<- tv,F5]
   rw[Z,aa];exact ad
  refine ah k e.val (leftOf es.toArray (seen.push e.born)).size T W (by rw[O];exact Q.len.symm) Y ?_;have U:it<w.heap.size:=(oZ.1 D).1;refine h.change (A':=fA it b enc f (λx=>done x\/x=k) (some k) _) K (by rw[d];simp) (λF R hl=>⟨λx hx S=>?_,F,⟨⟨es,ck,seen.push e.born,?_,?_,M,?_,?_,rfl⟩,R.2⟩,λx hx=>⟨?_,.inl hx⟩⟩)
  ·have:it≠x:=λe=>S ((R.2 x).2 (.inr e.symm));rw[d,oa,bJ this]
  ·have:it≠b:=by
    intro e;rw[e]at D;rw[D]at hb;cases hb
   rw[d,oa,bJ this];exact hb
  ·rw[d,oa,bL rfl,bL U]
  ·intro e' z k' r;rw[contains_push,jE,Q.dn e' z k' r];refine or_congr l5 ⟨λu=>?_,λhk=>?_⟩
   ·have u:=p4.1 u;by_cases s:e'=e;·subst s;exact N _ _ (r.symm.trans g)
    ·exfalso;have:e'.born≠e.born:=by
      have hp:=M.k9;obtain⟨i,p,rfl⟩:=jb.1 z;obtain⟨j,q,rfl⟩:=jb.1 o;rcases Ga i j with m|rfl|m;·exact m6.1 hp i j p q m
      ·exact absurd rfl s
      ·exact(m6.1 hp j i q p m).symm
     exact this u
   ·have H:e'.key=e.key:=by rw[r,g,hk]
    have:e'=e:=by
     refine rE λs=>?_;have hp:=M.one;obtain⟨i,p,rfl⟩:=jb.1 z;obtain⟨j,q,rfl⟩:=jb.1 o;rcases Ga i j with m|rfl|m;·exact m6.1 hp i j p q m H
     ·exact s rfl
     ·exact m6.1 hp j i q p m H.symm
    rw[this];simp
  ·intro k' V;cases V;exact⟨e,o,g,by simp⟩
  ·rw[d];simpa using hl x hx
omit [DecidableEq κ] in
def fA.entry{k:κ}{v:bE}(h:Sep E (fA it b enc f done (some k) n::L) w)(g:∀a b,enc a=enc b->a=b)(hf:f k=some v):Sem.run P (Instr.entry (.pointer (some ⟨it,0,none⟩))) w=.ok (.tuple #[enc k,v]) w:=by
 obtain⟨es,ck,seen,hb,l,j⟩:=fA.get h;obtain⟨e,he,c,m⟩:=j.cu k rfl;obtain⟨k',i,d⟩:=j.ok.key e he;have:k'=k:=g _ _ (i.symm.trans c);subst this;rw[hf]at d;have o:e.val=v:=(cU d).symm;rw[<- c,<- o];refine aFc w it b ck seen es.toArray e hb l m (by simpa using he) ?_;show(es.map (·.born)).Nodup;rw[ob,kc];exact j.ok.k9
def fA.update{t kt:cf}{z v0:bE}(h:Sep E (fA it b enc f done cur n::L) w)(K:h3 P kt enc)(s:mQ P t=some (kt,z))(k:κ)(v:bE)(hf:f k=some v0){G:bg0}(g:∀p,Sep E (fA it b enc (cL f k (some v)) done cur n::L) p->G p):∃p,Sem.run P (Instr.mapUpdate t (.map (some b)) (enc k) v) w=.ok () p/\G p:=by
 obtain⟨e,U,Y⟩:=uh s;obtain⟨es,ck,seen,hb,m,Q⟩:=fA.get h;have M:=Q.ok;obtain⟨j,x,o,hk,X,r⟩:=M.gH K hf w;obtain⟨N,u⟩:=c4.1 o;have hm:es.modify j (λe=> {e with key:=enc k,val:=v})=es.set j {x with key:=enc k,val:=v} :=by
  apply hg;intro q;simp only[List.getElem?_modify,hd];by_cases s:j=q;·subst s;simp[N,u]
  ·simp[s]
 have D:b<w.heap.size:=(oZ.1 hb).1;have W:({x with key:=enc k,val:=v} :MapEntry).born=x.born:=rfl;have O:x∈es:=eH o;have dY:∀e∈es.set j ({x with key:=enc k,val:=v} :MapEntry),∃e0∈es,e.key=e0.key/\e.born=e0.born:=by
  intro e he;obtain⟨i,m,rfl⟩:=jb.1 he;rw[Gg];split;·exact⟨x,O,hk.symm,rfl⟩
  ·exact⟨_,og _,rfl,rfl⟩
 have new:∀e0∈es,∃e∈es.set j ({x with key:=enc k,val:=v} :MapEntry),e.key=e0.key/\e.born=e0.born:=by
  intro e0 he;obtain⟨i,m,rfl⟩:=jb.1 he;refine⟨(es.set j ({x with key:=enc k,val:=v} :MapEntry))[i]'(by simpa using m),og _,?_⟩;rw[Gg];split;·next I=>subst I;rw[u];exact⟨hk.symm,rfl⟩
  ·exact⟨rfl,rfl⟩
 refine⟨{w with heap:=w.heap.setIfInBounds b (.map (es.set j ({x with key:=enc k,val:=v} :MapEntry)).toArray ck)},?_,g _ ?_⟩;·simp[Instr.mapUpdate,run_underlying U,MapKept.run_getObj_map hb,K.pj,r,Instr.keyThatStays,o,hk,K.stay,hm,MapKept.run_setObj_map _ hb]
 ·refine h.change (A':=fA it b enc (cL f k (some v)) done cur n) rfl (by simp) (λF B hl=>⟨λy A C=>?_,F,⟨⟨_,ck,seen,?_,?_,M.put K o hk v,?_,?_,?_⟩,B.2⟩,λy A=>⟨?_,.inl A⟩⟩)
  ·have:b≠y:=λe=>C ((B.2 y).2 (.inl e.symm));show(w.heap.setIfInBounds b _)[y]?=_;rw[oa,bJ this]
  ·show(w.heap.setIfInBounds b _)[b]?=_;rw[oa,bL rfl,bL D]
  ·have:b≠it:=by
    intro e;rw[e]at hb;rw[m]at hb;cases hb
   show(w.heap.setIfInBounds b _)[it]?=_;rw[oa,bJ this];exact m
  ·intro e he k' H;obtain⟨e0,d,h1,h2⟩:=dY e he;rw[h2];exact Q.dn e0 d k' (h1.symm.trans H)
  ·intro k' J;obtain⟨e0,d,h1,h2⟩:=Q.cu k' J;obtain⟨e,he,R,S⟩:=new e0 d;exact⟨e,he,R.trans h1,by rw[S];exact h2⟩
  ·rw[<- Q.len];unfold leftOf;have go:∀(c:Nat->Bool) (l:bA MapEntry) (j:Nat) (x y:MapEntry),l[j]?=some x->y.born=x.born->((l.set j y).filter λe=> !c e.born).length=(l.filter λe=> !c e.born).length:=by
    intro c l;induction l with
    |nil=>intro j x y h;simp at h
    |cons a l V=>
     intro j x y h1 h2;cases j with
     |zero=>
      simp only[lE,fU]at h1;subst h1;rw[y4,jD,jD,h2];cases c a.born<;>simp
     |succ j=>
      rw[Tm,jD,jD];have:=V j x y (by simpa using h1) h2;cases c a.born;·simp only[Bool.not_false,gQ,hI];omega
      ·simpa using this
   have T:=go (λy=>seen.contains y) es j x {x with key:=enc k,val:=v} o rfl;rw[<- tv,F5,<- tv,F5];exact T
  ·simpa using hl y A
end
end Go.Sp
namespace Go.Mp.Gp
open Go Go.Vc Go.Sp Go.Kc Go.Mp
abbrev encI:Int->bE:=Value.int .i64
def fk(g a:Int):bE:=.agg #[Iv g,Iv a]
def gm(R:bA dy):Int->bW bE:=λk=>(ff R k).map λe=>fk e.group e.du
def yw(a b:Int)(h:encI a=encI b):a=b:=by simpa using h
def mA:h3 P lO encI:=h3.int cV
variable{R R':bA dy}
def fm(l:Nat)(R:bA dy):Asn:=fe λm:Nat=>star (bC l [.map (some m)]) (cE m encI (gm R))
variable{E:Env}{L:cv}{w:bH}{l:Nat}
def fm.open(h:Sep E (fm l R::L) w):∃m,Sep E (bC l [.map (some m)]::cE m encI (gm R)::L) w:=by
 obtain⟨m,h⟩:=Sep.ex.1 h;exact⟨m,Sep.star.1 h⟩
def fm.shut{m:Nat}(h:Sep E (bC l [.map (some m)]::cE m encI (gm R)::L) w):Sep E (fm l R::L) w:=Sep.ex.2 ⟨m,Sep.star.2 h⟩
def mq:mQ P Bj=some (lO,fk 0 0):=by kernel_rfl
def vo(h:Sep E L w):Calls P Bs #[] w (cA λv w'=>∃l,v=Pb l/\Sep E (fm l []::L) w'):=by
 apply VK;unfold Kl;exact cE.new (enc:=encI) h (λm a h1=>Al.i h1 (λp w2 h2=>⟨p,rfl,fm.shut h2⟩))
def look{m i:Nat}(h:Sep E L w)(a:L[i]?=some (cE m encI (gm R)))(k:Int):
  gr P Bj (.map (some m)) (Iv k) true w (.tuple #[fk ((ff R k).elim 0 (·.group)) ((ff R k).elim 0 (·.du)),.bool (ff R k).isSome]):=by
 have:=gr.i true i h a mA mq k;unfold gm at this;cases hf:ff R k<;>simpa[hf]using this
def Ef{m i:Nat}(h:Sep E L w)(a:L[i]?=some (cE m encI (gm R)))(k:Int):
  gr P Bj (.map (some m)) (Iv k) false w (fk ((ff R k).elim 0 (·.group)) ((ff R k).elim 0 (·.du))):=by
 have:=gr.i false i h a mA mq k;unfold gm at this;cases hf:ff R k<;>simpa[hf]using this
def aJ5(G:Kc.Good R){x:dy}(hn:∀e∈R,e.id≠x.id)(a:Kc.Good (iI R x)):cL (gm R) x.id (some (fk x.group x.du))=gm (iI R x):=by
 funext k;unfold cL gm;by_cases hk:k=x.id;·rw[bL hk,(kO a.cZ).2 ⟨(wT hn).2 (.inl rfl),hk.symm⟩];rfl
 ·rw[bJ hk,AT G.cZ a.cZ (λe he=>?_)];rw[wT hn];exact⟨λh=>h.resolve_left (λe'=>hk (by rw[<- he,e'])),.inr⟩
def DF(G:Kc.Good R)(id g:Int)(dY:Bool)(h:Sep E (fm l R::L) w):Calls P Jz #[Pb l,Iv id,Iv g,.bool dY] w (cY E (Iv (jI R id g dY).2) (fm l (jI R id g dY).1::L)):=by
 apply Yw;unfold MH qL qM qU qg qw zZ;unfold jI;have bad:ie id g->(Value.int .i64 1=Iv (if ie id g then(R,(1:Int))else if(ff R id).isSome then(R,4)else(iI R ⟨id,g,if dY then 1 else 0⟩,0)).2/\Sep E (fm l (if ie id g then(R,(1:Int))else if(ff R id).isSome then(R,4)else(iI R ⟨id,g,if dY then 1 else 0⟩,0)).1::L) w):=by
  intro hb;rw[bL hb];exact⟨rfl,h⟩
 refine⟨λw=>¬ ie id g/\Sep E (fm l R::L) w,?_,?_⟩
 ·refine cX (λc=>bad (.inl c)) (λz=>gn (λc=>bad (.inr (.inl c))) (λA=>cX (λc=>bad (.inr (.inr (.inl c)))) (λB=>gn (λc=>bad (.inr (.inr (.inr c)))) (λC=>⟨?_,h⟩))));unfold ie;omega
 rintro _ D ⟨hb,h1⟩;rw[bJ hb];obtain⟨m,h2⟩:=fm.open h1;refine⟨_,rfl,ld h2 0 rfl rfl rfl ⟨_,_,_,look (i:=1) h2 rfl id,Al.i h2 (λp F o=>ew _ (vs:=[Iv _,Iv _]) o rfl (λH j=>?_))⟩⟩;cases hf:ff R id with
 |some e=>exact eB ⟨rfl,fm.shut j.tail⟩
 |none=>
  refine dG (Al.i j (λq I r=>ew _ (vs:=[Iv g,Iv 0]) r rfl (λJ f=>?_)));refine⟨λw=>Sep E (bC q [Iv g,Iv (if dY then 1 else 0)]::bC l [.map (some m)]::cE m encI (gm R)::L) w,?_,?_⟩
  ·refine cw (λho=>?_) (λho=>?_)
   ·refine ld f 0 rfl rfl rfl (St.i f (show 0+1<2 by decide) (λt a=>?_));rw[cR (n:=0+1) bN bN]at a;rw[bL ho];exact(a.fr 1 rfl).tail.fr 0 rfl |> λx=>(a.ro 4 [0,2,3] rfl)
   ·rw[bJ (by simp[ho])];exact f.ro 4 [0,2,3] rfl
  ·rintro _ t a;refine Dr.i a (λK b=>⟨_,rfl,ld b 1 rfl rfl rfl (ld b 0 rfl rfl rfl (ld b 0 rfl rfl rfl ?_))⟩);refine mapUpdate.i (b.ro 3 [2,0,1] rfl) mA mq id _ (λu s=>⟨rfl,?_⟩);have hn:=(r5 G.cZ).1 hf;have y:¬ (id<0\/16777216<id\/g<0\/16777216<g):=hb;have k:Kc.Good (iI R ⟨id,g,if dY then 1 else 0⟩):=G.ins (x:=⟨id,g,if dY then 1 else 0⟩) hn ⟨⟨by simp only;omega,by simp only;omega⟩,⟨by simp only;omega,by simp only;omega⟩,by simp only;split<;>omega⟩;have e:=aJ5 G (x:=⟨id,g,if dY then 1 else 0⟩) hn k;have d:Sep E (cE m encI (cL (gm R) id (some (fk g (if dY then 1 else 0))))::bC q [Iv g,Iv (if dY then 1 else 0)]::bC l [.map (some m)]::L) u:=s;rw[show cL (gm R) id (some (fk g (if dY then 1 else 0)))=gm (iI R ⟨id,g,if dY then 1 else 0⟩)from e]at d;exact fm.shut (d.ro 3 [2,0] rfl)
def Eg(G:Kc.Good R)(id:Int)(h:Sep E (fm l R::L) w):Calls P xG #[Pb l,Iv id] w (cY E (Iv (kp R id).2) (fm l (kp R id).1::L)):=by
 apply WI;unfold K7 qL qM qU qw;obtain⟨m,h2⟩:=fm.open h;refine⟨_,rfl,ld h2 0 rfl rfl rfl ⟨_,_,_,look (i:=1) h2 rfl id,Al.i h2 (λp t o=>ew _ (vs:=[Iv _,Iv _]) o rfl (λu d=>?_))⟩⟩;have c:=G.cy id;unfold kp at c ⊢;cases hf:ff R id with
 |none=>exact eB ⟨rfl,fm.shut d.tail⟩
 |some e=>
  rw[hf]at d c;have g:Kc.Good (R.map (λe=>if e.id=id then {e with du:=0} else e)):=c;refine dG (Dr.i d (λz f=>⟨_,rfl,ld f 1 rfl rfl rfl (ld f 0 rfl rfl rfl ?_)⟩));refine mapUpdate.i (f.ro 3 [2,0,1] rfl) mA mq id _ (λs q=>⟨rfl,?_⟩);have he:=(kO G.cZ).1 hf;have n:cL (gm R) id (some (fk e.group 0))=gm (R.map (λe=>if e.id=id then {e with du:=0} else e)):=by
   funext k;unfold cL gm;by_cases hk:k=id;·rw[bL hk,(kO g.cZ (e:={e with du:=0})).2 ⟨fo.2 ⟨e,he.1,bL he.2⟩,by simp only;omega⟩];rfl
   ·rw[bJ hk,AT G.cZ g.cZ (λx hx=>?_)];simp only[gQ,F8,fo];constructor
    ·rintro⟨y,r,rfl⟩;by_cases a:y.id=id;·rw[bL a]at hx;simp only at hx;omega
     ·rw[bJ a];exact r
    ·intro j;exact⟨x,j,cF⟩
  have b:Sep E (cE m encI (cL (gm R) id (some (fk e.group 0)))::bC p _::bC l [.map (some m)]::L) s:=q;rw[n]at b;exact fm.shut (b.ro 3 [2,0] rfl)
def vq(G:Kc.Good R)(id:Int)(h:Sep E (fm l R::L) w):Calls P BW #[Pb l,Iv id] w (cY E (Iv (jj R id).2) (fm l (jj R id).1::L)):=by
 apply WS;unfold Lg qM qU qw;obtain⟨m,h2⟩:=fm.open h;refine⟨_,rfl,ld h2 0 rfl rfl rfl ⟨_,_,_,look (i:=1) h2 rfl id,Al.i h2 (λp j g=>ew _ (vs:=[Iv _,Iv _]) g rfl (λn b=>?_))⟩⟩;have a:=G.drop id;unfold jj at a ⊢;cases hf:ff R id with
 |none=>exact eB ⟨rfl,fm.shut b.tail⟩
 |some e=>
  rw[hf]at a;have c:Kc.Good (R.filter (λe=>e.id !=id)):=a;refine dG ⟨_,rfl,ld b 1 rfl rfl rfl ?_⟩;refine gI.i (b.ro 3 [2,0,1] rfl) mA mq id (λo d=>⟨rfl,?_⟩);have f:cL (gm R) id none=gm (R.filter (λe=>e.id !=id)):=by
   funext k;unfold cL gm;by_cases hk:k=id
   ·have:ff (R.filter (λe=>e.id !=id)) k=none:=(r5 c.cZ).2 (λe he=>by have:=(gq.1 he).2;simp at this;omega);rw[bL hk,this];rfl
   ·rw[bJ hk,AT G.cZ c.cZ (λx hx=>?_)];simp only[gQ,F8,gq];exact⟨λh=>h.1,λh=>⟨h,by simp;omega⟩⟩
  rw[f]at d;exact fm.shut (d.ro 3 [2,0] rfl)
end Go.Mp.Gp
namespace Go.Mp.Gp
open Go Go.Vc Go.Sp Go.Kc Go.Mp
variable{R:bA dy}{E:Env}{L:cv}{w:bH}{l:Nat}
def jo(R:bA dy)(d:Int->Bool)(p:dy->Bool):Nat:=(R.filter (λe=>d e.id&&p e)).length
def plus(d:Int->Bool)(k:Int):Int->Bool:=λx=>d x||x==k
def ru(p:dy->Bool):jo R (λ_=>false) p=0:=by unfold jo;simp
def QH{d:Int->Bool}(p:dy->Bool)(h:∀e∈R,d e.id=true):jo R d p=(R.filter p).length:=by
 unfold jo;congr 1;apply wa;intro e he;rw[h e he,l4]
def QI(d:Int->Bool)(p:dy->Bool):jo R d p<=R.length:=l0 _ _
def QJ(G:R.Pairwise (λa b:dy=>a.id<b.id)){d:Int->Bool}(p:dy->Bool){k:Int}{e:dy}(he:ff R k=some e)(h:d k=false):jo R (plus d k) p=jo R d p+(if p e then 1 else 0):=by
 obtain⟨h1,h2⟩:=(kO G).1 he;clear he;unfold jo plus;induction R with
 |nil=>cases h1
 |cons x R j=>
  obtain⟨f,g⟩:=g7.1 G;rw[jD,jD];rcases ey.1 h1 with rfl|h1
  ·have c:R.filter (λy=>(d y.id||y.id==k)&&p y)=R.filter (λy=>d y.id&&p y):=by
    apply wa;intro y i;have:(y.id==k)=false:=by have:=f y i;simp;omega
    rw[this,o6]
   rw[c,h2,h];cases p e<;>simp
  ·have:=j g h1;have hx:(x.id==k)=false:=by have:=f e h1;simp;omega
   rw[hx,o6];cases(d x.id&&p x);·simpa using this
   ·simp only[gQ,hI];omega
def gd(R:bA dy)(d:Int->Bool)(F:dy->dy):Int->bW bE:=λk=>(ff R k).map λe=>if d k then fk (F e).group (F e).du else fk e.group e.du
def aIZ(F:dy->dy):gd R (λ_=>false) F=gm R:=by
 funext k;unfold gd gm;cases ff R k<;>simp
def aIY(F:dy->dy)(a:∀e,(F e).id=e.id)(k:Int):ff (R.map F) k=(ff R k).map F:=by
 unfold ff;rw[List.find?_map];congr 2;funext e;simp[a]
def aJ3(G:R.Pairwise (λa b:dy=>a.id<b.id)){d:Int->Bool}{F:dy->dy}(c:∀e,(F e).id=e.id)(h:∀e∈R,d e.id=true):gd R d F=gm (R.map F):=by
 funext k;unfold gd gm;rw[aIY F c];cases hf:ff R k with
 |none=>rfl
 |some e=>
  obtain⟨h1,h2⟩:=(kO G).1 hf;have:=h e h1;rw[h2]at this;simp[this]
def aI0{d:Int->Bool}{F:dy->dy}{k:Int}{e:dy}(he:ff R k=some e)(a:F e=e):gd R (plus d k) F=gd R d F:=by
 funext x;unfold gd plus;by_cases hx:x=k;·subst hx;rw[he];simp[a]
 ·have:(x==k)=false:=by simpa using hx
  rw[this,o6]
def aJ4{d:Int->Bool}{F:dy->dy}{k:Int}{e:dy}(he:ff R k=some e):cL (gd R d F) k (some (fk (F e).group (F e).du))=gd R (plus d k) F:=by
 funext x;unfold cL gd plus;by_cases hx:x=k;·subst hx;rw[bL rfl,he];simp
 ·have:(x==k)=false:=by simpa using hx
  rw[bJ hx,this,o6]
def QK(d:Int->Bool)(k:Int):(λx=>d x=true\/x=k)= λx=>plus d k x=true:=by
 funext x;unfold plus;simp
def aIp(G:Kc.Good R)(g:Int)(hb:R.length<4611686018427387904)(h:Sep E (fm l R::L) w):Calls P IJ #[Pb l,Iv g] w (cY E (Iv (oE R g)) (fm l R::L)):=by
 apply Wz;unfold KY qL qM qO qU qw;obtain⟨m,h2⟩:=fm.open h;refine⟨_,rfl,ld h2 0 rfl rfl rfl (fA.start h2.swap mq (λit A n h1=>?_))⟩;refine⟨λc w=>∃d cur n,c=jo R d (λe=>e.group==g)/\Sep E (fA it m encI (gm R) (λx=>d x=true) cur n::bC l [.map (some m)]::L) w,λ_ w=>yv w it m,⟨λ_=>false,none,n,by rw[ru];rfl,?_⟩,?_⟩
 ·have e:(λx:Int=>((λ_=>false:Int->Bool) x)=true)= λ_=>False:=by funext x;simp
  rw[e];exact h1
 rintro _ c w2 ⟨d,cur,n,rfl,q⟩;have hle:=QI (R:=R) d (λe=>e.group==g);refine fA.next yw q (λi u a=>?_) (λk v n' hk r hn u a=>?_)
 ·refine⟨?_,fm.shut (fA.over a).swap⟩;unfold oE;rw[QH];intro e he;exact i e.id (fk e.group e.du) (by unfold gm;rw[(kO G.cZ).2 ⟨he,rfl⟩];rfl)
 ·have j:=fA.entry (P:=P) a yw hk;obtain⟨e,he,t⟩:∃e,ff R k=some e/\fk e.group e.du=v:=by
   unfold gm at hk;cases hf:ff R k with
   |none=>rw[hf]at hk;cases hk
   |some e=>rw[hf]at hk;exact⟨e,rfl,by simpa using hk⟩
  subst t;rw[QK]at a;have y:=fA.left q;refine⟨_,_,_,_,j,Al.i a (λp B s=>ew _ (vs:=[Iv e.group,Iv e.du]) s rfl (λC b=>?_))⟩;have z:=fA.left b.tail;have f:=QJ G.cZ (λe=>e.group==g) he (tA.2 r);refine ld b 0 rfl rfl rfl (eX (λo=>?_) (λo=>?_))
  ·rw[cR bu bu];refine⟨⟨plus d k,_,_,?_,b.tail⟩,by dsimp only;omega⟩;rw[f];simp[o]
  ·refine⟨⟨plus d k,_,_,?_,b.tail⟩,by dsimp only;omega⟩;rw[f];simp[o]
def aI6(a b:Int×Int):∃q,kh P .neq xa (fk a.1 a.2) (fk b.1 b.2) q/\(q=false↔a=b):=by
 have c:∀p:Int×Int,Typed P xa [.int .i64,.int .i64] (fk p.1 p.2):=λp=>by
  unfold Typed;rw[show ei P xa=some true by kernel_rfl];exact⟨_,rfl,⟨_,rfl⟩,⟨_,rfl⟩,trivial⟩
 obtain⟨q,h1,h2⟩:=kh.neq (d:=4) (by kernel_rfl:ko P 4 xa=_) bN cV cV (c a) (c b);refine⟨q,h1,h2.trans ⟨λe=>?_,λe=>by rw[e]⟩⟩;simp[fk]at e;exact Prod.ext e.1 e.2
def QL(G:Kc.Good R)(g:Int)(b:Int->Int->Int×Int){change:bE}(U:∀(A:Asn) (x a:Int) (w:bH),Sep E (A::L) w->eY P change #[fk x a] w λe w'=>e=.returned (fk (b x a).1 (b x a).2)/\Sep E (A::L) w')(hb:R.length<4611686018427387904)(h:Sep E (fm l R::L) w):Calls P B5 #[Pb l,Iv g,change] w (cY E (Iv (iw R g b).2) (fm l (iw R g b).1::L)):=by
 apply W7;unfold Lq qL qM qO qU qh qw zZ;obtain⟨m,h2⟩:=fm.open h;refine⟨_,rfl,ld h2 0 rfl rfl rfl (fA.start h2.swap mq (λit ak n h1=>?_))⟩;refine⟨λc w=>∃d cur n,c=jo R d (nS g b)/\Sep E (fA it m encI (gd R d (jJ g b)) (λx=>d x=true) cur n::bC l [.map (some m)]::L) w,λ_ w=>yv w it m,⟨λ_=>false,none,n,by rw[ru];rfl,?_⟩,?_⟩
 ·have e:(λx:Int=>((λ_=>false:Int->Bool) x)=true)= λ_=>False:=by funext x;simp
  rw[e,aIZ];exact h1
 rintro _ c w2 ⟨d,cur,n,rfl,Q⟩;have hle:=QI (R:=R) d (nS g b);refine fA.next yw Q (λM af u=>?_) (λk v n' hk W hn af u=>?_)
 ·have t:∀e∈R,d e.id=true:=λe he=>by
   have hf:=(kO G.cZ).2 ⟨he,rfl⟩;exact M e.id _ (by unfold gd;rw[hf];rfl)
  refine⟨by unfold iw;rw[QH _ t],?_⟩;rw[aJ3 G.cZ (r6 g b) t]at u;exact fm.shut (fA.over u).swap
 ·have N:=fA.entry (P:=P) u yw hk;have B:=tA.2 W;obtain⟨e,he,ae⟩:∃e,ff R k=some e/\fk e.group e.du=v:=by
   unfold gd at hk;cases hf:ff R k with
   |none=>rw[hf]at hk;cases hk
   |some e=>rw[hf]at hk;exact⟨e,rfl,by simpa[B]using hk⟩
  subst ae;rw[QK]at u;have ai:=fA.left Q;have D:=QJ G.cZ (nS g b) he B;refine⟨_,_,_,_,N,Al.i u (λp al aa=>ew _ (vs:=[Iv e.group,Iv e.du]) aa rfl (λZ I=>?_))⟩;refine ld I 0 rfl rfl rfl (ld I 0 rfl rfl rfl ?_);have ab:Sep E (cB [bC p [Iv e.group,Iv e.du],fA it m encI (gd R d (jJ g b)) (λx=>plus d k x=true) (some k) n',bC l [.map (some m)]]::L) Z:=Sep.cB.2 I;refine eY.use (U _ e.group e.du Z ab) ?_;rintro _ ag ⟨rfl,J⟩;have J:Sep E (bC p [Iv e.group,Iv e.du]::fA it m encI (gd R d (jJ g b)) (λx=>plus d k x=true) (some k) n'::bC l [.map (some m)]::L) ag:=Sep.cB.1 J;refine⟨_,_,rfl,Al.i J (λq am ad=>ew _ (vs:=[Iv (b e.group e.du).1,Iv (b e.group e.du).2]) ad rfl (λan i=>?_))⟩;refine⟨λc w=>c=nS g b e/\Sep E (bC q [Iv (b e.group e.du).1,Iv (b e.group e.du).2]::bC p [Iv e.group,Iv e.du]::fA it m encI (gd R d (jJ g b)) (λx=>plus d k x=true) (some k) n'::bC l [.map (some m)]::L) w,?_,?_⟩
  ·refine ld i 1 rfl rfl rfl (eX (λs=>?_) (λs=>⟨by unfold nS;simp[s],i⟩));refine ld i 1 rfl rfl rfl (ld i 1 rfl rfl rfl (ld i 0 rfl rfl rfl (ld i 0 rfl rfl rfl ?_)));obtain⟨r,X,C⟩:=aI6 (e.group,e.du) (b e.group e.du);refine⟨r,X,?_,i⟩;unfold nS;cases r with
   |false=>
    have H:=C.1 rfl;rw[<- H];simp
   |true=>
    have H:¬ b e.group e.du=(e.group,e.du):=λe'=>by have:=C.2 e'.symm;cases this
    have y:(b e.group e.du==(e.group,e.du))=false:=by simpa using H
    rw[y];simp[s]
  rintro _ c ah ⟨rfl,z⟩;refine cw (λo=>?_) (λo=>?_)
  ·have S:e.group=g/\b e.group e.du≠(e.group,e.du):=by unfold nS at o;simpa using o
   have K:jJ g b e=⟨e.id,(b e.group e.du).1,(b e.group e.du).2⟩:=by unfold jJ;rw[bL S.1]
   refine Dr.i z (λaj f=>⟨_,rfl,ld f 3 rfl rfl rfl (ld f 0 rfl rfl rfl (ld f 0 rfl rfl rfl ?_))⟩);refine fA.update (f.ro 4 [2,0,1,3] rfl) mA mq k _ hk (λY O=>?_);have y:=aJ4 (d:=d) (F:=jJ g b) he;rw[K]at y;have j:Sep E (fA it m encI (cL (gd R d (jJ g b)) k (some (fk (b e.group e.du).1 (b e.group e.du).2))) (λx=>plus d k x=true) (some k) n'::bC q _::bC p _::bC l [.map (some m)]::L) Y:=O;rw[y]at j;have V:=fA.left j;rw[cR bu bu];refine⟨⟨plus d k,_,_,?_,j.ro 4 [0,3] rfl⟩,by dsimp only;omega⟩;rw[D,bL o];simp
  ·have K:jJ g b e=e:=by
    unfold nS at o;unfold jJ;by_cases s:e.group=g
    ·have T:b e.group e.du=(e.group,e.du):=by simpa[s]using o
     rw[bL s,T]
    ·rw[bJ s]
   have f:Sep E (fA it m encI (gd R d (jJ g b)) (λx=>plus d k x=true) (some k) n'::bC l [.map (some m)]::L) ah:=z.tail.tail;rw[<- aI0 (d:=d) he K]at f;have V:=fA.left f;refine⟨⟨plus d k,_,_,?_,f⟩,by dsimp only;omega⟩;rw[D,bJ (by simp[o])];simp
def aKv(G:Kc.Good R)(g:Int)(hb:R.length<4611686018427387904)(h:Sep E (fm l R::L) w):Calls P II #[Pb l,Iv g] w (cY E (Iv (iw R g jK).2) (fm l (iw R g jK).1::L)):=by
 apply Wv;unfold KW qQ;refine use (QL G g jK (λA x a f h1=>⟨I2,_,rfl,by kernel_rfl,?_⟩) hb h) ?_
 ·refine use (K:=λv w'=>v=fk (jK x a).1 (jK x a).2/\Sep E (A::L) w') (Xf x a ?_) (λv w' ⟨e,d⟩=>⟨by rw[e],d⟩);unfold Ly qU qw zZ;refine Al.i h1 (λp w2 h2=>Al.i h2 (λq i b=>ld b 1 rfl rfl rfl (ld b 1 rfl rfl rfl (ew _ (vs:=[Iv x,Iv _]) b rfl (λj c=>?_)))));exact ld c 0 rfl rfl rfl (ld c 0 rfl rfl rfl ⟨rfl,c.tail.tail⟩)
 ·rintro _ f ⟨rfl,h1⟩;exact⟨_,rfl,rfl,h1⟩
def aJI(G:Kc.Good R)(f t:Int)(hb:R.length<4611686018427387904)(h:Sep E (fm l R::L) w):Calls P IH #[Pb l,Iv f,Iv t] w (cY E (Iv (mU R f t).2) (fm l (mU R f t).1::L)):=by
 apply Wr;unfold KS qC qD qQ qg;unfold mU;have bad:∀ {d:bH} {g:Nat},(t<0\/16777216<t)->Sep E (bC g [Iv t]::fm l R::L) d->(Value.int .i64 0=Iv (if t<0\/16777216<t then(R,(0:Int))else iw R f (λ_ a=>(t,a))).2/\Sep E (fm l (if t<0\/16777216<t then(R,(0:Int))else iw R f (λ_ a=>(t,a))).1::L) d):=by
  intro d g hb h;rw[bL hb];exact⟨rfl,h.tail⟩
 refine Al.i h (λp d h1=>⟨λw=>¬ (t<0\/16777216<t)/\Sep E (bC p [Iv t]::fm l R::L) w,?_,?_⟩);·exact ld h1 0 rfl rfl rfl (cX (λc=>bad (.inl c) h1) (λn=>ld h1 0 rfl rfl rfl (gn (λc=>bad (.inr c) h1) (λo=>⟨bu,h1⟩))))
 rintro _ w2 ⟨i,h2⟩;rw[bJ i];refine use (QL (L:=bC p [Iv t]::L) G f (λ_ a=>(t,a)) (λA x a d h1=>⟨I1,_,rfl,by kernel_rfl,?_⟩) hb h2.swap) ?_
 ·refine use (K:=λv w'=>v=fk t a/\Sep E (A::bC p [Iv t]::L) w') (W8 x a ⟨p,0,none⟩ ?_) (λv w' ⟨k,j⟩=>⟨by rw[k],j⟩);unfold Lr qD qL qU qw zZ;refine Al.i h1 (λg w2 h2=>Al.i h2 (λq m b=>ld b 3 rfl rfl rfl (ld b 1 rfl rfl rfl (ew _ (vs:=[Iv t,Iv a]) b rfl (λr e=>?_)))));exact ld e 0 rfl rfl rfl (ld e 0 rfl rfl rfl ⟨rfl,e.tail.tail⟩)
 ·rintro _ m ⟨rfl,b⟩;exact⟨_,rfl,rfl,(b.fr 1 rfl).tail⟩
end Go.Mp.Gp
namespace Go.Sp
open Go
variable{E:Env}{L:cv}{w:bH}
def Sep.put{A A':Asn}{q:Nat}(a:L[q]?=some A)(h:Sep E (A'::L.eraseIdx q) w):Sep E (L.set q A') w:=by
 refine h.perm ?_;obtain⟨hl,_⟩:=c4.1 a;rw[bc7,bc0,bL hl];exact jc.symm
def Sep.hS{A A' B:Asn}{q:Nat}(a:L[q]?=some A)(h:Sep E (B::A'::L.eraseIdx q) w):Sep E (B::L.set q A') w:=by
 refine h.perm (List.Perm.cons _ ?_);obtain⟨hl,_⟩:=c4.1 a;rw[bc7,bc0,bL hl];exact jc.symm
end Go.Sp
namespace Go.Mp
open Go Go.Vc Go.Sp Go.Proofs Go.Kc
variable{E:Env}{L:cv}{w:bH}
structure At where
 c:Nat
 t:Nat
 fp:Nat
 fb:Nat
 fu:Nat
 sp:Nat
 sb:Nat
 su:Nat
 fi:Nat
 ge:Nat
 lg:Nat
 pg:Nat
 m:Nat
 gs:Sl
 us:Sl
 o:cb Obj
def eE.vs(x:eE):bA bE:=[Iv x.min,Iv x.low,.bool x.whole]
def eE.mx(x:eE):(eE.vs x).length=3:=rfl
def At.row(A:At):bA bE:=[Pb A.t,Pb A.fp,Pb A.fb,Pb A.fu,Pb A.sp,Pb A.sb,Pb A.su,
 Pb A.fi,Pb A.ge,Pb A.lg,Pb A.pg,.map (some A.m),.slice A.gs.p A.gs.n A.gs.c,.slice A.us.p A.us.n A.us.c]
def nJ(m:Nat)(f:Int->bW Int):Asn:=cG (∀k x,f k=some x->0<=x/\x<18446744073709551616) (cE m (Value.int .i64) (λk=>(f k).map (Value.int .u64)))
def iL(s:Sl)(l:bA eE):Asn:=cG (s.n=l.length) (bw s 3 (bP eE.vs l))
def jq(s:Sl)(l:bA Kt.G):Asn:=cG (s.n=l.length) (bw s 1 (bD (l.map Kt.G.up)))
def eg(H:cb Obj):Asn:=cG (∃o,H[2]?=some o/\pD o) (dY H)
def cg(A:At)(S:Cs):cv:=
 [bC A.c A.row,dR A.t S.tree,ga A.fp S.fr.bS,gf A.fb S.fr.bS.length S.fr.dd,da A.fu S.fr.used,ga A.sp S.sl.bS,gf A.sb S.sl.bS.length S.sl.dd,da A.su S.sl.used,
  iA A.fi S.files,Gp.fm A.ge S.bX,fG A.lg S.log,Tp.c5 A.pg S.bt,nJ A.m S.kept,iL A.gs S.guards,jq A.us S.tree,eg A.o]
variable{A:At}{S:Cs}
def Eh(g:Int)(h:Sep E (cg A S++L) w):Calls P uC #[Pb A.c,Iv g] w (cY E (Iv (S.memory g)) (cg A S++L)):=by
 apply Vw;unfold J4 qQ qZ;refine⟨_,rfl,ld h 0 rfl rfl rfl (use (yp h (q:=4) rfl g) ?_)⟩;rintro _ a ⟨rfl,h1⟩;exact⟨_,rfl,rfl,h1⟩
def QM(g:Int)(h:Sep E (cg A S++L) w):Calls P xe #[Pb A.c,Iv g] w (cY E (Iv (S.swap g)) (cg A S++L)):=by
 apply Vx;unfold J5 qQ qZ;refine⟨_,rfl,ld h 0 rfl rfl rfl (use (yp h (q:=7) rfl g) ?_)⟩;rintro _ a ⟨rfl,h1⟩;exact⟨_,rfl,rfl,h1⟩
def yx(p:Pg)(h:Sep E (cg A S++L) w):Calls P uO #[Pb A.c,.agg p.vs.toArray] w (cY E (hE (S.text p)) (cg A S++L)):=by
 apply XB;unfold LP qL qZ zQ zZ;refine Al.i h (λb g h1=>?_);have h1:Sep E (bC b p.vs::(cg A S++L)) g:=h1;refine ld h1 0 rfl rfl rfl (eX (λc=>?_) (λe=>eX (λd=>?_) (λf=>?_)))
 ·refine Dr.i h1 (λw2 h2=>⟨_,rfl,ld h2 1 rfl rfl rfl (ld h2 0 rfl rfl rfl (use (Qw p.at_ (h2.fr 4 rfl)) ?_))⟩);rintro _ _ ⟨rfl,rfl⟩;refine⟨_,_,rfl,?_,h2.tail⟩;unfold Cs.text;rw[bL c];rfl
 ·refine Dr.i h1 (λw2 h2=>⟨_,rfl,ld h2 1 rfl rfl rfl (ld h2 0 rfl rfl rfl (use (Qw p.at_ (h2.fr 7 rfl)) ?_))⟩);rintro _ _ ⟨rfl,rfl⟩;refine⟨_,_,rfl,?_,h2.tail⟩;unfold Cs.text;rw[cF,bL d];rfl
 ·refine Dr.i h1 (λw2 h2=>⟨_,rfl,ld h2 1 rfl rfl rfl (ld h2 0 rfl rfl rfl (ld h2 0 rfl rfl rfl (use (OS (p.kf,p.ki) (h2.fr 9 rfl)) ?_)))⟩);rintro _ i ⟨rfl,a⟩;have a:Sep E (bC b p.vs::(cg A S++L)) i:=a.put (q:=9) rfl;refine⟨_,_,rfl,?_,a.tail⟩;unfold Cs.text;rw[bJ e,bJ f];rfl
def QN{p b u:Nat}{s:fa}{d:Sl}{l:bR}(at_:Int)(f:Ints E L d l)(hb:l.length<=64)(h:Sep E (ga p s.bS::gf b s.bS.length s.dd::da u s.used::L) w):
  Calls P ra #[.agg #[Pb p,Pb b,Pb u],Iv at_,Sv d] w
  (cY E (.tuple #[]) (ga p (s.dv at_ l).bS::gf b (s.dv at_ l).bS.length (s.dv at_ l).dd::da u (s.dv at_ l).used::L)):=by
 apply WR;unfold Lf qQ qZ;refine Al.i h (λq g h1=>?_);have h1:Sep E (bC q [Pb p,Pb b,Pb u]::ga p s.bS::gf b s.bS.length s.dd::da u s.used::L) g:=h1;refine ld h1 0 rfl rfl rfl (use (azo at_ (h1.fr 2 rfl)) ?_);rintro _ w2 ⟨rfl,h2⟩;have h2:Sep E (bC q [Pb p,Pb b,Pb u]::ga p s.bS::gf b s.bS.length (By.cl s.bS.length s.dd at_).1::da u s.used::L) w2:=h2.put (q:=2) rfl;refine⟨_,rfl,ld h2 0 rfl rfl rfl (use (Zc (h2.fr 1 rfl) at_) ?_)⟩;rintro _ i ⟨rfl,a⟩;have a:Sep E (bC q [Pb p,Pb b,Pb u]::ga p (nn s.bS at_).1::gf b s.bS.length (By.cl s.bS.length s.dd at_).1::da u s.used::L) i:=a.put (q:=1) rfl;refine⟨_,rfl,ld a 0 rfl rfl rfl (use (yq f.cons.cons.cons bu 1 (a.fr 3 rfl)) ?_)⟩;rintro _ j ⟨rfl,c⟩;have c:Sep E (bC q [Pb p,Pb b,Pb u]::ga p (nn s.bS at_).1::gf b s.bS.length (By.cl s.bS.length s.dd at_).1::da u (gk s.used l 1).1::L) j:=c.ro 4 [1,2,3,0] rfl;refine⟨_,rfl,rfl,?_⟩;have e:(s.dv at_ l).bS.length=s.bS.length:=rY _ _;rw[e];exact c.tail
end Go.Mp
namespace Go.Sp
open Go
variable{E:Env}{L Q:cv}{X:Asn}{w:bH}
def Sep.e4(h:Sep E (X::(Q++L)) w):Sep E (Q++X::L) w:=h.perm jc.symm
def Sep.mB(h:Sep E (Q++X::L) w):Sep E (X::(Q++L)) w:=h.perm jc
def Sep.cut(h:Sep E (Q++X::L) w):Sep E (Q++L) w:=h.mB.tail
def Sep.right(h:Sep E (Q++L) w):Sep E L w:=(h.perm lZ).left
end Go.Sp
namespace Go.Mp
open Go Go.Vc Go.Sp Go.Proofs Go.Kc
variable{E:Env}{L:cv}{w:bH}{A:At}{S:Cs}
def _root_.Go.Sp.Ints.er{s:Sl}{gs:bR}{q:Nat}(a:Ints E L s gs)(b:q<16):Ints E ((cg A S++L).eraseIdx q) s gs:=
 a.of (λ_ h=>by
  rw[List.eraseIdx_append_of_lt_length (show q<(cg A S).length from b)]at h;exact h.right)
def _root_.Go.Sp.Ints.pre{s:Sl}{gs:bR}(a:Ints E L s gs):Ints E (cg A S++L) s gs:=a.of (λ_ h=>h.right)
def QO(id:Int)(p:Pg)(h:Sep E (cg A S++L) w):Calls P BV #[Pb A.c,Iv id,.agg p.vs.toArray] w (cY E (.tuple #[]) (cg A (S.clean id p)++L)):=by
 apply WQ;unfold Le qG qL qQ qY qZ qh qy zJ zZ;refine Al.i h (λb m h1=>?_);have h1:Sep E (cg A S++bC b p.vs::L) m:=Sep.e4 h1;have i:(0<=p.kf/\p.e9=true)=False->∀w',Sep E (cg A S++bC b p.vs::L) w'->Sep E (cg A (S.clean id p)++L) w':=by
  intro hf w' h';have:S.clean id p=S:=by unfold Cs.clean;rw[bJ (by rw[hf];exact not_false)]
  rw[this];exact h'.cut
 refine⟨λx w'=>(x=true↔(0<=p.kf/\p.e9=true))/\Sep E (cg A S++bC b p.vs::L) w',ld h1 16 rfl rfl rfl (hD (λg=>ld h1 16 rfl rfl rfl ⟨⟨λc=>⟨g,c⟩,λc=>c.2⟩,h1⟩) (λr=>⟨⟨λc=>(by cases c),λc=>bu⟩,h1⟩)),?_⟩;rintro _ x w2 ⟨hx,h2⟩;refine cw (λk=>?_) (λj=>⟨rfl,i (by rw[<- hx,j];simp) _ h2⟩);have l:=hx.1 k;refine Dr.i h2 (λs f=>⟨_,rfl,ld f 0 rfl rfl rfl ?_⟩)
 iterate 11 refine ld f 16 rfl rfl rfl ?_
 refine use (yx p f) ?_;rintro _ t ⟨rfl,e⟩;refine⟨_,rfl,ld e 16 rfl rfl rfl (ld e 16 rfl rfl rfl ⟨rfl,ld e 0 rfl rfl rfl ⟨rfl,use (aAi (p.kf,p.ki) (S.text p) (e.fr 8 rfl)) ?_⟩⟩)⟩;rintro _ n ⟨rfl,a⟩;have a:=a.put (q:=8) rfl;have a:Sep E (cg A {S with files:=(nr S.files (p.kf,p.ki) (S.text p)).1} ++bC b p.vs::L) n:=a;refine⟨_,rfl,_,rfl,ld a 0 rfl rfl rfl (use (Tp.QE id false (a.fr 11 rfl)) ?_)⟩;rintro _ o ⟨rfl,d⟩;have d:=d.put (q:=11) rfl;have d:Sep E (cg A {S with files:=(nr S.files (p.kf,p.ki) (S.text p)).1,bt:=(S.bt.mark id false).1} ++bC b p.vs::L) o:=d;refine⟨_,rfl,rfl,?_⟩;have:S.clean id p= {S with files:=(nr S.files (p.kf,p.ki) (S.text p)).1,bt:=(S.bt.mark id false).1} :=by unfold Cs.clean;rw[bL l]
 rw[this];exact d.cut
def eg.open{H:cb Obj}(h:Sep E (eg H::L) w):(∃o,w.heap[2]?=some o/\pD o)/\Sep E (dY H::L) w:=by
 obtain⟨⟨o,ho,a⟩,h⟩:=Sep.cG.1 h;exact⟨⟨o,by rw[h.kn 2 (oZ.1 ho).1];exact ho,a⟩,h⟩
def QP{p:Nat}{T:bA Bool}{H:cb Obj}{M:cv}{q:Nat}(a:M[q]?=some (eg H))(h:Sep E (ga p T::M) w):Calls P sA #[Pb p] w
  (cY E (.tuple #[Iv (fW T).2.1,Iv (fW T).2.2]) (ga p (fW T).1::M)):=by
 obtain⟨⟨o,ho,b⟩,_⟩:=eg.open (h.fr (q+1) (by simpa using a));exact Zb b h ho
def aJM(id:Int)(p:Pg){u:Sl}{l:bR}(r:Ints E L u l)(hb:l.length<=64)(h:Sep E (cg A S++L) w):Calls P Jn #[Pb A.c,Iv id,.agg p.vs.toArray,Sv u] w
  (cY E (.bool (S.ft id p l).2) (cg A (S.ft id p l).1++L)):=by
 apply X4;unfold Mi qD qG qO qQ qW qY qZ qj zJ;refine Al.i h (λb F h1=>?_);have h1:Sep E (cg A S++bC b p.vs::L) F:=Sep.e4 h1;have hn:=r.1;refine⟨λi w'=>(∃k:Nat,i=k/\k<=l.length/\(l.take k).any (λg=>decide (g8 S.sl.used g<=cW S.sl.used g))=false)/\Sep E (cg A S++bC b p.vs::L) w',λi _=>(l.length-i).toNat,⟨⟨0,rfl,e7 _,rfl⟩,h1⟩,?_⟩;rintro _ i w2 ⟨⟨k,rfl,hk,d⟩,h2⟩;refine cX (λJ=>?_) (λI=>?_)
 ·have m:k<l.length:=by omega
  obtain⟨g,s⟩:∃g,l[k]?=some g:=⟨_,dL m⟩
  refine r.cons.pre.el h2 k rfl s ?_;refine Dr.i h2 (λt a=>⟨_,rfl,ld a 0 rfl rfl rfl ?_⟩);refine use (QM g a) ?_;rintro _ B ⟨rfl,c⟩;refine⟨_,rfl,ld c 0 rfl rfl rfl ⟨rfl,use (aIs c (q:=7) rfl g) ?_⟩⟩;rintro _ G ⟨rfl,f⟩;refine⟨_,rfl,hD (λy=>?_) (λy=>?_)⟩
  ·have:S.ft id p l=(S,false):=by
    unfold Cs.ft;rw[bL (tC.2 ⟨g,eH s,dE y⟩)]
   rw[this];exact⟨rfl,f.cut⟩
  ·rw[de];refine⟨⟨⟨k+1,rfl,m,?_⟩,f⟩,by show(((l.length:Nat):Int)-((k+1:Nat):Int)).toNat<(((l.length:Nat):Int)-(k:Int)).toNat;omega⟩;have z:¬ g8 S.sl.used g<=cW S.sl.used g:=by have K:S.swap g=cW S.sl.used g:=rfl;omega
   rw[fL s,Gm,d];simp[z]
 ·have:k=l.length:=by omega
  subst this;rw[gg]at d;refine⟨_,rfl,ld h2 0 rfl rfl rfl (use (QP (q:=14) rfl (h2.fr 5 rfl)) ?_)⟩;rintro _ t ⟨rfl,a⟩;have a:=a.put (q:=5) rfl;refine⟨_,_,rfl,iz (λhf=>?_) (λhe=>?_)⟩
  ·have e:S.ft id p l=(S,false):=by
    unfold Cs.ft;rw[bJ (by rw[d];decide)];simp only;rw[bL hf]
   have C:=(AY hf).2;rw[C]at a;rw[e];have a:Sep E (cg A S++bC b p.vs::L) t:=a;exact⟨rfl,a.cut⟩
  ·have e:S.ft id p l=({S with sl:=⟨(fW S.sl.bS).1,(By.wr (fW S.sl.bS).1.length S.sl.dd (fW S.sl.bS).2.1 (S.text p)).1,(dh S.sl.used l 1).1⟩,bt:=(S.bt.put id 2 (fW S.sl.bS).2.1).1},true):=by
    unfold Cs.ft;rw[bJ (by rw[d];decide)];simp only;rw[cF]
   have n:=AM S.sl.bS;have a:Sep E (cg A {S with sl:=⟨(fW S.sl.bS).1,S.sl.dd,S.sl.used⟩} ++bC b p.vs::L) t:=by
    unfold cg;simp only;rw[n];exact a
   rw[e];refine⟨_,rfl,ld a 0 rfl rfl rfl (use (Qo (r.cons.er bN) bu 1 (a.fr 7 rfl)) ?_)⟩;rintro _ B ⟨rfl,c⟩;have c:=c.put (q:=7) rfl;have c:Sep E (cg A {S with sl:=⟨(fW S.sl.bS).1,S.sl.dd,(dh S.sl.used l 1).1⟩} ++bC b p.vs::L) B:=c;refine⟨_,_,rfl,Dr.i c (λG f=>⟨_,rfl,ld f 0 rfl rfl rfl ?_⟩)⟩
   iterate 9 refine ld f 16 rfl rfl rfl ?_
   have D:({S with sl:=⟨(fW S.sl.bS).1,S.sl.dd,(dh S.sl.used l 1).1⟩} :Cs).text p=S.text p:=by
    unfold Cs.text;simp only;rw[n]
   refine use (yx p f) ?_;rintro _ M ⟨rfl,x⟩;rw[D];refine⟨_,rfl,ld x 0 rfl rfl rfl ⟨rfl,use (Qx (fW S.sl.bS).2.1 _ (x.fr 6 rfl)) ?_⟩⟩;rintro _ H ⟨rfl,j⟩;have j:=j.put (q:=6) rfl;have j:Sep E (cg A {S with sl:=⟨(fW S.sl.bS).1,(By.wr (fW S.sl.bS).1.length S.sl.dd (fW S.sl.bS).2.1 (S.text p)).1,(dh S.sl.used l 1).1⟩} ++bC b p.vs::L) H:=j;refine⟨_,rfl,_,rfl,ld j 0 rfl rfl rfl (use (Tp.te id 2 _ (j.fr 11 rfl)) ?_)⟩;rintro _ N ⟨rfl,o⟩;have o:=o.put (q:=11) rfl;refine⟨_,rfl,rfl,?_⟩;exact Sep.cut (Q:=cg A {S with sl:=⟨(fW S.sl.bS).1,(By.wr (fW S.sl.bS).1.length S.sl.dd (fW S.sl.bS).2.1 (S.text p)).1,(dh S.sl.used l 1).1⟩,bt:=(S.bt.put id 2 (fW S.sl.bS).2.1).1}) o
def QQ{a:Sl}{l:bR}(at_:Int)(b:Ints E L a l)(hb:l.length<=64)(h:Sep E (cg A S++L) w):
  Calls P ra #[.agg #[Pb A.fp,Pb A.fb,Pb A.fu],Iv at_,Sv a] w
  (cY E (.tuple #[]) (cg A {S with fr:=S.fr.dv at_ l} ++L)):=by
 have h1:=h.ro 16 [2,3,4,0,1,5,6,7,8,9,10,11,12,13,14,15] rfl;refine use (QN (s:=S.fr) at_ b.cons.cons.cons.cons.cons.cons.cons.cons.cons.cons.cons.cons.cons hb h1) ?_;rintro _ c ⟨rfl,h2⟩;exact⟨_,rfl,rfl,h2.ro 16 [3,4,0,1,2,5,6,7,8,9,10,11,12,13,14,15] rfl⟩
def QR{a:Sl}{l:bR}(at_:Int)(b:Ints E L a l)(hb:l.length<=64)(h:Sep E (cg A S++L) w):
  Calls P ra #[.agg #[Pb A.sp,Pb A.sb,Pb A.su],Iv at_,Sv a] w
  (cY E (.tuple #[]) (cg A {S with sl:=S.sl.dv at_ l} ++L)):=by
 have h1:=h.ro 16 [5,6,7,0,1,2,3,4,8,9,10,11,12,13,14,15] rfl;refine use (QN (s:=S.sl) at_ b.cons.cons.cons.cons.cons.cons.cons.cons.cons.cons.cons.cons.cons hb h1) ?_;rintro _ c ⟨rfl,h2⟩;exact⟨_,rfl,rfl,h2.ro 16 [3,4,5,6,7,0,1,2,8,9,10,11,12,13,14,15] rfl⟩
def aFP{g c:Int}(a:fX g=true):0<=r0 g c/\r0 g c<18446744073709551616:=by
 have d:0<=g/\g<64:=by simpa[fX]using a
 unfold r0;have h1:top=1099511627776:=rfl;have h2:=Gn c (b:=top) bu;have e:=Int.emod_lt_of_pos c (b:=top) bu;omega
def aJv(l:bR)(g:Int):0<=(dK l g).2/\(dK l g).2<18446744073709551616:=by
 unfold dK;split;·exact⟨by simp,by simp⟩
 ·next h=>
  simp only;split;·exact⟨bu,bu⟩
  ·exact aFP (by simpa using h)
def QS:mQ P Bh=some (lO,.int .u64 0):=by kernel_rfl
def nJ.Ei{m:Nat}{f:Int->bW Int}(h:Sep E (nJ m f::L) w){id x:Int}(hx:0<=x/\x<18446744073709551616){G:bg0}(g:∀a,Sep E (nJ m (cL f id (some x))::L) a->G a):
  ∃a,Sem.run P (Instr.mapUpdate Bh (.map (some m)) (Iv id) (.int .u64 x)) w=.ok () a/\G a:=by
 obtain⟨hk,h1⟩:=Sep.cG.1 h;refine mapUpdate.i h1 Tp.mA QS id _ (λa h2=>g a (Sep.cG.2 ⟨λk y b=>?_,?_⟩))
 ·unfold cL at b;split at b;·cases b;exact hx
  ·exact hk k y b
 ·have e:cL (λk=>(f k).map (Value.int .u64)) id (some (.int .u64 x))= λk=>(cL f id (some x) k).map (Value.int .u64):=by
   funext k;unfold cL;split<;>rfl
  rw[e]at h2;exact h2
def aKx(id:Int)(hw:Kt.WF S.tree)(G:Kc.Good S.bX)(h:Sep E (cg A S++L) w):Calls P I5 #[Pb A.c,Iv id] w
  (cY E (.bool (S.out id).2) (cg A (S.out id).1++L)):=by
 apply Xr;unfold LG qE qF qJ qL qM qP qQ qU qV qX qY qZ qg zS zU;refine⟨_,rfl,ld h 0 rfl rfl rfl (use (Tp.oS id (h.fr 11 rfl)) ?_)⟩;rintro _ H ⟨rfl,h1⟩;have h1:Sep E (cg A S++L) H:=h1.put (q:=11) rfl;obtain⟨p,hp⟩:∃p,(S.bt.get id).1=p:=⟨_,rfl⟩
 rw[hp];refine⟨_,_,_,_,_,_,_,_,_,_,rfl,Al.i h1 (λb w2 h2=>ew (vs:=p.vs) _ h2 rfl (λI n=>?_))⟩;have n:Sep E (cg A S++bC b p.vs::L) I:=Sep.e4 n;refine Dr.i n (λV o=>⟨_,rfl,ld o 0 rfl rfl rfl (ld o 16 rfl rfl rfl (use (sW hw (o.fr 1 rfl)) ?_))⟩);rintro _ J ⟨j,rfl,y,d⟩;have d:=d.hS (q:=1) rfl;have d:Sep E (cg A S++bw j 1 (bD (S.chain p.owner))::bC b p.vs::L) J:=Sep.e4 (Q:=cg A S) d;have s:Ints E (bw j 1 (bD (S.chain p.owner))::bC b p.vs::L) j (S.chain p.owner):=Ints.row y;have m:(S.chain p.owner).length<=64:=pG hw _;let O:Cs×Bool:=if 0<=p.kf then({S.clean id p with bt:=((S.clean id p).bt.put id 0 0).1},true)else S.ft id p (S.chain p.owner)
 have t:S.out id=if O.2=true then(O.1.leave id p (S.chain p.owner),true)else(S,false):=by
  unfold Cs.out;rw[hp];simp only[O];split;·rfl
  ·rfl
 have l:O.1.bX=S.bX:=by
  simp only[O];split;·unfold Cs.clean;split<;>rfl
  ·unfold Cs.ft;split;·rfl
   ·simp only;split<;>rfl
 refine⟨_,rfl,λw'=>O.2=true/\Sep E (cg A O.1++bw j 1 (bD (S.chain p.owner))::bC b p.vs::L) w',ld d 17 rfl rfl rfl (hD (λz=>?_) (λN=>?_)),?_⟩
 ·iterate 9 refine ld d 17 rfl rfl rfl ?_
  refine use (QO id p d) ?_;rintro _ C ⟨rfl,f⟩;refine⟨rfl,_,rfl,ld f 0 rfl rfl rfl (use (Tp.te id 0 0 (f.fr 11 rfl)) ?_)⟩;rintro _ K ⟨rfl,g⟩;have g:=g.put (q:=11) rfl;have e:O=({S.clean id p with bt:=((S.clean id p).bt.put id 0 0).1},true):=bL z;rw[e];exact⟨_,rfl,rfl,g⟩
 ·iterate 9 refine ld d 17 rfl rfl rfl ?_
  refine use (aJM id p s m d) ?_;rintro _ C ⟨rfl,f⟩;have e:O=S.ft id p (S.chain p.owner):=cF;refine⟨_,rfl,cw (λhf=>?_) (λF=>⟨by rw[e];simpa using F,by rw[e];exact f⟩)⟩;have hf:(S.ft id p (S.chain p.owner)).2=false:=by simpa using hf
  rw[t,e,bJ (by rw[hf];decide)];have D:(S.ft id p (S.chain p.owner)).1=S:=by
   unfold Cs.ft at hf ⊢;split;·rfl
   ·next i=>
    rw[bJ i]at hf;simp only at hf ⊢;split;·rfl
    ·next a=>rw[bJ a]at hf;cases hf
  rw[D]at f;exact⟨rfl,f.cut.cut⟩
 rintro _ C ⟨u,f⟩;rw[t,bL u];obtain⟨T,x⟩:∃T,O.1=T:=⟨_,rfl⟩
 rw[x]at f ⊢;rw[x]at l;refine Dr.i f (λK g=>⟨_,rfl,ld g 0 rfl rfl rfl (ld g 0 rfl rfl rfl (ld g 0 rfl rfl rfl (ld g 17 rfl rfl rfl ?_)))⟩);refine use (QQ p.at_ s m g) ?_;rintro _ W ⟨rfl,r⟩;refine⟨rfl,_,rfl,ld r 0 rfl rfl rfl (use (Gp.vq (by show Kc.Good T.bX;rw[l];exact G) id (r.fr 9 rfl)) ?_)⟩;rintro _ M ⟨rfl,i⟩;have i:=i.put (q:=9) rfl;have i:Sep E (cg A {T with fr:=T.fr.dv p.at_ (S.chain p.owner),bX:=(jj T.bX id).1} ++bw j 1 (bD (S.chain p.owner))::bC b p.vs::L) M:=i;refine⟨_,rfl,Dr.i i (λR a=>⟨_,rfl,ld a 0 rfl rfl rfl ⟨_,rfl,ld a 0 rfl rfl rfl (ld a 17 rfl rfl rfl (use (aJL (a.fr 10 rfl) p.owner) ?_))⟩⟩)⟩;rintro _ B ⟨rfl,c⟩;have c:=c.put (q:=10) rfl;have c:Sep E (cg A {T with fr:=T.fr.dv p.at_ (S.chain p.owner),bX:=(jj T.bX id).1,log:=(dK T.log p.owner).1} ++bw j 1 (bD (S.chain p.owner))::bC b p.vs::L) B:=c;refine⟨_,rfl,ld c 0 rfl rfl rfl ⟨rfl,nJ.Ei (c.fr 12 rfl) (aJv _ _) (λU k=>?_)⟩⟩;have k:=k.put (q:=12) rfl;exact⟨rfl,Sep.cut (Sep.cut (Q:=cg A (T.leave id p (S.chain p.owner))) k)⟩
def QT(id:Int)(h:Sep E (cg A S++L) w):Calls P BR #[Pb A.c,Iv id] w
  (cY E (.tuple #[Iv (S.here id).1,.bool (S.here id).2]) (cg A S++L)):=by
 apply WG;unfold K5 qL qU qV qX qZ;refine⟨_,rfl,ld h 0 rfl rfl rfl (use (Tp.oS id (h.fr 11 rfl)) ?_)⟩;rintro _ g ⟨rfl,h1⟩;have h1:Sep E (cg A S++L) g:=h1.put (q:=11) rfl;obtain⟨p,hp⟩:∃p,(S.bt.get id)=p:=⟨_,rfl⟩
 have f:S.here id=(p.1.at_,p.2==0&&p.1.place==1):=by unfold Cs.here;rw[hp]
 rw[hp,f];refine⟨_,_,_,_,_,_,_,_,_,_,rfl,Al.i h1 (λb w2 h2=>ew (vs:=p.1.vs) _ h2 rfl (λi c=>?_))⟩;have c:Sep E (cg A S++bC b p.1.vs::L) i:=Sep.e4 c;refine Dr.i c (λj a=>ld a 16 rfl rfl rfl (eX (λe=>ld a 16 rfl rfl rfl ⟨?_,a.cut⟩) (λd=>⟨?_,a.cut⟩)));·rw[e];simp
 ·rw[show(p.2==0)=false by simpa using d];simp
def QU(id at_ g:Int)(t:bA UInt8)(dY:Bool)(G:Kc.Good S.bX)(h:Sep E (cg A S++L) w):Calls P CC #[Pb A.c,Iv id,Iv at_,Iv g,hE t,.bool dY] w
  (cY E (.tuple #[]) (cg A (S.place id at_ g t dY)++L)):=by
 apply X8;unfold Mm qQ qZ;refine⟨_,rfl,ld h 0 rfl rfl rfl (use (Qx at_ _ (h.fr 3 rfl)) ?_)⟩;rintro _ c ⟨rfl,h1⟩;have h1:=h1.put (q:=3) rfl;have h1:Sep E (cg A {S with fr:={S.fr with dd:=(By.wr S.fr.bS.length S.fr.dd at_ t).1}} ++L) c:=h1;refine⟨_,rfl,_,rfl,ld h1 0 rfl rfl rfl (use (Tp.QD id g (h1.fr 11 rfl)) ?_)⟩;rintro _ w2 ⟨rfl,h2⟩;have h2:=h2.put (q:=11) rfl;have h2:Sep E (cg A {S with fr:={S.fr with dd:=(By.wr S.fr.bS.length S.fr.dd at_ t).1},bt:=(S.bt.own id g).1} ++L) w2:=h2;refine⟨_,rfl,_,rfl,ld h2 0 rfl rfl rfl (use (Tp.te id 1 at_ (h2.fr 11 rfl)) ?_)⟩;rintro _ d ⟨rfl,a⟩;have a:=a.put (q:=11) rfl;have a:Sep E (cg A {S with fr:={S.fr with dd:=(By.wr S.fr.bS.length S.fr.dd at_ t).1},bt:=((S.bt.own id g).1.put id 1 at_).1} ++L) d:=a;refine⟨_,rfl,_,rfl,ld a 0 rfl rfl rfl (use (Gp.DF G id g dY (a.fr 9 rfl)) ?_)⟩;rintro _ e ⟨rfl,b⟩;have b:=b.put (q:=9) rfl;exact⟨_,rfl,rfl,b⟩
def dZ(l:bA Bool):bA bE:=l.map Value.bool
@[simp] theorem aJC(l:bA Bool):(dZ l).length=l.length:=by simp[dZ]
@[simp] theorem QV(l:bA Bool)(i:Nat):(dZ l)[i]?=l[i]?.map Value.bool:=by simp[dZ]
def aKp(n:Nat):((List.range (((n:Nat):Int).toNat*1)).map λi=>(([Value.bool false]:bA bE).toArray)[i%([Value.bool false]:bA bE).length]!)=dZ (List.replicate n false):=by
 rw[dz,fM];apply hg;intro i;rw[eI,QV,od];by_cases a:i<n
 ·rw[m9 a,bL a];simp[Nat.mod_one]
 ·rw[g2 (by simpa using a),bJ a];rfl
def aFs{n:Nat}(hb:n<1000000)(h:Sep E L w){G:Sl->bg0}(k:∀s a,s.n=n->Sep E (bw s 1 (dZ (List.replicate n false))::L) a->G s a):
  ∃x:Sl,∃a,Sem.run P (Instr.makeSlice lP (Iv ((n:Nat):Int)) (Iv ((n:Nat):Int))) w=.ok (Sv x) a/\G x a:=by
 refine makeSlice.i h (by kernel_rfl:hi P lP=some (1,1,[.bool false])) bu (g3 _) bu bu (λb a h1=>k _ a (by simp) ?_);rw[aKp]at h1;exact bw.make (spare:=[]) (by simpa using h1) (by simp) (by simp) (ep _)
def aKB{s:Sl}{l:bA Bool}{i:Int}{x:Bool}{F:bg0}(h:Sep E (bw s 1 (dZ l)::L) w)(hn:s.n=l.length)(d:0<=i)(h1:i<l.length)(k:∀c,Sep E (bw s 1 (dZ (l.set i.toNat x))::L) c->F c):cM s.p s.n i 1 λa=>St a (.bool x) F w:=by
 refine bw.el 0 h rfl d bu (λb hb _=>?_);rw[fM];refine bw.st h hb (by simp;omega) (λc h1=>k c ?_);have:dZ (l.set i.toNat x)=(dZ l).set i.toNat (.bool x):=by simp[dZ,hL]
 rw[this];exact h1
def vt{s:Sl}{l:bA Bool}{i:Int}{F:Bool->Prop}(q:Nat)(h:Sep E L w)(e:L[q]?=some (bw s 1 (dZ l)))(hn:s.n=l.length)(c:0<=i)(h1:i<l.length)(k:F (hy l i)):cM s.p s.n i 1 λa=>∃x:Bool,w.cell? a=some (.bool x)/\F x:=by
 refine bw.el q h e c bu (λb _ d=>⟨_,?_,k⟩);have:=d 0 bu;rw[k1]at this;rw[this,QV,fM,dL (show i.toNat<l.length by omega)];unfold hy;rw[dT,dL (show i.toNat<l.length by omega)];rfl
def QW:hi P xb=some (24,3,[Iv 0,Iv 0,Iv 0]):=by kernel_rfl
def aFw{s:Sl}{q:Nat}{l:bA eA}{x:eA}(hn:s.n=l.length)(hb:l.length<1000000)(h:Sep E (bC q x.vs::eo s l::L) w){G:Sl->bg0}(g:∀s' a,s'.n=l.length+1->Sep E (eo s' (l++[x])::L) a->G s' a):
  ∃d:Sl,∃a,Sem.run P (Builtin.append_ #[xb,xb] xb #[Sv s,.slice (some ⟨q,0,none⟩) 1 1]) w=.ok (Sv d) a/\G d a:=by
 have e:=Src.bC (n:=1) (c:=1) h (i:=0) rfl QW rfl (λu hu=>by simp[eA.vs]at hu;rcases hu with rfl|rfl|rfl<;>rfl);refine bw.append h.swap QW rfl e bu (by rw[hn];omega) (λs' a b h1=>?_);refine g s' a (by rw[b,hn]) ?_;unfold eo;rw[m4,oL];exact(h1.fr 0 rfl).ro 2 [0] rfl
def Cs.tf(S:Cs)(own:eE->Int)(g:Nat):eA:=if S.live g then⟨((S.tree[g]?).map Kt.G.up).getD (-1),S.memory g,own (S.mV g)⟩else⟨((S.tree[g]?).map Kt.G.up).getD (-1),0,0⟩
def QX(own:eE->Int){k:Nat}(hk:k<S.guards.length):(S.nodes own)[k]?=some (Cs.tf S own k):=by
 unfold Cs.nodes Cs.tf;rw[eI,m9 hk];rfl
def Ej(own:eE->Int):(S.nodes own).length=S.guards.length:=by simp[Cs.nodes]
def vu(t:Int)(own:eE->Int):(S.held t own).length=S.guards.length:=by simp[Cs.held,Ej]
def aHd(t:Int)(own:eE->Int){k:Nat}(hk:k<S.guards.length):(S.held t own)[k]?=some (nt (S.nodes own) (mS (S.nodes own) t) t k):=by
 unfold Cs.held;simp only;rw[eI,m9 (by rw[Ej];exact hk)];rfl
def iL.open{s:Sl}{l:bA eE}(h:Sep E (iL s l::L) w):s.n=l.length/\Sep E (bw s 3 (bP eE.vs l)::L) w:=Sep.cG.1 h
def jq.open{s:Sl}{l:bA Kt.G}(h:Sep E (jq s l::L) w):s.n=l.length/\Sep E (bw s 1 (bD (l.map Kt.G.up))::L) w:=Sep.cG.1 h
def Ek(E:Env)(own:bE)(ec:eE->Int):Prop:=∀(L:cv) (x:eE) (w:bH),Sep E L w->eY P own #[.agg #[Iv x.min,Iv x.low,.bool x.whole]] w λe w'=>e=.returned (Iv (ec x))/\Sep E L w'
def QY:Ek E (.func (.func uI) #[] #[]) eE.min:=by
 intro L x w h;refine⟨uI,_,rfl,by kernel_rfl,?_⟩;refine use (K:=λv w'=>v=Iv x.min/\Sep E L w') (Wx _ _ _ (Al.i h (λb d h1=>⟨_,h1.cell 0,rfl,h1.tail⟩))) (λv w' ⟨c,a⟩=>⟨by rw[c],a⟩)
def QZ:Ek E (.func (.func uJ) #[] #[]) eE.low:=by
 intro L x w h;refine⟨uJ,_,rfl,by kernel_rfl,?_⟩;refine use (K:=λv w'=>v=Iv x.low/\Sep E L w') (Wy _ _ _ (Al.i h (λb d h1=>⟨_,h1.cell 1,rfl,h1.tail⟩))) (λv w' ⟨c,a⟩=>⟨by rw[c],a⟩)
def yy{t:Int}{own:bE}{ec:eE->Int}(K:Ek E own ec)(an:S.guards.length=S.tree.length)(aj:S.guards.length<=64)(hu:∀g,S.memory g<2147483648)(h:Sep E (cg A S++L) w):
  Calls P q8 #[Pb A.c,Iv t,own] w (cA λv w'=>∃e:Sl,v=Sv e/\e.n=(S.held t ec).length/\Sep E (cg A S++bw e 1 (dZ (S.held t ec))::L) w'):=by
 apply Ww;unfold KX qD qF qJ qK qO qQ qU qW qZ qa qf qg qi ql qx;have R:=(iL.open (h.fr 13 rfl)).1;have Z:=(jq.open (h.fr 14 rfl)).1;have B:=Ej (S:=S) ec;refine⟨_,rfl,A.gs,h.cellAt 0 rfl 12,?_⟩;refine⟨λs i w'=>∃k:Nat,i=k/\k<=S.guards.length/\s.n=k/\Sep E (cg A S++eo s ((S.nodes ec).take k)::L) w',λ_ i _=>(S.guards.length-i).toNat,⟨0,rfl,e7 _,rfl,Sep.e4 (bw.none_ h)⟩,?_⟩;rintro _ s _ al ⟨k,rfl,hk,ao,h1⟩;refine cX (λW=>?_) (λO=>?_)
 ·have c:k<S.guards.length:=by omega
  obtain⟨x,hx⟩:∃x,S.guards[k]?=some x:=⟨_,dL c⟩
  obtain⟨y,M⟩:∃y,S.tree[k]?=some y:=⟨_,dN⟩
  have ak:S.mV (k:Int)=x:=by unfold Cs.mV;rw[dz,dT,hx];rfl
  obtain⟨m,z⟩:∃m,Cs.tf S ec k=m:=⟨_,rfl⟩
  refine lR eE.mx 0 (iL.open (h1.fr 13 rfl)).2 rfl R rfl hx (λb _ H=>⟨x.min,by rw[cj];exact H 0 _ rfl,x.low,by rw[cj];exact H 1 _ rfl,x.whole,by rw[cj];exact H 2 _ rfl,?_⟩);refine Al.i h1 (λl w2 h2=>ew (vs:=eE.vs x) _ h2 rfl (λad d=>?_));have d:Sep E (cg A S++bC l (eE.vs x)::eo s ((S.nodes ec).take k)::L) ad:=Sep.e4 d;refine⟨_,rfl,A.us,d.cellAt 0 rfl 13,?_⟩;refine(Ints.at_ (q:=0) rfl (by simpa using Z)).el (jq.open (d.fr 14 rfl)).2 k rfl (by rw[eI,M];rfl) ?_;refine Al.i d (λp am u=>ew (vs:=[Iv y.up,Iv 0,Iv 0]) _ u rfl (λae f=>?_));have f:Sep E (cg A S++bC p [Iv y.up,Iv 0,Iv 0]::bC l (eE.vs x)::eo s ((S.nodes ec).take k)::L) ae:=Sep.e4 f;refine⟨λw'=>Sep E (cg A S++bC p m.vs::bC l (eE.vs x)::eo s ((S.nodes ec).take k)::L) w',⟨_,rfl,ld f 0 rfl rfl rfl (use (kB f (q:=1) rfl) ?_)⟩,?_⟩
  ·rintro _ _ ⟨rfl,rfl⟩;refine⟨_,rfl,cw (λhl=>?_) (λhl=>?_)⟩
   ·refine Dr.i f (λaf a=>ld a 17 rfl rfl rfl (ld a 17 rfl rfl rfl (ld a 17 rfl rfl rfl (use (Eh _ a) ?_))));rintro _ ag ⟨rfl,j⟩;refine⟨_,rfl,ld j 17 rfl rfl rfl (ld j 17 rfl rfl rfl (ld j 17 rfl rfl rfl ⟨rfl,eY.use (K _ x _ j) ?_⟩))⟩;rintro e ah ⟨rfl,r⟩;have r:Sep E (bC p [Iv y.up,Iv 0,Iv 0]::(cg A S++bC l (eE.vs x)::eo s ((S.nodes ec).take k)::L)) ah:=r.mB;refine⟨_,rfl,St.i r (by simp) (λaq ai=>St.i ai (by simp) (λap N=>?_))⟩;have e:m=⟨y.up,S.memory k,ec x⟩:=by
     rw[<- z];unfold Cs.tf;rw[bL (show S.live k=true from hl),M,ak];rfl
    rw[e];exact Sep.e4 N
   ·have e:m=⟨y.up,0,0⟩:=by
     rw[<- z];unfold Cs.tf;rw[bJ (by rw[show S.live k=false from hl];decide),M];rfl
    rw[e];exact f
  ·intro _ af a;refine ld a 16 rfl rfl rfl (ld a 16 rfl rfl rfl (ld a 16 rfl rfl rfl (Al.i a (λab ag j=>?_))));have j:Sep E (bC ab m.vs::eo s ((S.nodes ec).take k)::(cg A S++bC p m.vs::bC l (eE.vs x)::L)) ag:=(j.fr 19 rfl).swap;refine aFw (by rw[hJ,B];omega) (by rw[hJ,B];omega) j (λs' ah Y r=>?_);have F:=QX (S:=S) ec c;rw[z]at F;rw[<- fL F]at r;rw[de];refine⟨⟨k+1,rfl,c,by rw[Y,hJ,B];omega,Sep.e4 (Sep.cut (Q:=eo s' ((S.nodes ec).take (k+1))::cg A S) (Sep.cut (Q:=eo s' ((S.nodes ec).take (k+1))::cg A S) r))⟩,?_⟩;show(((S.guards.length:Nat):Int)-((k+1:Nat):Int)).toNat<(((S.guards.length:Nat):Int)-(k:Int)).toNat;omega
 ·have V:k=(S.nodes ec).length:=by omega
  rw[V,gg]at h1;have h1:Sep E (eo s (S.nodes ec)::(cg A S++L)) al:=h1.mB;have I:=bw.cap h1;refine use (aBN bu bu I (λx hx=>?_) h1) ?_
  ·obtain⟨i,J⟩:=pW.1 hx;have U:i<S.guards.length:=by have:=(c4.1 J).1;omega
   rw[QX ec U]at J;cases J;unfold Cs.tf;split;·exact hu _
   ·show(0:Int)<2147483648;decide
  rintro _ w2 ⟨e,rfl,he,h2⟩;refine⟨e,rfl,?_⟩;refine aFs (n:=s.n) bu h2 (λaa ad C d=>?_);have X:s.n=S.guards.length:=by omega
  rw[X]at d C;have o:=vu (S:=S) t ec;refine⟨λx w'=>∃k:Nat,x=k/\k<=S.guards.length/\Sep E (eo s (S.nodes ec)::bw e 1 (bD (mS (S.nodes ec) t))::bw aa 1 (dZ ((S.held t ec).take k++List.replicate (S.guards.length-k) false))::(cg A S++L)) w',
   λx _=>(S.guards.length-x).toNat,⟨0,rfl,e7 _,d.ro 3 [2,1,0] rfl⟩,?_⟩
  rintro _ _ am ⟨k,rfl,hk,u⟩;refine cX (λW=>?_) (λO=>?_)
  ·have c:k<S.guards.length:=by omega
   refine use (aJG bu he bu u) ?_;rintro _ ae ⟨rfl,f⟩;have T:=aHd (S:=S) t ec c;have D:((S.held t ec).take k++List.replicate (S.guards.length-k) false).length=S.guards.length:=by simp[o];omega
   refine⟨_,rfl,aKB (f.fr 2 rfl) (by rw[D];exact C) bu (by rw[D];omega) (λaf a=>?_)⟩;have G:((S.held t ec).take k++List.replicate (S.guards.length-k) false).set ((k:Nat):Int).toNat (nt (S.nodes ec) (mS (S.nodes ec) t) t k)=(S.held t ec).take (k+1)++List.replicate (S.guards.length-(k+1)) false:=by
    rw[dz,fL T,ju k _ (by simp;omega),dm];congr 1;rw[hJ,o,o5 hk,jd,show S.guards.length-k=(S.guards.length-(k+1))+1 by omega,oe];rfl
   rw[G]at a;rw[de];refine⟨⟨k+1,rfl,c,a.ro 3 [1,2,0] rfl⟩,?_⟩;show(((S.guards.length:Nat):Int)-((k+1:Nat):Int)).toNat<(((S.guards.length:Nat):Int)-(k:Int)).toNat;omega
  ·have:k=S.guards.length:=by omega
   subst this;rw[jd,<- o,gg,F0,hs]at u;exact⟨aa,rfl,by rw[o];exact C,Sep.e4 u.tail.tail⟩
end Go.Mp
namespace Go.Mp
open Go Go.Vc
def vv(id:Nat):Code->bW (cb Oper)
 |.region i ops _=>bif Nat.beq i id then some ops else none
 |.seq x y=>match vv id x with
  |some o=>some o
  |none=>vv id y
 |_=>none
def vw:dO:={fork:=λr=>[3].contains r,join:=λr=>(bif r==4 then some [(9,.ptr),(10,.ptr)]else none)}
noncomputable def yz:cb Oper:=((f128.body.bind (vv 3)).getD #[])
def Q0(c:ch)(target:Int)(a:Sl)(all:Bool)(K:bg1)(w:bH):Prop:=
 Al (.cells #[(Pv c)] 28) (λf w2=>∃o,w2.cell? f=some (Pv o)/\NN o λa4=>∃p,w2.cell? (a4.add 0)=some (Pv p)/\
  Calls P j8 #[(Pv p),(Iv target)] w2 λD B=>∃i,D=.returned (.bool i)/\bif(!i)then(K aN2 B)else(∃q:bW
  Addr->ch->bg0,(Dr (λv=>gR P fF gL cz vw yz (mO (ng [(9,.ptr),(10,.ptr)] q) (oy P fF [.tmp 8] K
  (λ_ _=>False))) yz.size (Array.replicate yz.size false) ((((((((((jg [(Pv c),(Iv target),(.slice a.p a.n
  a.c),(.bool all)] 0 .nil).put (some 4) (Pv (some f))).put (some 8) (.bool false)).put (some 13) (Pv o)).put (some 14) (Pv (some a4))).put (some 15)
  (Pv (some (a4.add 0)))).put (some 16) (Pv p)).put (some 17) (Iv target)).put (some 18) (.bool i)).put (some 19) (.bool (!i))) v) B)/\(∀C:Nat->
  bE,∀b:ch,∀d:ch,∀e:bH,q b d e->∃j,e.cell? f=some (Pv j)/\NN j λr=>∃k:
  ch,e.cell? (r.add 8)=some (Pv k)/\Calls P I4 #[(Pv k),(Sv a)] e λs x=>∃l:Sl,s
  =.returned (Sv l)/\Al (.cells #[(aN8)] 22) (λg y=>St g (Sv l) (λz=>Calls P Ce #[(.func
  (.func I6) #[] #[(Pv b),(Pv d)]),(Pv (some g)),(Pv (some f))] z λt h=>∃m:Bool,t=.returned (.bool
  m)/\bif m then(K aN3 h)else(bif all then(Calls P Ce #[(.func (.func I7) #[] #[(Pv b)]),(Pv (some g)),
  (Pv (some f))] h λu A=>∃n,u=.returned (.bool n)/\K (.bool n) A)else(K aN2 h))) y) x))) w
def as8(c:ch)(target:Int)(a:Sl)(all:Bool)(K:bg1)(w:bH):km P fF gL cz vw f128 #[(.pointer c),(.int .i64 target),(.slice a.p a.n a.c),(.bool all)] K (λ_ _=>False) w=Q0 c target a all K w:=by kernel_rfl
def asA:k5 P vw f128 4=true:=by kernel_rfl
def arV(c:ch)(target:Int)(a:Sl)(all:Bool){K:bg1}{w:bH}(h:Q0 c target a all K w):Calls P xE #[(Pv c),(Iv target),(Sv a),(.bool all)] w (cA K):=AK mixed func128 asA (by rw[as8];exact h)
end Go.Mp
namespace Go.Vc
open Go
section
variable{P:cP}{τ:cf->K1}{ρ:cf->Kd}{cz:bg7->Bool}{A:dO}
def Q1{f:Nat->Prop}:∀ {l:bA Nat},(∀i∈l,f i)->tW f l
 |[],_=>trivial
 |_::_,h=>⟨h _ (fz ..),Q1 (λi a=>h i (fT _ a))⟩
def yA{ops:cb Oper}{listed:cb Bool}{i:Nat}(h:i∈Region.ready .any ops listed):i<ops.size/\listed.getD i true=false/\
  ∀o,ops[i]?=some o->∀e∈o.after.toList,Region.binds .any e=true->listed.getD e.on false=true:=by
 unfold Region.ready at h;rw[gq,fV]at h;obtain⟨h1,h2⟩:=h;simp only[dA,h9]at h2;refine⟨h1,h2.1,λo ho e he hb=>?_⟩;have a:=h2.2;rw[ho]at a;simp only[gh,mH]at a;rw[<- Array.all_toList]at a;have:=fS.1 a e he;rw[hb]at this;simpa using this
def tg(ops:cb Oper):Bool:=(List.range ops.size).all λi=>match ops[i]? with
 |some o=>o.after.toList.all λe=>Nat.blt e.on i
 |none=>true
def Q2{ops:cb Oper}{listed:cb Bool}(hb:tg ops=true)(hr:Region.ready .any ops listed= []):∀i,i<ops.size->listed.getD i true=true:=by
 intro i;induction i using Nat.strongRecOn with
 |_ i f=>
  intro a;cases hl:listed.getD i true with
  |true=>rfl
  |false=>
   exfalso;have ho:ops[i]?=some ops[i]:=oc a;have hm:i∈Region.ready .any ops listed:=by
    unfold Region.ready;rw[gq,fV];refine⟨a,?_⟩;rw[hl,ho];simp only[Bool.not_false,l4,gh,mH];rw[<- Array.all_toList,fS];intro e he;have d:e.on<i:=by
     unfold tg at hb;have:=fS.1 hb i (fV.2 a);rw[ho]at this;exact Te (fS.1 this e he)
    have h1:=f e.on d bu;have h2:listed.getD e.on false=true:=by
     rw[iQ]at h1 ⊢;cases c:listed[e.on]? with
     |some b=>rw[c]at h1;simpa using h1
     |none=>
      exfalso;have g:listed.size<=e.on:=Array.getElem?_eq_none_iff.1 c;rw[iQ,vW bu]at hl;cases hl
    rw[h2];simp
   rw[hr]at hm;cases hm
def mC(n:Nat)(listed:cb Bool):Nat:=((List.range n).filter λj=> !listed.getD j true).length
def filter_lt{p q:Nat->Bool}:∀ {l:bA Nat} {i:Nat},(∀x,q x=true->p x=true)->i∈l->p i=true->q i=false->(l.filter q).length<(l.filter p).length
 |[],_,_,h,_,_=>by cases h
 |x::l,i,a,c,hp,d=>by
  have hle:∀l:bA Nat,(l.filter q).length<=(l.filter p).length:=by
   intro l;induction l with
   |nil=>simp
   |cons y l b=>
    rw[jD,jD];split;·next h=>rw[bL (a _ h)];simpa using b
    ·split;·simp;omega
     ·exact b
  rw[jD,jD];rcases ey.1 c with rfl|c
  ·rw[bJ (by rw[d];simp),bL hp];have:=hle l;simp;omega
  ·have b:=filter_lt a c hp d;split;·next h=>rw[bL (a _ h)];simpa using b
   ·split;·simp;omega
    ·exact b
def Q3{n i:Nat}{listed:cb Bool}(a:i<n)(b:listed.size=n)(h:listed.getD i true=false):mC n (listed.setIfInBounds i true)<mC n listed:=by
 unfold mC;refine filter_lt (p:=λj=> !listed.getD j true) (q:=λj=> !(listed.setIfInBounds i true).getD j true) (i:=i) (λx hx=>?_) (fV.2 a) (by simp only[h];rfl) ?_
 ·by_cases e:x=i;·subst e;simp only[h];rfl
  ·have:(listed.setIfInBounds i true).getD x true=listed.getD x true:=by
    rw[iQ,iQ,S8 (nc e)]
   simp only[this]at hx;exact hx
 ·have:(listed.setIfInBounds i true).getD i true=true:=by
   rw[iQ,S7 bu];rfl
  simp only[this];rfl
def Q4{ops:cb Oper}{Q:Exit->Tr->bg0}(J:cb Bool->Tr->bg0)(step:∀listed T w i o,listed.size=ops.size->J listed T w->i∈Region.ready .any ops listed->ops[i]?=some o->∀next:Tr->bg0,(∀T' w',J (listed.setIfInBounds i true) T' w'->next T' w')->
   kj ops o T (λT=>nf P τ ρ cz A o T w next Q) (λT=>next (T.put o.dst undef) w))(fin:∀listed T w,J listed T w->Region.ready .any ops listed= []->Q .normal T w):
  ∀(fuel:Nat) (listed:cb Bool) (T:Tr) (w:bH),listed.size=ops.size->mC ops.size listed<=fuel->J listed T w->gR P τ ρ cz A ops Q fuel listed T w:=by
 intro fuel;induction fuel with
 |zero=>
  intro listed T w a hu b;unfold gR;split;·next e=>exact fin _ _ _ b e
  ·next e=>
   cases hr:Region.ready .any ops listed with
   |nil=>exact absurd hr e
   |cons i l=>
    have hm:i∈Region.ready .any ops listed:=by rw[hr];exact fz ..
    obtain⟨h1,h2,_⟩:=yA hm;have:=Q3 h1 a h2;omega
 |succ fuel g=>
  intro listed T w a hu b;unfold gR;split;·next e=>exact fin _ _ _ b e
  ·next i0 h e=>
   refine Q1 (λi c=>?_);rw[<- e]at c;obtain⟨h1,h2,_⟩:=yA c;have ho:ops[i]?=some ops[i]:=oc h1;rw[ho];have f:=Q3 h1 a h2;exact step listed T w i ops[i] a b c ho _ (λT' w' d=>g _ _ _ (by simpa using a) bu d)
end
end Go.Vc
namespace Go.Vc
open Go Go.Sp
section
variable{P:cP}{τ:cf->K1}{ρ:cf->Kd}{cz:bg7->Bool}{A:dO}
def e5(ops:cb Oper)(i:Nat):Nat:=match ops[i]? with|some o=>o.dst.getD 0|none=>0
def ec(ops:cb Oper):Bool:=
 tg ops&&((List.range ops.size).all λi=>match ops[i]? with
  |some o=>o.guard.isNone&&o.dst.isSome&&Nat.blt (o.dst.getD 0) 8000&&(List.range i).all λj=> !(Nat.beq (e5 ops j) (e5 ops i))
  |none=>false)
def oT{ops:cb Oper}(h:ec ops=true):tg ops=true/\(∀i o,ops[i]?=some o->o.guard=none/\o.dst=some (e5 ops i)/\e5 ops i<8000)/\∀i j,i<ops.size->j<ops.size->i≠j->e5 ops i≠e5 ops j:=by
 unfold ec at h;rw[dA]at h;obtain⟨h1,h2⟩:=h;have g:∀i o,ops[i]?=some o->o.guard=none/\o.dst=some (e5 ops i)/\e5 ops i<8000/\∀j,j<i->e5 ops j≠e5 ops i:=by
  intro i o ho;have k:i<ops.size:=(oZ.1 ho).1;have:=fS.1 h2 i (fV.2 k);rw[ho]at this;simp only[dA,fS,h9]at this;obtain⟨⟨⟨a,b⟩,c⟩,d⟩:=this;obtain⟨n,f⟩:=kJ.1 b;have e:e5 ops i=n:=by unfold e5;rw[ho];simp[f]
  refine⟨Tb.1 a,by rw[f,e],?_,λj l p=>?_⟩;·rw[f]at c;rw[e];simpa using c
  ·have:=d j (fV.2 l);rw[p]at this;simp at this
 refine⟨h1,λi o ho=>let ⟨a,b,c,_⟩:=g i o ho;⟨a,b,c⟩,λi j k l m=>?_⟩;rcases Nat.lt_or_gt_of_ne m with h' | h';·exact(g j ops[j] (oc l)).2.2.2 i h'
 ·exact λe=>(g i ops[i] (oc k)).2.2.2 j h' e.symm
def h5{α:Type}{f f':Nat->bA α}{i:Nat}{X:bA α}:∀ {l:bA Nat},l.Nodup->i∈l->f i= []->f' i=X->(∀j∈l,j≠i->f' j=f j)->(X++l.flatMap f).Perm (l.flatMap f')
 |[],_,d,_,_,_=>by cases d
 |a::l,r,d,n,o,hr=>by
  rw[nN,nN];obtain⟨q,g⟩:=rJ.1 r;by_cases e:a=i
  ·subst e;rw[n,o,l3];have:l.flatMap f'=l.flatMap f:=by
    have:∀ {m:bA Nat},(∀j∈m,f' j=f j)->m.flatMap f'=m.flatMap f:=by
     intro m hm;induction m with
     |nil=>rfl
     |cons b m k=>rw[nN,nN,hm b (fz ..),k (λj c=>hm j (fT _ c))]
    exact this (λj c=>hr j (fT _ c) (λe=>q (e▸c)))
   rw[this]
  ·rw[hr a (fz ..) e];have p:i∈l:=by
    rcases ey.1 d with h|h;·exact absurd h.symm e
    ·exact h
   have k:=h5 g p n o (λj c=>hr j (fT _ c));refine List.Perm.trans ?_ (o0 (f a) k);rw[<- dm,<- dm];exact rF _ lZ
def pieces(ops:cb Oper)(a:Nat->Tr->cv)(listed:cb Bool)(T:Tr):cv:=
 (List.range ops.size).flatMap λi=>if listed.getD i true=true then a i T else[]
def waits(ops:cb Oper)(i j:Nat):Prop:=∃o,ops[i]?=some o/\∃e∈o.after.toList,Region.binds .any e=true/\e.on=j
def aHO{ops:cb Oper}{Q:Exit->Tr->bg0}{E:Env}{L:cv}(p:Tr->Prop)(F:Nat->Tr->Prop)(g:Nat->Tr->cv)(J:ec ops=true)(D:∀T i v,i<ops.size->p T->p (T.put (some (e5 ops i)) v))(V:∀i j T v,i<ops.size->j<ops.size->i≠j->¬ waits ops i j->F i T->F i (T.put (some (e5 ops j)) v))(G:∀i j T v,i<ops.size->j<ops.size->i≠j->¬ waits ops i j->g i (T.put (some (e5 ops j)) v)=g i T)(step:∀T w i o R,p T->ops[i]?=some o->(∀e∈o.after.toList,Region.binds .any e=true->F e.on T)->Sep E (R++L) w->
   ∀next:Tr->bg0,(∀v w',F i (T.put (some (e5 ops i)) v)->Sep E (g i (T.put (some (e5 ops i)) v)++(R++L)) w'->next (T.put (some (e5 ops i)) v) w')->nf P τ ρ cz A o T w next Q)(fin:∀T w M,p T->(∀i,i<ops.size->F i T)->Sep E (M++L) w->M.Perm ((List.range ops.size).flatMap λi=>g i T)->Q .normal T w){T:Tr}{w:bH}(S:p T)(W:Sep E L w):gR P τ ρ cz A ops Q ops.size (Array.replicate ops.size false) T w:=by
 obtain⟨hb,I,ab⟩:=oT J;have z:∀ {i:Nat} {o:Oper} {e},i<ops.size->ops[i]?=some o->e∈o.after.toList->e.on<i:=by
  intro i o e c ho he;unfold tg at hb;have:=fS.1 hb i (fV.2 c);rw[ho]at this;exact Te (fS.1 this e he)
 have O:∀ {listed:cb Bool} {j:Nat},listed.getD j false=true->listed.getD j true=true:=by
  intro listed j h;rw[iQ]at h ⊢;cases U:listed[j]? with
  |some b=>rw[U]at h;simpa using h
  |none=>rfl
 refine Q4 (λlisted T w=>listed.size=ops.size/\p T/\(∀i,i<ops.size->listed.getD i true=true->F i T)/\(∀i j,i<ops.size->listed.getD i true=true->waits ops i j->listed.getD j true=true)/\
  ∃M,Sep E (M++L) w/\M.Perm (pieces ops g listed T)) ?_ ?_ ops.size _ T w (by simp) ?_ ?_
 ·rintro listed T w i o K ⟨_,hx,n,s,M,B,hp⟩ f ho next hn
  obtain⟨c,x,t⟩:=yA f;obtain⟨X,ad,Z⟩:=I i o ho;unfold kj;rw[X];dsimp only;refine step T w i o M hx ho (λe he r=>?_) B next (λv w' Y H=>?_)
  ·have aa:=z c ho he;exact n e.on bu (O (t o ho e he r))
  ·have d:∀j,j<ops.size->(listed.setIfInBounds i true).getD j true=if j=i then true else listed.getD j true:=by
    intro j a;rw[iQ,iQ];by_cases e:j=i;·subst e;rw[bL rfl,S7 bu];rfl
    ·rw[bJ e,S8 (nc e)]
   have N:∀j k,waits ops j k->k<ops.size:=by
    rintro j k ⟨o',l,e,he,_,rfl⟩;have a:=(oZ.1 l).1;have:=z a l he;omega
   refine hn _ _ ⟨by simpa using K,D _ _ _ c hx,λj a hl=>?_,λj k a hl hw=>?_,g i (T.put (some (e5 ops i)) v)++M,by rw[dm];exact H,?_⟩
   ·by_cases e:j=i;·subst e;exact Y
    ·rw[d j a,bJ e]at hl;refine V j i T v a c e (λhw=>?_) (n j a hl);have:=s j i a hl hw;rw[x]at this;cases this
   ·have hk:=N j k hw;rw[d k hk];by_cases e:j=i
    ·subst e;obtain⟨o',l,e,he,r,rfl⟩:=hw;rw[ho]at l;cases l;split;·rfl
     ·exact O (t o ho e he r)
    ·rw[d j a,bJ e]at hl;split;·rfl
     ·exact s j k a hl hw
   ·refine(o0 _ hp).trans ?_;unfold pieces;refine h5 List.nodup_range (fV.2 c) ?_ ?_ (λj a y=>?_);·rw[x];rfl
    ·rw[d i c,bL rfl,bL rfl]
    ·have u:=fV.1 a;rw[d j u,bJ y];split;·next hl=>exact G j i T v u c y (λhw=>by have:=s j i u hl hw;rw[x]at this;cases this)
     ·rfl
 ·rintro listed T w ⟨K,hx,n,_,M,B,hp⟩ hr;have q:=Q2 hb hr;refine fin T w M hx (λi f=>n i f (q i f)) B (hp.trans ?_);unfold pieces;have:∀ {m:bA Nat},(∀j∈m,j<ops.size)->(m.flatMap λi=>if listed.getD i true=true then g i T else[])=m.flatMap λi=>g i T:=by
   intro m hm;induction m with
   |nil=>rfl
   |cons b m C=>rw[nN,nN,C (λj a=>hm j (fT _ a)),bL (q b (hm b (fz ..)))]
  rw[this (λj a=>fV.1 a)]
 ·unfold mC;exact mJ (l0 _ _) (by rw[Gc];exact ep _)
 ·have no:∀i,i<ops.size->(Array.replicate ops.size false).getD i true=false:=by
   intro i f;rw[iQ,Tc,bL f];rfl
  refine⟨by simp,S,λi f hl=>?_,λi j f hl=>?_,[],W,?_⟩;·rw[no i f]at hl;cases hl
  ·rw[no i f]at hl;cases hl
  ·unfold pieces;have:∀ {m:bA Nat},(∀j∈m,j<ops.size)->(m.flatMap λi=>if(Array.replicate ops.size false).getD i true=true then g i T else[])= []:=by
    intro m hm;induction m with
    |nil=>rfl
    |cons b m C=>
     rw[nN,C (λj a=>hm j (fT _ a)),no b (hm b (fz ..))];rfl
   rw[this (λj a=>fV.1 a)]
end
end Go.Vc
namespace Go.Mp
open Go Go.Vc Go.Sp Go.Proofs Go.Kc
variable{E:Env}{L:cv}{w:bH}{A:At}{S:Cs}
noncomputable abbrev kG:cb Oper:=yz
def aKL:Oper:={dst:=none,op:=.assign (.const (.pointer none)),type:=0,pos:= "",after:= #[],guard:=none}
noncomputable def yB(i:Nat):Oper:=(kG[i]?).getD aKL
def yC:kG.size=10:=by kernel_rfl
def aJz:tg kG=true:=by decide+kernel
def aI1:((List.range 10).all λi=>(yB i).guard.isNone)=true:=by decide+kernel
section
variable(T:Tr)(next:Tr->bg0)(Q:Exit->Tr->bg0)
abbrev jr(i:Nat):=nf P fF gL cz vw (yB i) T w next Q
def El:jr (w:=w) T next Q 0=pb P (fF sj) sj (T.get 4) w (λv=>next (T.put (some 20) v) w):=by kernel_rfl
def Em:jr (w:=w) T next Q 1=next (T.put (some 21) (T.get 1)) w:=by kernel_rfl
def Eo:jr (w:=w) T next Q 2=Calls P q8 #[T.get 20,T.get 21,.func (.func uI) #[] #[]] w λe w'=>∃x:Sl,e=.returned (Sv x)/\next (T.put (some 22) (Sv x)) w':=by kernel_rfl
def Ep:jr (w:=w) T next Q 3=pb P (fF sj) sj (T.get 4) w (λv=>next (T.put (some 23) v) w):=by kernel_rfl
def Er:jr (w:=w) T next Q 4=next (T.put (some 24) (T.get 1)) w:=by kernel_rfl
def Es:jr (w:=w) T next Q 5=Calls P q8 #[T.get 23,T.get 24,.func (.func uJ) #[] #[]] w λe w'=>∃x:Sl,e=.returned (Sv x)/\next (T.put (some 25) (Sv x)) w':=by kernel_rfl
def Et:jr (w:=w) T next Q 6=Al (.cells #[aN8] lP) (λq=>next (T.put (some 9) (.pointer (some q)))) w:=by kernel_rfl
def Eu:jr (w:=w) T next Q 7=Al (.cells #[aN8] lP) (λq=>next (T.put (some 10) (.pointer (some q)))) w:=by kernel_rfl
def Ev:jr (w:=w) T next Q 8=rS P (fF lP) lP (T.get 9) (T.get 22) w (λw'=>next T w'):=by kernel_rfl
def Ew:jr (w:=w) T next Q 9=rS P (fF lP) lP (T.get 10) (T.get 25) w (λw'=>next T w'):=by kernel_rfl
end
def Q5(a:Addr)(f:bE->Prop):pb P (fF sj) sj (.pointer (some a)) w f=∃x:ch,w.cell? a=some (.pointer x)/\f (.pointer x):=by kernel_rfl
def Q6(a:Addr)(s:Sl)(f:bg0):rS P (fF lP) lP (.pointer (some a)) (Sv s) w f=St a (Sv s) f w:=by kernel_rfl
noncomputable def Q7(i j:Nat):Bool:=match kG[i]? with
 |some o=>o.after.toList.any λe=>Region.binds .any e&&Nat.beq e.on j
 |none=>false
def PA(f:Bool)(v:bE)(l:bA Bool):Asn:=bif f then(fe λs:Sl=>cG (v=Sv s/\s.n=l.length) (bw s 1 (dZ l)))else emp
def PB(f g:Bool)(v u:bE):Asn:=bif f then(fe λp:Nat=>cG (v=Pb p) (bC p [bif g then u else aN8]))else emp
structure JE(E:Env)(M:cv)(c bx:Nat)(t:Int)(mn lw:bA Bool)(b0 b1 b2 b3 b4 b5 b6 b7 b8 b9:Bool)(T:Tr)(w:bH):Prop where
 s1:T.get 1=Iv t
 s4:T.get 4=Pb bx
 Q8:b0=true->T.get 20=Pb c
 Q9:b1=true->T.get 21=Iv t
 Ra:b3=true->T.get 23=Pb c
 Rb:b4=true->T.get 24=Iv t
 d8:b8=true->b2=true/\b6=true
 d9:b9=true->b5=true/\b7=true
 sep:Sep E (PA b2 (T.get 22) mn::PA b5 (T.get 25) lw::PB b6 b8 (T.get 9) (T.get 22)::PB b7 b9 (T.get 10) (T.get 25)::M) w
def aKA{M:cv}{c bx:Nat}{t:Int}{mn lw:bA Bool}{J:ch->ch->bg0}{aj:Exit->Tr->bg0}{T:Tr}(V:∀ {R:cv} {w:bH},Sep E (R++M) w->w.cell? ⟨bx,0,none⟩=some (Pb c))(ah:∀ {R:cv} {w:bH},Sep E (R++M) w->Calls P q8 #[Pb c,Iv t,.func (.func uI) #[] #[]] w (cA λv w'=>∃e:Sl,v=Sv e/\e.n=mn.length/\Sep E (bw e 1 (dZ mn)::(R++M)) w'))(ag:∀ {R:cv} {w:bH},Sep E (R++M) w->Calls P q8 #[Pb c,Iv t,.func (.func uJ) #[] #[]] w (cA λv w'=>∃e:Sl,v=Sv e/\e.n=lw.length/\Sep E (bw e 1 (dZ lw)::(R++M)) w'))(h1:T.get 1=Iv t)(B:T.get 4=Pb bx)(h:Sep E M w)(k:∀(s1 s2:Sl) (p q:Nat) (w':bH),s1.n=mn.length->s2.n=lw.length->Sep E (bw s1 1 (dZ mn)::bw s2 1 (dZ lw)::bC p [Sv s1]::bC q [Sv s2]::M) w'->J (some ⟨p,0,none⟩) (some ⟨q,0,none⟩) w'):
  gR P fF gL cz vw kG (mO (ng [(9,.ptr),(10,.ptr)] J) aj) kG.size (Array.replicate kG.size false) T w:=by
 have g:∀(T:Tr) (d s:Nat) (v:bE),d<8000->(T.put (some d) v).get s=if s=d then v else T.get s:=λT d s v al=>Tr.dI _ _ _ _ al
 refine Q4 (λli T w=>li.size=10/\JE E M c bx t mn lw (li.getD 0 true) (li.getD 1 true) (li.getD 2 true) (li.getD 3 true) (li.getD 4 true) (li.getD 5 true) (li.getD 6 true) (li.getD 7 true) (li.getD 8 true) (li.getD 9 true) T w) ?_ ?_ _ _ _ _ (by simp) ?_ ?_
 ·rintro li T w i o f ⟨K,j⟩ F ho next hn
  obtain⟨I,x,H⟩:=yA F;rw[yC]at I;have W:yB i=o:=by unfold yB;rw[ho];rfl
  have am:o.guard=none:=by
   have:=fS.1 aI1 i (fV.2 I);rw[W]at this;exact Tb.1 this
  have an:∀ {j:Nat},li.getD j false=true->li.getD j true=true:=by
   intro j h;rw[iQ]at h ⊢;cases y:li[j]? with
   |some b=>rw[y]at h;simpa using h
   |none=>rfl
  have hw:∀j,Q7 i j=true->li.getD j true=true:=by
   intro j G;unfold Q7 at G;rw[ho]at G;obtain⟨e,he,hb⟩:=tC.1 G;rw[dA]at hb;have:=H o ho e he hb.1;rw[m7 hb.2]at this;exact an this
  have a:∀j,j<10->(li.setIfInBounds i true).getD j true=if j=i then true else li.getD j true:=by
   intro j G;rw[iQ,iQ];by_cases e:j=i;·subst e;rw[bL rfl,S7 bu];rfl
   ·rw[bJ e,S8 (nc e)]
  unfold kj;rw[am];dsimp only;have m:∀T' w',JE E M c bx t mn lw (if 0=i then true else li.getD 0 true) (if 1=i then true else li.getD 1 true) (if 2=i then true else li.getD 2 true) (if 3=i then true else li.getD 3 true) (if 4=i then true else li.getD 4 true)
    (if 5=i then true else li.getD 5 true) (if 6=i then true else li.getD 6 true) (if 7=i then true else li.getD 7 true) (if 8=i then true else li.getD 8 true) (if 9=i then true else li.getD 9 true) T' w'->next T' w':=by
   intro T' w' G;refine hn T' w' ⟨by simpa using K,?_⟩;rw[a 0 bN,a 1 bN,a 2 bN,a 3 bN,a 4 bN,a 5 bN,a 6 bN,a 7 bN,a 8 bN,a 9 bN];exact G
  clear hn a H F;subst W;generalize X:li.getD 0 true=b0 at*
  generalize Y:li.getD 1 true=b1 at*
  generalize O:li.getD 2 true=b2 at*
  generalize Z:li.getD 3 true=b3 at*
  generalize aa:li.getD 4 true=b4 at*
  generalize Q:li.getD 5 true=b5 at*
  generalize S:li.getD 6 true=b6 at*
  generalize U:li.getD 7 true=b7 at*
  generalize ab:li.getD 8 true=b8 at*
  generalize ad:li.getD 9 true=b9 at*
  obtain⟨s1,s4,Q8,Q9,Ra,Rb,d8,d9,l⟩:=j
  match i,I with
  |0,_=>
   refine(El T next _).mpr ?_;rw[s4,Q5];refine⟨_,V (R:=[_,_,_,_]) l,m _ _ ?_⟩;constructor<;>simp only[g _ _ _ _ (show(20:Nat)<8000 by decide),Nat.reduceEqDiff,o8,reduceCtorEq,gQ,gP]<;>first|assumption|(intro _;rfl)|(intro _;trivial)|skip
  |1,_=>
   refine(Em T next _).mpr ?_;rw[s1];refine m _ _ ?_;constructor<;>simp only[g _ _ _ _ (show(21:Nat)<8000 by decide),Nat.reduceEqDiff,o8,reduceCtorEq,gQ,gP]<;>first|assumption|(intro _;rfl)|(intro _;trivial)|skip
  |2,_=>
   refine(Eo T next _).mpr ?_;have t0:b0=true:=X.symm.trans (hw 0 (by decide+kernel));have t1:b1=true:=Y.symm.trans (hw 1 (by decide+kernel));have f2:b2=false:=O.symm.trans x;rw[Q8 t0,Q9 t1];subst f2;have f8:b8=false:=by cases b8 with|false=>rfl|true=>exact absurd (d8 rfl).1 bN
   subst f8;refine use (ah (R:=[_,_,_,_]) l) ?_;rintro _ r ⟨e,rfl,he,h1⟩;refine⟨e,rfl,m _ _ ?_⟩;constructor<;>simp only[g _ _ _ _ (show(22:Nat)<8000 by decide),Nat.reduceEqDiff,o8,reduceCtorEq,gQ,gP]<;>first|assumption|(intro C;cases C;done)|skip
   exact Sep.ex.2 ⟨e,Sep.cG.2 ⟨⟨rfl,he⟩,h1.ro 2 [0] rfl⟩⟩
  |3,_=>
   refine(Ep T next _).mpr ?_;rw[s4,Q5];refine⟨_,V (R:=[_,_,_,_]) l,m _ _ ?_⟩;constructor<;>simp only[g _ _ _ _ (show(23:Nat)<8000 by decide),Nat.reduceEqDiff,o8,reduceCtorEq,gQ,gP]<;>first|assumption|(intro _;rfl)|(intro _;trivial)|skip
  |4,_=>
   refine(Er T next _).mpr ?_;rw[s1];refine m _ _ ?_;constructor<;>simp only[g _ _ _ _ (show(24:Nat)<8000 by decide),Nat.reduceEqDiff,o8,reduceCtorEq,gQ,gP]<;>first|assumption|(intro _;rfl)|(intro _;trivial)|skip
  |5,_=>
   refine(Es T next _).mpr ?_;have t3:b3=true:=Z.symm.trans (hw 3 (by decide+kernel));have t4:b4=true:=aa.symm.trans (hw 4 (by decide+kernel));have f5:b5=false:=Q.symm.trans x;rw[Ra t3,Rb t4];subst f5;have f9:b9=false:=by cases b9 with|false=>rfl|true=>exact absurd (d9 rfl).1 bN
   subst f9;refine use (ag (R:=[_,_,_,_]) l) ?_;rintro _ r ⟨e,rfl,he,h1⟩;refine⟨e,rfl,m _ _ ?_⟩;constructor<;>simp only[g _ _ _ _ (show(25:Nat)<8000 by decide),Nat.reduceEqDiff,o8,reduceCtorEq,gQ,gP]<;>first|assumption|(intro C;cases C;done)|skip
   exact Sep.swap (Sep.ex.2 ⟨e,Sep.cG.2 ⟨⟨rfl,he⟩,h1.ro 3 [0,1] rfl⟩⟩)
  |6,_=>
   refine(Et T next _).mpr ?_;have f6:b6=false:=S.symm.trans x;subst f6;have f8:b8=false:=by cases b8 with|false=>rfl|true=>exact absurd (d8 rfl).2 bN
   subst f8;refine Al.i l (λp r h1=>m _ _ ?_);constructor<;>simp only[g _ _ _ _ (show(9:Nat)<8000 by decide),Nat.reduceEqDiff,o8,reduceCtorEq,gQ,gP]<;>first|assumption|(intro C;cases C;done)|skip
   have h2:Sep E (PB true false (Pb p) (T.get 22)::PA b2 (T.get 22) mn::PA b5 (T.get 25) lw::PB b7 b9 (T.get 10) (T.get 25)::M) r:=Sep.ex.2 ⟨p,Sep.cG.2 ⟨rfl,h1.ro 4 [0,1,2] rfl⟩⟩;exact h2.ro 3 [1,2,0] rfl
  |7,_=>
   refine(Eu T next _).mpr ?_;have f7:b7=false:=U.symm.trans x;subst f7;have f9:b9=false:=by cases b9 with|false=>rfl|true=>exact absurd (d9 rfl).2 bN
   subst f9;refine Al.i l (λp r h1=>m _ _ ?_);constructor<;>simp only[g _ _ _ _ (show(10:Nat)<8000 by decide),Nat.reduceEqDiff,o8,reduceCtorEq,gQ,gP]<;>first|assumption|(intro C;cases C;done)|skip
   have h2:Sep E (PB true false (Pb p) (T.get 25)::PA b2 (T.get 22) mn::PA b5 (T.get 25) lw::PB b6 b8 (T.get 9) (T.get 22)::M) r:=Sep.ex.2 ⟨p,Sep.cG.2 ⟨rfl,h1.ro 5 [0,1,2,3] rfl⟩⟩;exact h2.ro 4 [1,2,3,0] rfl
  |8,_=>
   refine(Ev T next _).mpr ?_;have t2:b2=true:=O.symm.trans (hw 2 (by decide+kernel));have t6:b6=true:=S.symm.trans (hw 6 (by decide+kernel));have f8:b8=false:=ab.symm.trans x;subst t2 t6 f8;obtain⟨s,f⟩:=Sep.ex.1 l;obtain⟨⟨z,L⟩,f⟩:=Sep.cG.1 f;have f:Sep E (PB true false (T.get 9) (T.get 22)::bw s 1 (dZ mn)::PA b5 (T.get 25) lw::PB b7 b9 (T.get 10) (T.get 25)::M) w:=f.fr 2 rfl;obtain⟨p,f⟩:=Sep.ex.1 f;obtain⟨N,f⟩:=Sep.cG.1 f;rw[N,z,Q6];refine St.i f (by simp) (λr h1=>m _ _ ?_);have h1:Sep E (bC p [Sv s]::bw s 1 (dZ mn)::PA b5 (T.get 25) lw::PB b7 b9 (T.get 10) (T.get 25)::M) r:=h1;rw[<- z]at h1;have h2:Sep E (PB true true (T.get 9) (T.get 22)::bw s 1 (dZ mn)::PA b5 (T.get 25) lw::PB b7 b9 (T.get 10) (T.get 25)::M) r:=Sep.ex.2 ⟨p,Sep.cG.2 ⟨N,h1⟩⟩;have y:Sep E (PA true (T.get 22) mn::PB true true (T.get 9) (T.get 22)::PA b5 (T.get 25) lw::PB b7 b9 (T.get 10) (T.get 25)::M) r:=Sep.ex.2 ⟨s,Sep.cG.2 ⟨⟨z,L⟩,h2.swap⟩⟩;constructor<;>(try simp only[Nat.reduceEqDiff,o8,reduceCtorEq,gQ,gP])<;>first|assumption|(intro _;exact⟨trivial,trivial⟩)|skip
   exact y.ro 3 [0,2,1] rfl
  |9,_=>
   refine(Ew T next _).mpr ?_;have t5:b5=true:=Q.symm.trans (hw 5 (by decide+kernel));have t7:b7=true:=U.symm.trans (hw 7 (by decide+kernel));have f9:b9=false:=ad.symm.trans x;subst t5 t7 f9;have ai:Sep E (PA true (T.get 25) lw::PA b2 (T.get 22) mn::PB b6 b8 (T.get 9) (T.get 22)::PB true false (T.get 10) (T.get 25)::M) w:=l.swap;obtain⟨s,f⟩:=Sep.ex.1 ai;obtain⟨⟨A,L⟩,f⟩:=Sep.cG.1 f;have f:Sep E (PB true false (T.get 10) (T.get 25)::bw s 1 (dZ lw)::PA b2 (T.get 22) mn::PB b6 b8 (T.get 9) (T.get 22)::M) w:=f.fr 3 rfl;obtain⟨p,f⟩:=Sep.ex.1 f;obtain⟨D,f⟩:=Sep.cG.1 f;rw[D,A,Q6];refine St.i f (by simp) (λr h1=>m _ _ ?_);have h1:Sep E (bC p [Sv s]::bw s 1 (dZ lw)::PA b2 (T.get 22) mn::PB b6 b8 (T.get 9) (T.get 22)::M) r:=h1;rw[<- A]at h1;have h2:Sep E (PB true true (T.get 10) (T.get 25)::bw s 1 (dZ lw)::PA b2 (T.get 22) mn::PB b6 b8 (T.get 9) (T.get 22)::M) r:=Sep.ex.2 ⟨p,Sep.cG.2 ⟨D,h1⟩⟩;have y:Sep E (PA true (T.get 25) lw::PB true true (T.get 10) (T.get 25)::PA b2 (T.get 22) mn::PB b6 b8 (T.get 9) (T.get 22)::M) r:=Sep.ex.2 ⟨s,Sep.cG.2 ⟨⟨A,L⟩,h2.swap⟩⟩;constructor<;>(try simp only[Nat.reduceEqDiff,o8,reduceCtorEq,gQ,gP])<;>first|assumption|(intro _;exact⟨trivial,trivial⟩)|skip
   exact y.ro 4 [2,0,3,1] rfl
  |n+10,F=>exact absurd F bu
 ·rintro li T w ⟨K,j⟩ hr;have u:=Q2 aJz hr;rw[yC]at u;rw[u 0 bN,u 1 bN,u 2 bN,u 3 bN,u 4 bN,u 5 bN,u 6 bN,u 7 bN,u 8 bN,u 9 bN]at j;have ak:=j.sep;obtain⟨s1,h1⟩:=Sep.ex.1 ak;obtain⟨⟨z,ae⟩,h1⟩:=Sep.cG.1 h1;obtain⟨s2,h2⟩:=Sep.ex.1 h1.swap;obtain⟨⟨A,af⟩,h2⟩:=Sep.cG.1 h2;obtain⟨p,y⟩:=Sep.ex.1 (h2.fr 2 rfl);obtain⟨N,y⟩:=Sep.cG.1 y;obtain⟨q,B⟩:=Sep.ex.1 (y.fr 3 rfl);obtain⟨D,B⟩:=Sep.cG.1 B;have B:Sep E (bC q [T.get 25]::bC p [T.get 22]::bw s2 1 (dZ lw)::bw s1 1 (dZ mn)::M) w:=B;rw[z,A]at B;show ng [(9,.ptr),(10,.ptr)] J T w;simp only[ng,N,D,C1.un];exact k s1 s2 p q w ae af (B.ro 4 [3,2,1,0] rfl)
 ·unfold mC;exact mJ (l0 _ _) (by rw[Gc];exact ep _)
 ·have no:∀i,i<10->(Array.replicate kG.size false).getD i true=false:=by
   intro i F;rw[iQ,Tc,bL (by rw[yC];exact F)];rfl
  refine⟨by rw[Array.size_replicate,yC],?_⟩;rw[no 0 bN,no 1 bN,no 2 bN,no 3 bN,no 4 bN,no 5 bN,no 6 bN,no 7 bN,no 8 bN,no 9 bN];exact⟨h1,B,λh=>(by cases h),λh=>(by cases h),λh=>(by cases h),λh=>(by cases h),λh=>(by cases h),λh=>(by cases h),Sep.emp.2 (Sep.emp.2 (Sep.emp.2 (Sep.emp.2 h)))⟩
end Go.Mp
namespace Go.Mp.Gp
open Go Go.Vc Go.Sp Go.Proofs Go.Shelf Go.Stab Go.Kc Go.Mp
variable{E:Env}{L:cv}{w:bH}{R:bA dy}{l:Nat}
def DE{s:Sl}{gs:bR}(a:Ints E L s gs)(hb:gs.length<4611686018427387904)(v:Int)(h:Sep E L w):Calls P py #[Sv s,Iv v] w (cY E (.bool (gs.contains v)) L):=by
 apply C4;unfold x1 qQ;have d:Calls P uP #[Sv s,Iv v] w (cA λr w'=>∃i:Int,r=Iv i/\(decide (i≥0)=gs.contains v)/\Sep E L w'):=by
  apply C9;unfold x2 qD qO qW;refine⟨λi w=>∃k:Nat,i=k/\k<=gs.length/\(∀j,j<k->gs[j]? ≠some v)/\Sep E L w,λi _=>(gs.length-i).toNat,⟨0,rfl,e7 _,λj b=>absurd b (Nat.not_lt_zero _),h⟩,?_⟩;rintro _ i n ⟨k,rfl,hk,c,h1⟩;have q:=a.1;rw[a.1];refine cX (λp=>?_) (λo=>⟨-1,rfl,?_,h1⟩)
  ·have hx:gs[k]?=some (gs[k]'bu):=dN;generalize gs[k]'(bu)=x at hx;rw[<- a.1];refine a.el h1 k rfl hx (eX (λe=>⟨_,rfl,?_,h1⟩) (λg=>?_))
   ·have:v∈gs:=by rw[e];exact eH hx
    rw[kX.2 this];simp
   ·rw[cR bu bu];refine⟨⟨k+1,bu,bu,λj b=>?_,h1⟩,by dsimp only;omega⟩;by_cases f:j=k;·subst f;rw[hx];intro e;exact g (cU e).symm
    ·exact c j bu
  ·have:¬ v∈gs:=by
    intro hm;obtain⟨j,b,e⟩:=jb.1 hm;exact c j bu (by rw[dL b,e])
   have h2:gs.contains v=false:=by rw[tA];intro l;exact this (kX.1 l)
   rw[h2];rfl
 refine use d ?_;rintro _ n ⟨i,rfl,m,h1⟩;exact⟨_,rfl,by rw[m],h1⟩
def kH(R:bA dy)(k:Int):Int:=(ff R k).elim 0 (·.du)
def th(R:bA dy)(a b:Int):Prop:=kH R b<kH R a\/(kH R a=kH R b/\a<b)
def Ex(R:bA dy)(a b:Int):Bool:=decide (kH R b<kH R a)
def yD(R:bA dy):lo (th R) (· < ·) (Ex R):=by
 refine⟨⟨λx y z h1 h2=>?_,λx h=>?_,λx y h=>?_⟩,λx y h=>bu,λx y h=>?_⟩;·unfold th at *;omega
 ·unfold th at h;omega
 ·unfold th;omega
 ·unfold Ex th;rw[decide_eq_true_iff];constructor;·exact .inl
  ·rintro(h1|⟨h1,h2⟩);·exact h1
   ·exact absurd h2 (by have:x<y:=h;omega)
def Rc(x:Int)(w:bH):Calls P CG #[Iv x] w (cA λv w'=>v=.bool false/\w'=w):=by
 apply Ye;exact⟨by simp,rfl⟩
def aEw(x y:Int)(w:bH):Calls P Jm #[Iv x,Iv y] w (cA λv w'=>∃r:Int,v=Iv r/\decide (r<0)=decide (x<y)/\w'=w):=by
 apply X3;unfold Mh qF;refine use (Rc x w) ?_;rintro _ _ ⟨rfl,rfl⟩;refine⟨_,rfl,use (Rc y _) ?_⟩;rintro _ _ ⟨rfl,rfl⟩;refine⟨_,rfl,dG (dG (cX (λh=>⟨-1,rfl,by simp[h],rfl⟩) (λh=>gn (λh2=>⟨1,rfl,?_,rfl⟩) (λh2=>⟨0,rfl,?_,rfl⟩))))⟩;·rw[di (show ¬ x<y by omega)];rfl
 ·rw[di (show ¬ x<y by omega)];rfl
structure kI(R:bA dy)(gs:bR)(o:bR):Prop where
 ord:o.Pairwise (th R)
 mem:∀k,k∈o↔∃e,ff R k=some e/\e.group∈gs
def yE{α:Type}{r:α->α->Prop}(c:∀x,¬ r x x)(g:∀x y z,r x y->r y z->r x z):∀ {a b:bA α},a.Pairwise r->b.Pairwise r->(∀k,k∈a↔k∈b)->a=b
 |[],[],_,_,_=>rfl
 |[],y::b,_,_,h=>by have:=(h y).2 (by simp);cases this
 |x::a,[],_,_,h=>by have:=(h x).1 (by simp);cases this
 |x::a,y::b,j,hb,h=>by
  have d:=g7.1 j;have f:=g7.1 hb;have i:x=y:=by
   rcases ey.1 ((h x).1 (by simp))with e|e;·exact e
   ·rcases ey.1 ((h y).2 (by simp))with e' | e';·exact e'.symm
    ·exact absurd (g _ _ _ (f.1 x e) (d.1 y e')) (c _)
  subst i;rw[yE c g d.2 f.2 (λk=>⟨λhk=>?_,λhk=>?_⟩)]
  ·rcases ey.1 ((h k).1 (fT _ hk))with e|e;·rw[e]at hk;exact absurd (d.1 _ hk) (c _)
   ·exact e
  ·rcases ey.1 ((h k).2 (fT _ hk))with e|e;·rw[e]at hk;exact absurd (f.1 _ hk) (c _)
   ·exact e
def kI.eq{gs o o':bR}(h:kI R gs o)(h':kI R gs o'):o=o':=
 yE (yD R).ord.ui (yD R).ord.trans h.ord h'.ord (λk=>by rw[h.mem,h'.mem])
def aIu(G:Kc.Good R){s:Sl}{gs:bR}(T:Ints E L s gs)(hb:gs.length<4611686018427387904)(h:Sep E (fm l R::L) w):
  Calls P I4 #[Pb l,Sv s] w (cA λv w'=>∃(t:Sl) (o:bR),v=Sv t/\t.n=o.length/\kI R gs o/\Sep E (bw t 1 (bD o)::fm l R::L) w'):=by
 apply Xp;unfold LD qE qJ qM qN qb;refine Al.i h (λp W h1=>Al.i h1 (λB w2 h2=>?_));have h2:Sep E (bC B [Sv s]::bC p [Pb l]::fm l R::L) w2:=h2;refine ld h2 1 rfl rfl rfl ⟨_,rfl,?_⟩;obtain⟨m,A⟩:=fm.open (h2.fr 2 rfl);have A:Sep E (cE m encI (gm R)::bC l [.map (some m)]::bC B [Sv s]::bC p [Pb l]::L) w2:=A.ro 4 [1,0,2,3] rfl;refine ld A 1 rfl rfl rfl (azq (N:=16777217) A (q:=0) rfl (λk v hk=>?_) bN (λt ks X hn j S=>?_))
 ·unfold gm at hk;cases hf:ff R k with
  |none=>rw[hf]at hk;cases hk
  |some e=>
   obtain⟨h1,h2⟩:=(kO G.cZ).1 hf;have:=(G.ok e h1).1;omega
 have n:∀k,k∈ks↔(ff R k).isSome=true:=λk=>by
  rw[j.mem];unfold gm;cases ff R k<;>rfl
 have U:ks.length<=16777217:=by
  refine sK 16777217 ks (ob.2 (j.cZ.imp (λV he=>bu))) (λx hx=>?_);obtain⟨e,he⟩:=kJ.1 ((n x).1 hx);obtain⟨h1,h2⟩:=(kO G.cZ).1 he;have:=(G.ok e h1).1;omega
 obtain⟨M,g⟩:∃M,M=cE m encI (gm R)::bC l [.map (some m)]::bC B [Sv s]::bC p [Pb l]::L:=⟨_,rfl⟩
 have O:Ints E M s gs:=by rw[g];exact T.cons.cons.cons.cons
 let q:Int->Bool:=λid=> !(gs.contains ((ff R id).elim 0 (·.group)));refine use (PW (L:=M) (q:=q) ?_ hn bu (by rw[g];exact S)) ?_
 ·intro r _ x J _ C;refine⟨Jj,_,rfl,by kernel_rfl,?_⟩;refine use (K:=λv w'=>v=.bool (q x)/\Sep E (bw t 1 (bD r)::M) w') (X0 x ⟨B,0,none⟩ ⟨p,0,none⟩ ?_) (λv w' ⟨H,F⟩=>⟨by rw[H],F⟩);unfold Me qF qM qb qc;refine Dr.i C (λZ c=>?_);have b:=c;rw[g]at b;refine ld (x:=s) b 3 rfl rfl rfl (ld b 4 rfl rfl rfl ⟨_,rfl,ld b 2 rfl rfl rfl ⟨_,_,Ef (i:=1) b rfl x,use (DE O.cons hb _ c) ?_⟩⟩);rintro _ Q ⟨rfl,f⟩;exact⟨_,rfl,rfl,f⟩
 rintro _ Y ⟨u,rfl,hu,C⟩;have hlen:(ks.filter λx=> !q x).length<=ks.length:=l0 _ _;refine⟨u,rfl,use (DW (yD R) (j.cZ.filter _) hu bu ?_ C) ?_⟩
 ·intro r x y J _ c;refine⟨Jl,_,rfl,by kernel_rfl,?_⟩;refine use (K:=λv w'=>∃z:Int,v=Iv z/\decide (z<0)=Ex R x y/\Sep E (bw u 1 (bD r)::M) w') (X2 x y ⟨p,0,none⟩ ?_) (λv w' ⟨z,H,I,F⟩=>⟨z,by rw[H],I,F⟩);unfold Mg qM qQ qb;refine Dr.i c (λQ f=>?_);have a:=f;rw[g]at a;refine ld a 4 rfl rfl rfl ⟨_,rfl,ld a 2 rfl rfl rfl ⟨_,_,Ef (i:=1) a rfl y,?_⟩⟩;refine ld a 4 rfl rfl rfl ⟨_,rfl,ld a 2 rfl rfl rfl ⟨_,_,Ef (i:=1) a rfl x,use (aEw _ _ Q) ?_⟩⟩;rintro _ _ ⟨z,rfl,I,rfl⟩;exact⟨_,rfl,z,rfl,I,f⟩
 ·rintro _ J ⟨rfl,o,d,D,c⟩;refine⟨rfl,u,o,rfl,by rw[hu,d.length_eq],⟨D,λk=>?_⟩,?_⟩
  ·rw[d.mem_iff,gq,n];cases hf:ff R k with
   |none=>simp
   |some e=>simp[q,hf]
  ·rw[g]at c;have f:Sep E (bC l [.map (some m)]::cE m encI (gm R)::bw u 1 (bD o)::L) J:=c.ro 5 [2,1,0] rfl;exact(fm.shut f).swap
end Go.Mp.Gp
namespace Go.Kc
open Go Go.Kt
def Re{R:bA dy}(G:Good R)(gs:bR):Go.Mp.Gp.kI R gs (jk R gs):=by
 have c:∀e∈R,Go.Mp.Gp.kH R e.id=e.du:=λe he=>by
  unfold Go.Mp.Gp.kH;rw[(kO G.cZ).2 ⟨he,rfl⟩];rfl
 refine⟨?_,λk=>⟨λhk=>?_,?_⟩⟩
 ·unfold jk;rw[List.pairwise_flatMap];refine⟨λa _=>?_,?_⟩
  ·rw[kc];refine FO (λ{x y} hx d j=>?_) (G.cZ.filter _);rw[gq,dA]at hx d;have h1:x.du=a:=by simpa using hx.2.2
   have h2:y.du=a:=by simpa using d.2.2
   right;rw[c x hx.1,c y d.1];exact⟨by rw[h1,h2],j⟩
  ·have h:([3,2,1,0]:bR).Pairwise (λa b=>b<a):=by decide
   refine h.imp (λ{a b} i x hx y d=>?_);obtain⟨e,he,rfl⟩:=fo.1 hx;obtain⟨f,hf,rfl⟩:=fo.1 d;rw[gq,dA]at he hf;have h1:e.du=a:=by simpa using he.2.2
   have h2:f.du=b:=by simpa using hf.2.2
   left;rw[c e he.1,c f hf.1,h1,h2];exact i
 ·obtain⟨e,he,rfl,g⟩:=wY hk;exact⟨e,(kO G.cZ).2 ⟨he,rfl⟩,g⟩
 ·rintro⟨e,he,g⟩;obtain⟨h1,rfl⟩:=(kO G.cZ).1 he;have h2:=(G.ok e h1).2.2;unfold jk;refine y7.2 ⟨e.du,?_,fo.2 ⟨e,gq.2 ⟨h1,by simpa using g⟩,rfl⟩⟩;have:e.du=0\/e.du=1\/e.du=2\/e.du=3:=by omega
  rcases this with h|h|h|h<;>simp[h]
variable{S:Cs}
def Inv0.jT(h:Inv0 S)(g:Int):S.memory g<2147483648:=by
 unfold Cs.memory;by_cases b:0<=g/\g<64
 ·rw[h.fr.use g b.1 b.2];have h1:iJ S.bt 1 (below S.tree g)<=iJ S.bt 1 (λ_=>true):=by
   unfold iJ;refine UL (λi _ c=>?_);unfold ml at c ⊢;revert c;cases S.bt.pg (i:Int)with
   |none=>exact id
   |some p=>simp only[pB,dA,Bool.and_true];exact λh=>h.1
  rw[<- h.fr.all]at h1;have h2:=List.count_le_length (a:=true) (l:=S.fr.bS);have d:=h.fr.e8;omega
 ·have:fX g=false:=by unfold fX;rw[Bool.and_eq_false_iff];simp;omega
  unfold cW ht;rw[this];show(0:Int)<2147483648;decide
end Go.Kc
namespace Go.Mp
open Go Go.Vc Go.Sp Go.Proofs Go.Kc
variable{E:Env}{L:cv}{w:bH}{A:At}{S:Cs}
def Rf{y:bE}{hB:Int->Bool}{o:bR}{a:Sl}{f d:Nat}(hw:Kt.WF S.tree)(G:Kc.Good S.bX)(u:a.n=o.length)(hb:o.length<100000000)(B:∀(x:Int) (X:Asn) (w:bH),(∃id∈o,x=(S.bt.get id).1.owner)->Sep E (cg A S++X::bC f [Sv a]::bw a 1 (bD o)::bC d [Pb A.c]::L) w->
   eY P y #[Iv x] w λe w'=>e=.returned (.bool (hB x))/\Sep E (cg A S++X::bC f [Sv a]::bw a 1 (bD o)::bC d [Pb A.c]::L) w')(h:Sep E (cg A S++bC f [Sv a]::bw a 1 (bD o)::bC d [Pb A.c]::L) w):
  Calls P Ce #[y,Pb f,Pb d] w (cA λv w'=>v=.bool (pass hB o S).2/\
   Sep E (cg A (pass hB o S).1++bC f [Sv a]::bw a 1 (bD o)::bC d [Pb A.c]::L) w'):=by
 apply Xq;unfold LF qD qF qL qO qU qV qW qX qZ qb qc;refine⟨a,h.cellAt 16 rfl 0,?_⟩;refine⟨λx w'=>∃k:Nat,x=k/\k<=o.length/\pass hB o S=pass hB (o.drop k) S/\Sep E (cg A S++bC f [Sv a]::bw a 1 (bD o)::bC d [Pb A.c]::L) w',λx _=>(o.length-x).toNat,⟨0,rfl,e7 _,rfl,h⟩,?_⟩;rintro _ _ H ⟨k,rfl,hk,hp,h1⟩;refine cX (λF=>?_) (λD=>?_)
 ·have g:k<o.length:=by omega
  obtain⟨id,eQ⟩:∃id,o[k]?=some id:=⟨_,dL g⟩
  have n:o.drop k=id::o.drop (k+1):=by rw[lD g];rw[dL g]at eQ;rw[cU eQ]
  have j:(((o.length:Nat):Int)-((k+1:Nat):Int)).toNat<(((o.length:Nat):Int)-(k:Int)).toNat:=by omega
  refine(Ints.at_ (q:=17) rfl u).el h1 k rfl eQ ?_;refine ld h1 18 rfl rfl rfl ⟨_,rfl,ld h1 0 rfl rfl rfl (use (Tp.oS id (h1.fr 11 rfl)) ?_)⟩;rintro _ w2 ⟨rfl,h2⟩;have h2:=h2.put (q:=11) rfl;have h2:Sep E (cg A S++bC f [Sv a]::bw a 1 (bD o)::bC d [Pb A.c]::L) w2:=h2;obtain⟨p,i⟩:∃p,(S.bt.get id).1=p:=⟨_,rfl⟩
  rw[i];refine⟨_,_,_,_,_,_,_,_,_,_,rfl,Al.i h2 (λb I z=>ew (vs:=p.vs) _ z rfl (λC m=>?_))⟩;have m:Sep E (cg A S++bC b p.vs::bC f [Sv a]::bw a 1 (bD o)::bC d [Pb A.c]::L) C:=Sep.e4 m;refine ld m 16 rfl rfl rfl (eY.use (B p.owner _ _ ⟨id,eH eQ,by rw[i]⟩ m) ?_);rintro e J ⟨rfl,r⟩;refine⟨_,rfl,cw (λl=>?_) (λc=>?_)⟩
  ·have l:hB p.owner=false:=by simpa using l
   refine ld r 19 rfl rfl rfl (use (aKx id hw G r) ?_);rintro _ K ⟨rfl,s⟩;have t:pass hB (o.drop k) S=if(S.out id).2 then((S.out id).1,true)else pass hB (o.drop (k+1)) (S.out id).1:=by
    rw[n,pass,i,l];rfl
   refine⟨_,rfl,cw (λho=>?_) (λho=>?_)⟩
   ·rw[hp,t,bL ho];exact⟨rfl,s.cut⟩
   ·rw[de];rw[sa ho]at s;exact⟨⟨k+1,rfl,g,by rw[hp,t,bJ (by rw[ho];decide),sa ho],s.cut⟩,j⟩
  ·have c:hB p.owner=true:=by simpa using c
   rw[de];refine⟨⟨k+1,rfl,g,?_,r.cut⟩,j⟩;rw[hp,n,pass,i,c];rfl
 ·have:k=o.length:=by omega
  rw[this,we]at hp;rw[hp];exact⟨rfl,h1⟩
end Go.Mp
namespace Go.Sp
open Go
variable{E:Env}{L Q:cv}{w:bH}
def Sep.vx(a:cv)(h:Sep E (a++(Q++L)) w):Sep E (Q++(a++L)) w:=h.perm (by
 rw[<- dm,<- dm];exact rF _ lZ)
end Go.Sp
namespace Go.Mp
open Go Go.Vc Go.Sp Go.Proofs Go.Kc
variable{E:Env}{L:cv}{w:bH}{A:At}{S:Cs}
def Ey{l:bA Kt.G}{g:Int}(h:Kt.dt l g=true):0<=g/\g<l.length:=by
 obtain⟨n,rfl,x,hx,_⟩:=Kt.iR.1 h;have:=(c4.1 hx).1;omega
def Rh(j:Inv S){t:Int}{all:Bool}{sg:Sl}{gs:bR}(ai:Ints E L sg gs)(al:gs.length<=64)(h:Sep E (cg A S++L) w):
  Calls P xE #[Pb A.c,Iv t,Sv sg,.bool all] w (cY E (.bool (S.cO t gs all).2) (cg A (S.cO t gs all).1++L)):=by
 have C:S.guards.length<=64:=by rw[j.gl];exact j.wf.e8
 apply arV;refine Al.i h (λf aj h1=>?_);have h1:Sep E (cg A S++bC f [Pb A.c]::L) aj:=Sep.e4 h1;refine⟨some ⟨A.c,0,none⟩,h1.cellAt 16 rfl 0,_,rfl,ld h1 0 rfl rfl rfl (use (kB h1 (q:=1) rfl) ?_)⟩;rintro _ _ ⟨rfl,rfl⟩;refine⟨_,rfl,cw (λW=>?_) (λhl=>?_)⟩
 ·have W:S.live t=false:=by
   have:Kt.dt S.tree t=false:=by simpa using W
   exact this
  have e:S.cO t gs all=(S,false):=by unfold Cs.cO;rw[bL W]
  rw[e];exact⟨rfl,h1.cut⟩
 have hl:S.live t=true:=by
  have:Kt.dt S.tree t=true:=by simpa using hl
  exact this
 obtain⟨mn,F⟩:∃mn,S.held t eE.min=mn:=⟨_,rfl⟩
 obtain⟨lw,D⟩:∃lw,S.held t eE.low=lw:=⟨_,rfl⟩
 have an:mn.length=S.guards.length:=by rw[<- F];exact vu _ _
 have am:lw.length=S.guards.length:=by rw[<- D];exact vu _ _
 obtain⟨M,B⟩:∃M,M=cg A S++bC f [Pb A.c]::L:=⟨_,rfl⟩
 refine⟨λa b w'=>∃(s1 s2:Sl) (p q:Nat),a=some ⟨p,0,none⟩/\b=some ⟨q,0,none⟩/\s1.n=mn.length/\s2.n=lw.length/\
  Sep E (bw s1 1 (dZ mn)::bw s2 1 (dZ lw)::bC p [Sv s1]::bC q [Sv s2]::M) w',Dr.i h1 (λw2 h2=>?_),?_⟩
 ·have G:∀ {R:cv} {w:bH},Sep E (R++M) w->Sep E (cg A S++(bC f [Pb A.c]::L++R)) w:=by
   intro R w d;have:=d.perm lZ;rw[B,dm]at this;exact this
  have n:∀ {R:cv} {w:bH} {X:Asn},Sep E (cg A S++X::(bC f [Pb A.c]::L++R)) w->Sep E (X::(R++M)) w:=by
   intro R w X d;refine(Sep.mB d).perm (List.Perm.cons _ ?_);rw[<- dm,<- B];exact lZ
  refine aKA (M:=M) (c:=A.c) (bx:=f) (t:=t) (mn:=mn) (lw:=lw) ?_ ?_ ?_ cV cV (by rw[B];exact h2) ?_
  ·intro R w d;have:=d.right;rw[B]at this;exact this.cellAt 16 rfl 0
  ·intro R w d;refine use (yy QY j.gl C j.jT (G d)) ?_;rintro _ w' ⟨e,rfl,he,k⟩;rw[F]at he k;exact⟨_,rfl,e,rfl,he,n k⟩
  ·intro R w d;refine use (yy QZ j.gl C j.jT (G d)) ?_;rintro _ w' ⟨e,rfl,he,k⟩;rw[D]at he k;exact⟨_,rfl,e,rfl,he,n k⟩
  ·intro s1 s2 p q w' af ag d;exact⟨s1,s2,p,q,rfl,rfl,af,ag,d⟩
 rintro _ _ _ w2 ⟨s1,s2,p,q,rfl,rfl,O,ad,h2⟩;rw[B]at h2;have h2:=Sep.vx [bw s1 1 (dZ mn),bw s2 1 (dZ lw),bC p [Sv s1],bC q [Sv s2]] (Q:=cg A S) h2;have h2:Sep E (cg A S++bw s1 1 (dZ mn)::bw s2 1 (dZ lw)::bC p [Sv s1]::bC q [Sv s2]::bC f [Pb A.c]::L) w2:=h2;refine⟨_,h2.cellAt 20 rfl 0,_,rfl,ld h2 0 rfl rfl rfl (use (Gp.aIu j.eu (ai.cons.cons.cons.cons.cons.er (A:=A) (S:=S) (q:=9) bN) bu (h2.fr 9 rfl)) ?_)⟩;rintro _ ao ⟨i,o,rfl,U,ho,V⟩;have ho:=ho.eq (Re j.eu gs);subst ho;have V:=V.hS (q:=9) rfl;refine⟨i,rfl,Al.i V (λy ap ah=>St.i ah (by simp) (λak z=>?_))⟩;have z:=Sep.vx [bC y [Sv i],bw i 1 (bD (jk S.bX gs))] (Q:=cg A S) (L:=bw s1 1 (dZ mn)::bw s2 1 (dZ lw)::bC p [Sv s1]::bC q [Sv s2]::bC f [Pb A.c]::L) z;have z:Sep E (cg A S++bC y [Sv i]::bw i 1 (bD (jk S.bX gs))::bC f [Pb A.c]::bw s1 1 (dZ mn)::bw s2 1 (dZ lw)::bC p [Sv s1]::bC q [Sv s2]::L) ak:=
  z.ro 23 [0,1,2,3,4,5,6,7,8,9,10,11,12,13,14,15,16,17,22,18,19,20,21] rfl
 have hx:∀x:Int,(∃id∈jk S.bX gs,x=(S.bt.get id).1.owner)->0<=x/\x<S.guards.length:=by
  rintro x ⟨id,eQ,rfl⟩;obtain⟨pg,N,_,_⟩:=j.jN eQ;have Y:=j.own id pg N;have:=Ey (show Kt.dt S.tree pg.owner=true from Y);rw[j.toInv0.bK N,j.gl];exact this
 have J:(jk S.bX gs).length<100000000:=by
  have u:=Re j.eu gs;have aa:=sK 16777217 (jk S.bX gs) (ob.2 (u.ord.imp (λ{a b} ab e=>by subst e;exact(Gp.yD S.bX).ord.ui a ab))) (λx hx=>by
   obtain⟨e,he,rfl,_⟩:=wY hx;have:=(j.eu.ok e he).1;omega)
  omega
 have l:∀ {T:Cs} {w:bH},Sep E (cg A T++bC y [Sv i]::bw i 1 (bD (jk S.bX gs))::bC f [Pb A.c]::bw s1 1 (dZ mn)::bw s2 1 (dZ lw)::bC p [Sv s1]::bC q [Sv s2]::L) w->Sep E (cg A T++L) w:=
  λd=>d.cut.cut.cut.cut.cut.cut.cut
 refine use (Rf (hB:=λg=>hy mn g||hy lw g) j.wf j.eu U J ?_ z) ?_
 ·intro x X w' H d;obtain⟨s,ae⟩:=hx x H;refine⟨I6,_,rfl,by kernel_rfl,?_⟩;refine use (K:=λv w'=>v=.bool (hy mn x||hy lw x)/\Sep E (cg A S++X::bC y [Sv i]::bw i 1 (bD (jk S.bX gs))::bC f [Pb A.c]::bw s1 1 (dZ mn)::bw s2 1 (dZ lw)::bC p [Sv s1]::bC q [Sv s2]::L) w')
   (Xs x ⟨p,0,none⟩ ⟨q,0,none⟩ ?_) (λv w' ⟨Z,d⟩=>⟨by rw[Z],d⟩)
  refine⟨s1,d.cellAt 22 rfl 0,vt 20 d rfl O s bu (cw (λhb=>⟨by rw[hb];rfl,d⟩) (λhb=>⟨s2,d.cellAt 23 rfl 0,vt 21 d rfl ad s bu ⟨by rw[hb];rfl,d⟩⟩))⟩
 rintro _ aq ⟨rfl,u⟩;have I:S.cO t gs all=if(pass (λg=>hy mn g||hy lw g) (jk S.bX gs) S).2 then((pass (λg=>hy mn g||hy lw g) (jk S.bX gs) S).1,true)else if all then pass (λg=>hy mn g) (jk S.bX gs) (pass (λg=>hy mn g||hy lw g) (jk S.bX gs) S).1 else((pass (λg=>hy mn g||hy lw g) (jk S.bX gs) S).1,false):=by
  unfold Cs.cO;rw[bJ (by rw[hl];decide),F,D]
 refine⟨_,rfl,cw (λhb=>?_) (λhb=>?_)⟩
 ·rw[I,bL hb];exact⟨rfl,l u⟩
 have r:=sc _ hb;rw[I,bJ (by rw[hb];decide),r];rw[r]at u;refine cw (λm=>?_) (λm=>?_)
 ·rw[bL m];refine use (Rf (hB:=λg=>hy mn g) j.wf j.eu U J ?_ u) ?_
  ·intro x X w' H d;obtain⟨s,ae⟩:=hx x H;refine⟨I7,_,rfl,by kernel_rfl,?_⟩;refine use (K:=λv w'=>v=.bool (hy mn x)/\Sep E (cg A S++X::bC y [Sv i]::bw i 1 (bD (jk S.bX gs))::bC f [Pb A.c]::bw s1 1 (dZ mn)::bw s2 1 (dZ lw)::bC p [Sv s1]::bC q [Sv s2]::L) w')
    (Xt x ⟨p,0,none⟩ ?_) (λv w' ⟨Z,d⟩=>⟨by rw[Z],d⟩)
   exact⟨s1,d.cellAt 22 rfl 0,vt 20 d rfl O s bu ⟨rfl,d⟩⟩
  rintro _ ar ⟨rfl,aa⟩;exact⟨_,rfl,rfl,l aa⟩
 ·rw[bJ (by rw[m];decide)];exact⟨rfl,l u⟩
end Go.Mp
