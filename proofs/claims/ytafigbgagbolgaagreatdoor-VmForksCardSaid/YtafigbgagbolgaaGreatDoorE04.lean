/- A part of the proof. -/
import Derived.Test.YtafigbgagbolgaaGreatDoorE03
import Derived.Shelf.SlIterI.Nil
import Derived.Shelf.SortM.Plain
import Derived.Shelf.SortM.SortNone
import Derived.Test.YtafigbgagbolgaaGreatDoorProg
import Derived.Laws.IdiomRangeMap
set_option linter.all false
set_option maxRecDepth 100000
open Go.IntKind(i64 u64)
open Go.Proofs.Tryz
namespace Go.Mp
open Go Go.Vc Go.Sp Go.Proofs Go.Kc
variable{E:Env}{L:ct}{w:bI}
def PJ{s:Sl}{l:bS}{q:Nat}(h:Sep E L w)(m:L[q]?=some (bw s 1 (bD l)))(hn:s.n=l.length)(hb:l.length<=1000000):
  Calls P uH #[.slice s.p s.n s.c] w (cz λv w'=>∃s':Sl,v=.slice s'.p s'.n s'.c/\s'.n=l.length/\Sep E (bw s' 1 (bD l)::L) w'):=by
 have b:=h.fr q m;unfold bw at b;cases hp:s.p with
 |none=>
  rw[hp]at b;obtain⟨⟨_,_,hl⟩,_⟩:=Sep.cG.1 b;have hl:l= []:=List.map_eq_nil_iff.1 hl;subst hl;refine(Any.slices_Clone_int_nil Tryz.nI s.n s.c w).mono ?_;rintro e o ⟨rfl,rfl⟩;exact⟨_,rfl,⟨none,0,0⟩,rfl,rfl,bw.none_ h⟩
 |some a=>
  rw[hp]at b;obtain⟨spare,b⟩:=Sep.ex.1 b;obtain⟨⟨ho,n,hl,_,_⟩,b⟩:=Sep.cG.1 b;obtain⟨f,r,t⟩:=a;cases ho;cases n;have k:∀j,j<l.length->w.cell? ⟨f,0+j,none⟩=some (.int .i64 (l.getD j 0)):=by
   intro j g;rw[fx,bw.cell b (by simpa using g)];simp[List.getD,dO g]
  refine(Any.slices_Clone_int Tryz.nI f 0 s.n s.c l w bu bu k).mono ?_;rintro e o ⟨v,rfl,c,p,d⟩;rw[hn,gf]at c;obtain⟨s',rfl,i,h1⟩:=De h c d;exact⟨_,rfl,s',rfl,i,h1⟩
def aGu{x y:Nat}(hx:x<4294967296)(d:x*y<18446744073709551616)(k:y<18446744073709551616)(w:bI):Calls P xN #[.int .u64 (x:Nat),.int .u64 (y:Nat)] w (cz λv w'=>v=.tuple #[.int .u64 0,.int .u64 ((x*y:Nat):Int)]/\w'=w):=by
 apply Mj;unfold C4;have i:(x:Int).fdiv (2^(min (32:Int).toNat 64))=((0:Nat):Int):=by
  rw[show(x:Int).fdiv (2^(min (32:Int).toNat 64))=((x/2^32:Nat):Int)from sh x 32,y4 bu]
 have c:∀z:Nat,(z:Int).fdiv (2^(min (32:Int).toNat 64))=((z/4294967296:Nat):Int):=λz=>sh z 32;have m:∀ {z:Nat},z<18446744073709551616->dm .u64 (z:Int) 4294967295=((z%4294967296:Nat):Int):=by
  intro z f;have h:=sC (a:=z) (b:=4294967295) f bu;have e:z &&& 4294967295=z%4294967296:=tm z 32;rw[e]at h;exact h
 have f:x*y=x*(y%4294967296)+x*(y/4294967296)*4294967296:=by
  conv=>lhs;rw[<- Nat.mod_add_div y 4294967296]
  rw[nc,wk 4294967296,Gm]
 rw[i,c y,m (z:=x) bu,m k,mJ hx];have g:∀a:Int,((0:Nat):Int)*a=((0:Nat):Int):=λa=>by simp
 rw[g,g,dq (n:=0) bu,<- tD,<- tD,<- tD];generalize x*(y%4294967296)=p at*
 generalize x*(y/4294967296)=r at*
 have j:p/4294967296+r<4294967296:=by omega
 rw[dq (n:=p) bu,c p];rw[show((0:Nat):Int)+((p/4294967296:Nat):Int)=((p/4294967296:Nat):Int) by omega,dq (n:=p/4294967296) bu];rw[m bu,dq (n:=r) bu,mJ (a:=p/4294967296) bu,<- Gg,dq (n:=p/4294967296+r) bu,c,c,y4 j,y4 (a:=p/4294967296) bu,dq d];refine⟨bN,bN,bN,bN,bN,?_,rfl⟩;simp[nB]
def yi{l:bS}{k:Nat}{x:Int}(hx:l[k]?=some x):cj (l.take (k+1))=cj (l.take k)+x:=by
 rw[fL hx];simp[cj,y1]
def DU{l:bS}(hl:∀x∈l,0<=x/\x<=top):∀k,k<=l.length->0<=cj (l.take k)/\cj (l.take k)<=k*1099511627776
 |0,_=>by simp[cj]
 |k+1,h=>by
  have hx:l[k]?=some (l[k]'bu):=dP;have h1:=DU hl k bu;have h2:=hl _ (oq (by omega:k<l.length));rw[yi hx];rw[ob]at h2;omega
def DV{s:Sl}{l:bS}(a:Ints E L s l)(hl:∀x∈l,0<=x/\x<=top)(hb:l.length<=64)(h:Sep E L w):
  Calls P uI #[.slice s.p s.n s.c] w (cW E (.int .i64 (cj l)) L):=by
 apply W1;unfold Lr qD qI qW;refine⟨λn i w'=>(∃k:Nat,i=k/\k<=l.length/\n=cj (l.take k))/\Sep E L w',λ_ i _=>(l.length-i).toNat,⟨⟨0,rfl,fj _,rfl⟩,h⟩,?_⟩;rintro _ n i d ⟨⟨k,rfl,hk,rfl⟩,h1⟩;have hn:=a.1;refine cU (λc=>?_) (λb=>?_)
 ·have hx:l[k]?=some (l[k]'bu):=dP;refine a.el h1 k rfl hx ?_;have h2:=DU hl (k+1) bu;have e:=yi hx;rw[dc,cP bu bu];exact⟨⟨⟨k+1,rfl,bu,e.symm⟩,h1⟩,by show(((l.length:Nat):Int)-((k+1:Nat):Int)).toNat<(((l.length:Nat):Int)-(k:Int)).toNat;omega⟩
 ·have:k=l.length:=by omega
  subst this;rw[gf];exact⟨rfl,h1⟩
def aGF(x:Int)(w:bI):Calls P Cv #[.int .i64 x] w (cz λv w'=>v=.bool (!(decide (0<=x)&&decide (x<=top)))/\w'=w):=by
 apply XA;unfold LX;have:=ob;refine cU (λc=>⟨?_,rfl⟩) (λb=>⟨?_,rfl⟩);·rw[dg (show ¬ 0<=x by omega)];rfl
 ·rw[dF (show 0<=x by omega),ob];by_cases a:x>1099511627776;·rw[dF a,dg (show ¬ x<=1099511627776 by omega)];rfl
  ·rw[dg a,dF (show x<=1099511627776 by omega)];rfl
def PK{s:Sl}{l:bS}{n:Int}(hn:s.n=l.length)(h:Sep E (bw s 1 (bD l)::L) w):
  Calls P Ca #[.int .i64 n,.slice s.p s.n s.c] w (cW E (.bool (iy n l)) (bw s 1 (bD l)::L)):=by
 apply W0;unfold Lq qF iy;refine h6 (λh1=>?_) (λh1=>?_);rotate_left;·rw[dg (show ¬ 0<=n by omega)];exact⟨by simp,h⟩
 rw[dF h1];refine h6 (λh2=>?_) (λh2=>?_);rotate_left;·rw[dg (show ¬ n<=1048576 by omega)];exact⟨by simp,h⟩
 rw[dF h2];refine h6 (λc=>?_) (λc=>?_);rotate_left;·rw[dg (show ¬ l.length<=64 by omega)];exact⟨by simp,h⟩
 rw[dF (show l.length<=64 by omega)];refine use (K:=λv w'=>v=.bool (!(l.all λx=>decide (0<=x)&&decide (x<=top)))/\Sep E (bw s 1 (bD l)::L) w') ?_ ?_
 ·apply XB;unfold LY qQ;refine use (PH (q:=λx=> !(decide (0<=x)&&decide (x<=top))) ?_ hn bu h) ?_
  ·intro x b _ h1;refine⟨Cv,_,rfl,by kernel_rfl,(aGF x b).mono ?_⟩;rintro e w2 ⟨v,rfl,rfl,rfl⟩;exact⟨rfl,h1⟩
  ·rintro _ b ⟨i,rfl,a,h1⟩;refine⟨i,rfl,?_,h1⟩;rcases a with⟨rfl,a⟩|⟨g,f,_,a⟩
   ·have:(l.all λx=>decide (0<=x)&&decide (x<=top))=true:=fQ.2 λx hx=>by simpa using a x hx
    rw[this];rfl
   ·have hx:l[i.toNat]?=some (l[i.toNat]'bu):=dP;have d:=a _ hx;have:(l.all λx=>decide (0<=x)&&decide (x<=top))=false:=by
     rw[List.all_eq_false];exact⟨_,oq (show i.toNat<l.length by omega),by
      have j:l[i.toNat]<0\/top<l[i.toNat]:=by simpa using d
      simp;omega⟩
    rw[this,dF (show i≥0 by omega)];rfl
 ·rintro _ b ⟨rfl,h1⟩;exact⟨_,rfl,by simp,h1⟩
end Go.Mp
namespace Go.Kc
def PL{α:Type}{r:α->α->Bool}(uh:∀x,r x x=false)(asym:∀x y,r x y=true->r y x=false):∀ {l:bA α} {j:Nat} {x:α},l.Pairwise (λa b=>r a b=true)->l[j]?=some x->(l.filter λy=>r y x).length=j
 |[],j,x,_,hx=>by simp at hx
 |a::l,0,x,h,hx=>by
  have e:a=x:=by simpa using hx
  subst e;have h':=g7.1 h;have:(a::l).filter (λy=>r y a)= []:=by
   rw[List.filter_eq_nil_iff];intro y d;rcases ew.1 d with rfl|d;·rw[uh];decide
   ·rw[asym _ _ (h'.1 y d)];decide
  rw[this];rfl
 |a::l,j+1,x,h,hx=>by
  have h':=g7.1 h;have c:l[j]?=some x:=by simpa using hx
  have hm:x∈l:=eI c;rw[jH,bK (h'.1 x hm),hM,PL uh asym h'.2 c]
def rB(a b:Int×Nat):Bool:=decide (b.1<a.1)||(decide (a.1=b.1)&&decide (a.2<b.2))
def pI{a b:Int×Nat}:rB a b=true↔(b.1<a.1\/(a.1=b.1/\a.2<b.2)):=by simp[rB]
def aJZ(x:Int×Nat):rB x x=false:=by
 rw[tx];intro h;have:=pI.1 h;omega
def PM(x y:Int×Nat)(h:rB x y=true):rB y x=false:=by
 rw[tx];intro h';have h1:=pI.1 h;have h2:=pI.1 h';omega
def yj{rs:bS}{p:Int×Nat}:p∈rs.zipIdx↔rs[p.2]?=some p.1:=by
 obtain⟨a,i⟩:=p;rw[List.mem_zipIdx_iff_getElem?]
variable{rs:bS}{S:bA (Int×Nat)}
def PN(hp:S.Perm rs.zipIdx)(c:S.Pairwise λa b=>rB a b=true){j:Nat}{x:Int×Nat}(hx:S[j]?=some x):ahead rs x.2 x.1=j:=by
 have h1:=PL aJZ PM c hx;rw[<- h1];exact((hp.filter _).length_eq).symm
def aGo(hp:S.Perm rs.zipIdx)(e:S.Pairwise λa b=>rB a b=true){i m:Nat}{r:Int}(hr:rs[i]?=some r):ahead rs i r<m↔i∈(S.take m).map (·.2):=by
 constructor
 ·intro h;have h1:(r,i)∈S:=hp.mem_iff.2 (yj.2 hr);obtain⟨j,c⟩:=pW.1 h1;have h2:=PN hp e c;refine fA.2 ⟨(r,i),pW.2 ⟨j,?_⟩,rfl⟩;rw[o3,bK (by simpa[h2]using h)];exact c
 ·intro h;obtain⟨⟨r',l⟩,h1,rfl⟩:=fA.1 h;obtain⟨j,c⟩:=pW.1 h1;rw[o3]at c;split at c
  ·next n=>
   have f:(r',l)∈rs.zipIdx:=hp.mem_iff.1 (eI c);have d:=yj.1 f;simp only at d hr;have g:=hr.symm.trans d;have k:r=r':=by simpa using g
   subst k;have:=PN hp e c;simp only at this ⊢;omega
  ·cases c
def PO:(rs.zipIdx.map (·.2)).Nodup:=by
 rw[List.zipIdx_map_snd];exact List.nodup_range'
def PQ(hp:S.Perm rs.zipIdx)(m:Nat):((S.take m).map (·.2)).Nodup:=by
 have h:(S.map (·.2)).Nodup:=(hp.map _).nodup_iff.2 PO;rw[List.map_take];exact h.sublist (o4 _ _)
def aJh(hp:S.Perm rs.zipIdx){m:Nat}:∀i∈(S.take m).map (·.2),i<rs.length:=by
 intro i a;obtain⟨⟨r,i⟩,h1,rfl⟩:=fA.1 a;have:=yj.1 (hp.mem_iff.1 (nP h1));exact(cZ.1 this).1
def aFX(rs:bS):∃S:bA (Int×Nat),S.Perm rs.zipIdx/\S.Pairwise λa b=>rB a b=true:=by
 refine⟨rs.zipIdx.mergeSort (λa b=> !rB b a),yY _ _,?_⟩;have h1:(rs.zipIdx.mergeSort (λa b=> !rB b a)).Pairwise (λa b=>(!rB b a)=true):=by
  apply List.pairwise_mergeSort
  ·intro a b c e f;rw[ib]at*
   rw[tx]at*
   intro h;apply e;rw[pI]at*
   by_cases j:b.1<c.1\/(c.1=b.1/\c.2<b.2);·exact absurd (by rw[pI];omega) f
   ·omega
  ·intro a b;rw[jI,ib,ib];rcases hb:rB b a with _|_;·exact .inl rfl
   ·exact .inr (PM _ _ hb)
 have h2:(rs.zipIdx.mergeSort (λa b=> !rB b a)).Pairwise (λa b=>a.2≠b.2):=by
  have:=((yY rs.zipIdx (λa b=> !rB b a)).map (·.2)).nodup_iff.2 PO;exact kL.1 this
 refine(h1.and h2).imp ?_;rintro a b ⟨d,g⟩;rw[ib,tx]at d;rw[pI];have i:¬ (a.1<b.1\/(b.1=a.1/\b.2<a.2)):=λh=>d (pI.2 h);omega
def kU:bS->bA Nat->bS
 |out,[]=>out
 |out,a::r=>kU (out.set a (out.getD a 0+1)) r
def DW:∀(b:bA Nat) (out:bS),(kU out b).length=out.length
 |[],_=>rfl
 |a::r,out=>by rw[kU,DW r];simp
def PR:∀(c:bA Nat) (out:bS) (a:Nat),kU out (c++[a])=(kU out c).set a ((kU out c).getD a 0+1)
 |[],out,a=>rfl
 |b::r,out,a=>by rw[o5,kU,kU,PR r]
def yk:∀(b:bA Nat) (out:bS) (i:Nat) (x:Int),b.Nodup->out[i]?=some x->(kU out b)[i]?=some (x+if i∈b then 1 else 0)
 |[],out,i,x,_,hx=>by simp[kU,hx]
 |a::r,out,i,x,hn,hx=>by
  have c:=rH.1 hn;have d:i<out.length:=(cZ.1 hx).1;rw[kU];by_cases e:a=i
  ·subst e;have h1:(out.set a (out.getD a 0+1))[a]?=some (x+1):=by
    rw[jd d,dJ,hx];rfl
   rw[yk r _ _ _ c.2 h1,bJ c.1,bK (by simp)];simp
  ·have h1:(out.set a (out.getD a 0+1))[i]?=some x:=by rw[iE e];exact hx
   rw[yk r _ _ _ c.2 h1];have:(i∈a::r)↔i∈r:=by rw[ew];exact⟨λh=>h.resolve_left (λh=>e h.symm),.inr⟩
   simp only[this]
def my(x:Int)(l:bS):cj (x::l)=x+cj l:=by
 have h:∀(l:bS) (a b:Int),l.foldl (· + ·) (a+b)=a+l.foldl (· + ·) b:=by
  intro l;induction l with
  |nil=>intro a b;rfl
  |cons y l c=>intro a b;rw[Gd,Gd,Gn,c]
 unfold cj;rw[Gd,Int.add_comm,h]
def rn:cj []=0:=rfl
def PT:∀ {l:bS} {i:Nat},i<l.length->cj (l.set i (l.getD i 0+1))=cj l+1
 |x::l,0,_=>by simp[my];omega
 |x::l,i+1,h=>by
  have:=PT (l:=l) (i:=i) (by simpa using h);simp only[S6,List.getD_cons_succ,my,this];omega
def PU:∀(b:bA Nat) (out:bS),(∀i∈b,i<out.length)->cj (kU out b)=cj out+b.length
 |[],out,_=>by simp[kU]
 |a::r,out,h=>by
  rw[kU,PU r _ (by intro i c;simpa using h i (fY _ c)),PT (h a (by simp))];simp;omega
end Go.Kc
namespace Go.Kc
def hS(n:Int)(ws:bS):bS:=ws.map λw=>n*w/cj ws
def gu(n:Int)(ws:bS):bS:=ws.map λw=>n*w%cj ws
def ja(n:Int)(ws:bS):Int:=n-cj (hS n ws)
def PV{n:Int}{ws:bS}(hr:iy n ws=true)(a:cj ws≠0):
  iZ n ws=ws.zipIdx.map λp:Int×Nat=>n*p.1/cj ws+if(ahead (gu n ws) p.2 (n*p.1%cj ws):Int)<ja n ws then 1 else 0:=by
 unfold iZ;rw[bJ (by rw[hr];decide),bJ a];rfl
def DX:∀(a b:bS),cj (a++b)=cj a+cj b
 |[],b=>by simp[rn]
 |x::a,b=>by rw[o5,my,my,DX a b];omega
def PW(n:Int):∀ws:bS,cj (ws.map (n* ·))=n*cj ws
 |[]=>by simp[rn]
 |w::ws=>by rw[kh,my,my,PW n ws,Int.mul_add]
def PX(m:Int)(f:Int->Int):∀ws:bS,cj (ws.map f)=m*cj (ws.map λw=>f w/m)+cj (ws.map λw=>f w%m)
 |[]=>by simp[rn]
 |w::ws=>by
  rw[kh,kh,kh,my,my,my,PX m f ws,Int.mul_add];have:=Int.mul_ediv_add_emod (f w) m;omega
def oc:∀ {l:bS},(∀x∈l,0<=x)->0<=cj l
 |[],_=>by simp[rn]
 |x::l,h=>by
  rw[my];have:=h x (by simp);have:=oc (l:=l) (λy a=>h y (fY _ a));omega
def PY{m:Int}:∀ {l:bS},(∀x∈l,0<=x/\x<=m)->cj l<=m*(l.countP λx=>decide (0<x))
 |[],_=>by simp[rn]
 |x::l,h=>by
  rw[my,Gb];have h1:=h x (by simp);have h2:=PY (l:=l) (λy a=>h y (fY _ a));by_cases hx:0<x;·rw[bK (by simpa using hx),Gg,Int.mul_add];omega
  ·rw[bJ (by simpa using hx)];simp;omega
def aHq{l:bS}(h:∀x∈l,0<=x){x:Int}(hx:x∈l):x<=cj l:=by
 induction l with
 |nil=>cases hx
 |cons y l b=>
  rw[my];have h1:=h y (by simp);have h2:=oc (l:=l) (λz a=>h z (fY _ a));rcases ew.1 hx with rfl|hx;·omega
  ·have:=b (λz a=>h z (fY _ a)) hx;omega
def s3{n:Int}{ws:bS}(h:iy n ws=true):(0<=n/\n<=1048576)/\ws.length<=64/\∀w∈ws,0<=w/\w<=top:=by
 simpa[iy,and_assoc]using h
variable{n:Int}{ws:bS}
def aG1:cj ws*ja n ws=cj (gu n ws):=by
 have h:=PX (cj ws) (n* ·) ws;rw[PW]at h;unfold ja hS gu;rw[Int.mul_sub,Int.mul_comm _ n];omega
def DY(a:0<cj ws):∀x∈gu n ws,0<=x/\x<cj ws:=by
 intro x hx;obtain⟨w,_,rfl⟩:=fA.1 hx;exact⟨Gi _ bu,Int.emod_lt_of_pos _ a⟩
def s5(a:0<cj ws):0<=ja n ws/\ja n ws<=(gu n ws).countP (λx=>decide (0<x)):=by
 have h1:=aG1 (n:=n) (ws:=ws);have h2:=oc (l:=gu n ws) (λx hx=>(DY a x hx).1);have b:=PY (m:=cj ws) (l:=gu n ws) (λx hx=>⟨(DY a x hx).1,Int.le_of_lt (DY a x hx).2⟩);rw[<- h1]at h2 b;exact⟨Int.nonneg_of_mul_nonneg_right h2 a,Int.le_of_mul_le_mul_left b a⟩
def PZ(a:0<cj ws):ja n ws<=ws.length:=by
 have h1:=(s5 (n:=n) a).2;have h2:=FQ (p:=λx=>decide (0<x)) (l:=gu n ws);have b:(gu n ws).length=ws.length:=by simp[gu]
 omega
def aEm(a:0<cj ws){i:Nat}{r:Int}(hr:(gu n ws)[i]?=some r)(b:(ahead (gu n ws) i r:Int)<ja n ws):0<r:=by
 refine rD λhn=>?_;have h1:=(s5 (n:=n) a).2;have h2:((gu n ws).countP λx=>decide (0<x))<=ahead (gu n ws) i r:=by
  have e:(gu n ws).countP (λx=>decide (0<x))=(gu n ws).zipIdx.countP (λp=>decide (0<p.1)):=by
   conv=>lhs;rw[<- List.zipIdx_map_fst 0 (gu n ws)]
   rw[List.countP_map];rfl
  unfold ahead;rw[e,<- List.countP_eq_length_filter];refine List.countP_mono_left λp _ hp=>?_;have:0<p.1:=by simpa using hp
  rw[jI];exact .inl (by simp;omega)
 omega
def P0(hr:iy n ws=true)(a:cj ws≠0){i:Nat}{w:Int}(hw:ws[i]?=some w):(iZ n ws)[i]?=some (n*w/cj ws+if(ahead (gu n ws) i (n*w%cj ws):Int)<ja n ws then 1 else 0):=by
 rw[PV hr a,eC,List.getElem?_zipIdx,hw];simp
def acl(hr:iy n ws=true):(iZ n ws).length=ws.length:=by
 by_cases a:cj ws=0;·unfold iZ;rw[bJ (by rw[hr];decide),bK a];simp
 ·rw[PV hr a];simp
def P1(hr:iy n ws=true)(c:0<cj ws){S:bA (Int×Nat)}(hp:S.Perm (gu n ws).zipIdx)(f:S.Pairwise λa b=>rB a b=true):
  iZ n ws=kU (hS n ws) ((S.take (ja n ws).toNat).map (·.2)):=by
 apply hg;intro i;cases hw:ws[i]? with
 |none=>
  have:ws.length<=i:=FK.1 hw;rw[gQ (by rw[acl hr];exact this),gQ (by rw[DW];simpa[hS]using this)]
 |some w=>
  have h1:(hS n ws)[i]?=some (n*w/cj ws):=by simp[hS,hw]
  have h2:(gu n ws)[i]?=some (n*w%cj ws):=by simp[gu,hw]
  rw[P0 hr bu hw,yk _ _ _ _ (PQ hp _) h1];have d:=aGo hp f (m:=(ja n ws).toNat) h2;have g:=(s5 (n:=n) c).1;have e:(ahead (gu n ws) i (n*w%cj ws):Int)<ja n ws↔i∈(S.take (ja n ws).toNat).map (·.2):=by rw[<- d];omega
  simp only[e]
def aDK(hr:iy n ws=true)(a:0<cj ws):cj (iZ n ws)=n:=by
 obtain⟨S,hp,d⟩:=aFX (gu n ws);rw[P1 hr a hp d,PU _ _ (λi c=>by simpa[hS,gu]using aJh hp i c)];have h1:=PZ (n:=n) a;have h2:=(s5 (n:=n) a).1;have b:S.length=ws.length:=by rw[hp.length_eq];simp[gu]
 rw[ei,hF,b];have:ja n ws=n-cj (hS n ws):=rfl;omega
def DZ(hr:iy n ws=true)(c:0<cj ws){i:Nat}{w:Int}(hw:ws[i]?=some w):∃x,(iZ n ws)[i]?=some x/\0<=x/\(n<=cj ws->x<=w)/\(cj ws<=n->w<=x):=by
 obtain⟨⟨g,o⟩,hl,f⟩:=s3 hr;have a:=f w (eI hw);have h2:(gu n ws)[i]?=some (n*w%cj ws):=by simp[gu,hw]
 refine⟨_,P0 hr bu hw,?_⟩;have h:=Int.mul_ediv_add_emod (n*w) (cj ws);have p:=Gi (n*w) (b:=cj ws) bu;have j:=aEm (n:=n) c h2;have q:0<=n*w/cj ws:=y6 (y7 g a.1) bu;refine⟨?_,λhle=>?_,λhle=>?_⟩;·split<;>omega
 ·have d:n*w<=cj ws*w:=FI hle a.1;have k:n*w/cj ws<=w:=Int.ediv_le_of_le_mul c (by rw[Int.mul_comm w];exact d);split
  ·next l=>
   have r:=j l;have m:n*w/cj ws<w:=by
    refine rD λs=>?_;have e:n*w/cj ws=w:=by omega
    rw[e]at h;omega
   omega
  ·omega
 ·have d:cj ws*w<=n*w:=FI hle a.1;have k:w<=n*w/cj ws:=(Int.le_ediv_iff_mul_le c).2 (by rw[Int.mul_comm w];exact d);split<;>omega
end Go.Kc
namespace Go.Mp
open Go Go.Vc Go.Sp Go.Proofs Go.Kc Go.Mp.Sh
variable{E:Env}{L:ct}{w:bI}
def P2(x:Int)(w:bI):Calls P CE #[.int .u64 x] w (cz λv w'=>v=.bool false/\w'=w):=by
 apply X1;exact⟨by simp,rfl⟩
def aDf(x y:Int)(w:bI):Calls P Jd #[.int .u64 x,.int .u64 y] w (cz λv w'=>∃r:Int,v=Iv r/\decide (r<0)=decide (x<y)/\w'=w):=by
 apply XE;unfold L2 qF;refine use (P2 x w) ?_;rintro _ _ ⟨rfl,rfl⟩;refine⟨_,rfl,use (P2 y _) ?_⟩;rintro _ _ ⟨rfl,rfl⟩;refine⟨_,rfl,dH (dH (cU (λh=>⟨-1,rfl,by simp[h],rfl⟩) (λh=>fZ (λh2=>⟨1,rfl,?_,rfl⟩) (λh2=>⟨0,rfl,?_,rfl⟩))))⟩;·rw[dg (show ¬ x<y by omega)];rfl
 ·rw[dg (show ¬ x<y by omega)];rfl
def vh(a b:cQ):Prop:=b.low<a.low\/(a.low=b.low/\a.at_<b.at_)
def ym(a b:cQ):Bool:=decide (b.low<a.low)
def aJg:Sh.lr vh (λa b=>a.at_<b.at_) ym:=by
 refine⟨⟨λx y z h1 h2=>?_,λx h=>?_,λx y h=>?_⟩,λx y h e=>?_,λx y h=>?_⟩;·unfold vh at *;omega
 ·unfold vh at h;omega
 ·unfold vh;obtain⟨a,b⟩:=x;obtain⟨c,d⟩:=y;have:¬ (a=c/\b=d):=λ⟨h1,h2⟩=>h (by rw[h1,h2]);simp only;omega
 ·rw[e]at h;exact absurd h (Int.lt_irrefl _)
 ·unfold ym vh;have h:x.at_<y.at_:=h;rw[decide_eq_true_iff];omega
def s6(p:Int×Nat):cQ:=⟨p.2,p.1⟩
def pJ(x:cQ):Int×Nat:=(x.low,x.at_.toNat)
def P3(p:Int×Nat):pJ (s6 p)=p:=by simp[pJ,s6]
def aGx(x y:cQ)(h:Sep E L w):Calls P Cw #[.agg #[Iv x.at_,.int .u64 x.low],.agg #[Iv y.at_,.int .u64 y.low]] w (cz λv w'=>∃r:Int,v=Iv r/\decide (r<0)=ym x y/\Sep E L w'):=by
 apply XD;unfold L1 qQ;refine Al.i h (λa c h1=>Al.i h1 (λb w2 h2=>?_));have h2:Sep E (bC b [Iv y.at_,.int .u64 y.low]::bC a [Iv x.at_,.int .u64 x.low]::L) w2:=h2;refine ld h2 0 rfl rfl rfl (ld h2 1 rfl rfl rfl (use (aDf _ _ w2) ?_));rintro _ d ⟨r,rfl,hr,rfl⟩;exact⟨r,rfl,r,rfl,hr,h2.tail.tail⟩
def aDy(n:Nat)(l:bS)(hl:l.length=n):l.map (λ_=>(0:Int))=List.replicate n 0:=by
 rw[<- hl];simp[List.map_const']
def P4:hi P xd=some (16,2,[Iv 0,.int .u64 0]):=by kernel_rfl
def aFJ{s:Sl}{q:Nat}{l:bA cQ}{x:cQ}(hn:s.n=l.length)(hb:l.length<100000000)(h:Sep E (bC q x.vs::bw s 2 (bQ cQ.vs l)::L) w){G:Sl->bf8}(g:∀s' a,s'.n=l.length+1->Sep E (bw s' 2 (bQ cQ.vs (l++[x]))::L) a->G s' a):
  ∃d:Sl,∃a,Sem.run P (Builtin.append_ #[xd,xd] xd #[Sv s,.slice (some ⟨q,0,none⟩) 1 1]) w=.ok (Sv d) a/\G d a:=by
 have e:=Src.bC (n:=1) (c:=1) h (i:=0) rfl P4 rfl (λu hu=>by simp[cQ.vs]at hu;rcases hu with rfl|rfl<;>rfl);refine bw.append h.swap P4 rfl e bu (by rw[hn];omega) (λs' a b h1=>?_);refine g s' a (by rw[b,hn]) ?_;rw[m6,oM];exact(h1.fr 0 rfl).ro 2 [0] rfl
def aIg{s:Sl}{l:bS}{n:Int}(hn:s.n=l.length)(h:Sep E (bw s 1 (bD l)::L) w)(bd:l.length<1000000):
  Calls P xH #[Iv n,Sv s] w (cz λv w'=>∃e:Sl,v=Sv e/\e.n=(iZ n l).length/\Sep E (bw e 1 (bD (iZ n l))::bw s 1 (bD l)::L) w'):=by
 apply W2;unfold Ls qD qE qF qL qO qQ qU qW zM zN zT;dsimp only;refine use (PK hn h) ?_;rintro _ bn ⟨rfl,h1⟩;refine⟨_,rfl,?_⟩;cases hr:iy n l with
 |false=>
  have e:iZ n l= []:=by unfold iZ;rw[bK hr]
  rw[e];exact bT rfl ⟨⟨none,0,0⟩,rfl,rfl,bw.none_ h1⟩
 |true=>
  refine bF rfl ?_;obtain⟨⟨am,bg⟩,hl,c⟩:=s3 hr;refine s0 (n:=s.n) bu h1 (λI w2 u h2=>?_);rw[hn]at u h2;refine use (DV (Ints.at_ (q:=1) rfl hn) c hl h2) ?_;rintro _ bo ⟨rfl,ag⟩;refine⟨_,rfl,eQ (λe0=>?_) (λbh=>?_)⟩
  ·have e:iZ n l=List.replicate l.length 0:=by unfold iZ;rw[bJ (by rw[hr];decide),bK e0];exact aDy _ _ rfl
   rw[e];exact⟨I,rfl,by simpa using u,ag⟩
  have Z:0<cj l:=by have:=oc (l:=l) (λx hx=>(c x hx).1);omega
  have a9:cj l<=64*1099511627776:=by
   have:=(DU c l.length (ek _)).2;rw[gf]at this;omega
  have M:(hS n l).length=l.length:=by simp[hS]
  have af:(gu n l).length=l.length:=by simp[gu]
  let g:Nat->bA cQ:=λk=>((gu n l).zipIdx.take k).map s6;have d:∀k,k<=l.length->(g k).length=k:=λk hk=>by simp[g,af,hk]
  refine⟨λrs left i w'=>∃k:Nat,i=k/\k<=l.length/\left=n-cj ((hS n l).take k)/\rs.n=k/\Sep E (bw rs 2 (bQ cQ.vs (g k))::bw I 1 (bD ((hS n l).take k++List.replicate (l.length-k) 0))::bw s 1 (bD l)::L) w',
   λ_ _ i _=>(l.length-i).toNat,⟨0,rfl,fj _,by simp[rn],rfl,bw.none_ (by simpa using ag)⟩,?_⟩
  rintro _ rs _ _ aQ ⟨k,rfl,hk,rfl,an,O⟩;obtain⟨J,t⟩:∃f:Nat->bS,f= λk=>(hS n l).take k++List.replicate (l.length-k) 0:=⟨_,rfl⟩
  have O:Sep E (bw rs 2 (bQ cQ.vs (g k))::bw I 1 (bD (J k))::bw s 1 (bD l)::L) aQ:=by rw[t];exact O
  have Y:∀k,k<=l.length->(J k).length=l.length:=λk hk=>by simp[t,M];omega
  refine cU (λbf=>?_) (λaI=>?_)
  ·have ab:k<l.length:=by omega
   obtain⟨x,hx⟩:∃x,l[k]?=some x:=⟨_,dO ab⟩
   have aO:=c x (eI hx);rw[ob]at aO;refine(Ints.at_ (q:=2) rfl hn).el O k rfl hx ?_;obtain⟨N,rfl⟩:∃N:Nat,n=N:=⟨n.toNat,bu⟩
   obtain⟨X,rfl⟩:∃X:Nat,x=X:=⟨x.toNat,bu⟩
   obtain⟨T,au⟩:∃T:Nat,cj l=T:=⟨(cj l).toNat,bu⟩
   have a8:N*X<=1048576*1099511627776:=Gk bu bu;rw[dq (n:=N) bu,dq (n:=X) bu,au,dq (n:=T) bu];refine use (aGu bu bu bu aQ) ?_;rintro _ _ ⟨rfl,rfl⟩;refine⟨_,_,rfl,use (Pk bu bu O) ?_⟩;rintro _ aR ⟨rfl,B⟩;refine⟨_,_,rfl,?_⟩;have bi:N*X/T<=N*X:=Gf _ _;have G:(hS N l)[k]?=some ((N*X/T:Nat):Int):=by simp[hS,hx,au]
   have ai:(gu N l)[k]?=some ((N*X%T:Nat):Int):=by simp[gu,hx,au]
   generalize N*X/T=Q at*
   generalize N*X%T=R at*
   rw[cP (n:=((Q:Nat):Int)) bu bu];refine kE (B.fr 1 rfl) (by rw[Y k hk];exact u) bu (by rw[Y k hk];omega) (λaj m=>?_);have aq:(J k).set ((k:Nat):Int).toNat ((Q:Nat):Int)=J (k+1):=by
    rw[dA,t];simp only;rw[fL G,jx k _ (by simp;omega),dj];congr 1;rw[hF,M,o6 hk,iV,show l.length-k=(l.length-(k+1))+1 by omega,oo];rfl
   rw[aq]at m;have m:Sep E (bw I 1 (bD (J (k+1)))::bw rs 2 (bQ cQ.vs (g k))::bw s 1 (bD l)::L) aj:=m;have aC:(J (k+1))[k]?=some ((Q:Nat):Int):=by
    rw[t];simp only;rw[eM (by simp;omega),o3,eK];exact G
   refine(Ints.at_ (q:=0) rfl (by rw[Y _ ab];exact u)).el m k rfl aC ?_;refine Al.i m (λp aS C=>?_);have C:Sep E (bC p (cQ.vs ⟨k,((R:Nat):Int)⟩)::bw rs 2 (bQ cQ.vs (g k))::bw I 1 (bD (J (k+1)))::bw s 1 (bD l)::L) aS:=C.ro 3 [0,2,1] rfl;refine aFJ (by rw[d k hk];exact an) (by rw[d k hk];omega) C (λs' aT aK D=>?_);have aW:g k++[⟨k,((R:Nat):Int)⟩]=g (k+1):=by
    have:((gu N l).zipIdx)[k]?=some (((R:Nat):Int),k):=by rw[List.getElem?_zipIdx,ai];simp
    simp only[g];rw[fL this,k3];rfl
   rw[aW]at D;have a5:=yi G;have ba:0<=cj ((hS (N:Int) l).take k):=oc λy o=>by
    obtain⟨z,ay,rfl⟩:=fA.1 (nP o);exact y6 (y7 bu (c z ay).1) bu
   have bb:cj ((hS (N:Int) l).take (k+1))<=cj (hS (N:Int) l):=by
    conv=>rhs;rw[<- fK (k+1) (hS (N:Int) l)]
    have:0<=cj ((hS (N:Int) l).drop (k+1)):=oc λy o=>by
     obtain⟨z,ay,rfl⟩:=fA.1 (tr o);exact y6 (y7 bu (c z ay).1) bu
    rw[DX];omega
   have al:=(s5 (n:=(N:Int)) Z).1;have a2:ja (N:Int) l=N-cj (hS (N:Int) l):=rfl;rw[dc,cP bu bu];refine⟨⟨k+1,rfl,ab,bu,by rw[aK,d k hk],by rw[t]at D;exact D⟩,?_⟩;show(((l.length:Nat):Int)-((k+1:Nat):Int)).toNat<(((l.length:Nat):Int)-(k:Int)).toNat;omega
  ·have:k=l.length:=by omega
   clear aI;have ae:g k=(gu n l).zipIdx.map s6:=by simp only[g];rw[iw (by simp[af];omega)]
   have aw:n-cj ((hS n l).take k)=ja n l:=by rw[this,<- M,gf];rfl
   have aB:J k=hS n l:=by
    rw[t,this];simp only;rw[iV,<- M,gf];simp
   rw[aw];rw[aB]at O;have aY:(g k).Pairwise (λa b=>a.at_<b.at_):=by
    rw[ae,kL];have B:((gu n l).zipIdx.map (·.2)).Pairwise (· < ·):=by rw[List.zipIdx_map_snd];exact List.pairwise_lt_range'
    exact(kL.1 B).imp (λ{a b} h=>by show(a.2:Int)<(b.2:Int);omega)
   refine use (Sh.DT aJg aY (by rw[d k hk];exact an) (by rw[d k hk];omega) ?_ O) ?_
   ·intro bm x y aR _ B;exact⟨Cw,_,rfl,by kernel_rfl,use (K:=λv w'=>∃r:Int,v=Iv r/\decide (r<0)=ym x y/\Sep E _ w') (aGx x y B) (λv w' ⟨r,a6,hr,a4⟩=>⟨r,by rw[a6],hr,a4⟩)⟩
   rintro _ aR ⟨rfl,l',H,ax,B⟩;have av:l'.length=l.length:=by rw[H.length_eq,d k hk,this]
   have ad:∀x∈l',0<=x.at_/\s6 (pJ x)=x:=by
    intro x hx;have:=H.mem_iff.1 hx;rw[ae]at this;obtain⟨p,_,rfl⟩:=fA.1 this;exact⟨by show(0:Int)<=(p.2:Int);omega,by rw[P3]⟩
   obtain⟨S,U⟩:∃S,S=l'.map pJ:=⟨_,rfl⟩
   have aa:S.Perm (gu n l).zipIdx:=by
    have:=H.map pJ;rw[ae,tG,show pJ ∘ s6=id from funext P3,List.map_id]at this;rw[U];exact this
   have aD:S.Pairwise λa b=>rB a b=true:=by
    rw[U,kL];refine FL (λ{a b} ah hb aE=>?_) ax;have h1:=(ad a ah).1;have h2:=(ad b hb).1;rw[pI];show b.low<a.low\/(a.low=b.low/\a.at_.toNat<b.at_.toNat);rcases aE with h|⟨ag,O⟩
    ·exact .inl h
    ·exact .inr ⟨ag,bu⟩
   have aL:=P1 hr Z aa aD;have al:=s5 (n:=n) Z;have be:=PZ (n:=n) Z;have aZ:=bw.cap B;refine⟨rfl,⟨al.1,bu⟩,?_⟩;obtain⟨A,V⟩:∃A:Nat->bS,A= λj=>kU (hS n l) ((S.take j).map (·.2)):=⟨_,rfl⟩
   have W:∀j,(A j).length=l.length:=λj=>by rw[V];simp only[DW,M]
   have az:A 0=hS n l:=by rw[V];rfl
   have aA:∀j (i:Nat),i<l.length->0<=(A j).getD i 0/\(A j).getD i 0<=1048577:=by
    intro j i a1;obtain⟨x,hx⟩:∃x,l[i]?=some x:=⟨_,dO a1⟩
    have aM:=c x (eI hx);have aN:=aHq (λy o=>(c y o).1) (eI hx);have hb:(hS n l)[i]?=some (n*x/cj l):=by simp[hS,hx]
    have:=yk _ _ _ _ (PQ aa j) hb;rw[V,dJ];simp only;rw[this];have D:0<=n*x/cj l:=y6 (y7 am aM.1) bu;have ar:n*x/cj l<=n:=Int.ediv_le_of_le_mul Z (be0 aN am);simp only[mI];split<;>omega
   rw[<- az]at B;refine⟨λx w'=>∃j:Nat,x=j/\j<=(ja n l).toNat/\Sep E (bw rs 2 (bQ cQ.vs l')::bw I 1 (bD (A j))::bw s 1 (bD l)::L) w',λx _=>(ja n l-x).toNat,⟨0,rfl,fj _,B⟩,?_⟩;rintro _ x aj ⟨j,rfl,bl,m⟩;refine cU (λa3=>?_) (λa0=>?_)
   ·have aJ:j<l'.length:=by omega
    obtain⟨y,o⟩:∃y,l'[j]?=some y:=⟨_,dO aJ⟩
    have ap:=(ad y (eI o)).1;have aP:y.at_.toNat<l.length:=by
     have C:S[j]?=some (pJ y):=by rw[U,eC,o];rfl
     have D:=yj.1 (aa.mem_iff.1 (eI C));have:=(cZ.1 D).1;rw[af]at this;exact this
    have aH:∀ {F:Addr->Prop},(∀a,aj.cell? (a.add 0)=some (Iv y.at_)->aj.cell? (a.add 1)=some (.int .u64 y.low)->F a)->cK (gi rs.p 0 rs.c 2) ((ja n l).toNat-0) (j:Int) 2 F:=by
     intro F a7;obtain⟨b,spare,hp,_⟩:=bw.im m bu;have aX:gi rs.p 0 rs.c 2=some ⟨b,0,none⟩:=by unfold gi;rw[hp];split<;>rfl
     rw[aX];obtain⟨a,ah,hr,hf⟩:=lV (F:=F) (k:=j) cQ.kS 0 m rfl (by rw[av];omega) (i:=(j:Int)) rfl o (λb _ aF=>a7 _ (by rw[cf];exact aF 0 _ rfl) (by rw[cf];exact aF 1 _ rfl));rw[hp]at ah;have:=cR ah;subst this;exact⟨_,rfl,⟨bu,bu⟩,hf⟩
    refine aH (λa aU aV=>⟨_,aU,_,aV,Al.i m (λp aS C=>et _ C rfl (λaT D=>?_))⟩);refine ld D 0 rfl rfl rfl ?_;have ar:Sep E (bw I 1 (bD (A j))::bw rs 2 (bQ cQ.vs l')::bw s 1 (bD l)::L) aT:=D.tail.fr 1 rfl;have ao:I.n=(A j).length:=by rw[W];exact u
    refine mu 0 ar rfl ao ap (by rw[W];omega) (λbk aG=>⟨_,aG,?_⟩);have bc:=aA j y.at_.toNat aP;rw[cP bu bu];refine kE ar ao ap (by rw[W];omega) (λbj ak=>?_);have e:(A j).set y.at_.toNat ((A j).getD y.at_.toNat 0+1)=A (j+1):=by
     rw[V];simp only;have C:S[j]?=some (pJ y):=by rw[U,eC,o];rfl
     rw[fL C,k3,kh,List.map_nil,PR];rfl
    rw[e]at ak;rw[dc];refine⟨⟨j+1,rfl,bu,ak.swap⟩,?_⟩;show(ja n l-((j+1:Nat):Int)).toNat<(ja n l-(j:Int)).toNat;omega
   ·have:j=(ja n l).toNat:=by omega
    subst this;have e:A (ja n l).toNat=iZ n l:=by rw[aL,V]
    rw[e]at m;exact⟨I,rfl,by rw[u,acl hr],m.tail⟩
end Go.Mp
namespace Go.Kc
def iD(n:Int)(l:bS):bS:=List.zipWith min (iZ n l) l
variable{n:Int}{l:bS}
def D0(hr:iy n l=true):(iD n l).length=l.length:=by
 simp[iD,acl hr]
def rp(hr:iy n l=true)(a:0<cj l){i:Nat}{x:Int}(hx:l[i]?=some x):∃p,(iZ n l)[i]?=some p/\(iD n l)[i]?=some (min p x)/\0<=min p x/\min p x<=x:=by
 obtain⟨p,hp,h1,h2,b⟩:=DZ hr a hx;have c:=(s3 hr).2.2 x (eI hx);refine⟨p,hp,by simp[iD,FR,hp,hx],bu,bu⟩
def D1(hr:iy n l=true)(b:0<cj l)(hn:0<n):iD n l=jk n l:=by
 unfold jk;rw[bJ (by rw[hr];decide),cD];by_cases hle:cj l<=n
 ·rw[bK hle];apply hg;intro i;cases hx:l[i]? with
  |none=>
   have:=FK.1 hx;exact gQ (by rw[D0 hr];exact this)
  |some x=>
   obtain⟨p,hp,h1,h2,d⟩:=DZ hr b hx;obtain⟨p',a,c,_,_⟩:=rp hr b hx;rw[hp]at a;cases a;rw[c,Int.min_eq_right (d hle)]
 ·rw[bJ hle];apply hg;intro i;cases hx:l[i]? with
  |none=>
   have:=FK.1 hx;rw[gQ (by rw[D0 hr];exact this),gQ (by rw[acl hr];exact this)]
  |some x=>
   obtain⟨p,hp,h1,h2,d⟩:=DZ hr b hx;obtain⟨p',a,c,_,_⟩:=rp hr b hx;rw[hp]at a;cases a;rw[c,hp,Int.min_eq_left (h2 bu)]
def aF1(hr:iy n l=true)(a:0<cj l)(hn:0<n):0<cj (iD n l)/\cj (iD n l)<=n/\(cj (iD n l)=n\/iD n l=l):=by
 have e:=D1 hr a hn;rw[e];unfold jk;rw[bJ (by rw[hr];decide),cD];by_cases hle:cj l<=n;·rw[bK hle];exact⟨a,hle,.inr rfl⟩
 ·rw[bJ hle,aDK hr a];exact⟨hn,g2 _,.inl rfl⟩
def D2(hr:iy n l=true)(h:n<=0\/cj l=0):jk n l=List.replicate l.length 0:=by
 have h1:=(s3 hr).1.1;unfold jk;rw[bJ (by rw[hr];decide),eK];simp[List.map_const']
end Go.Kc
namespace Go.Mp
open Go Go.Vc Go.Sp Go.Proofs Go.Kc Go.Mp.Sh
variable{E:Env}{L:ct}{w:bI}
def oS(n:Int)(c h:Sl)(K:bf9)(w:bI):Prop:=
  ∃(i:Int->bf8) (l:Int->bI->Nat),i n w/\∀C:Nat->bE,∀n14:Int,∀f:bI,i n14 f->∃k:bf8,(bif(decide (n14
   >0))then(Calls P uI #[(Sv c)] f λz p=>∃s:Int,z=.returned (Iv s)/\bif(decide (s>0))then(k p)else
   (K (Sv h) p))else(K (Sv h) f))/\(∀D:Nat->bE,∀o:bI,k o->Calls P xH #[(Iv n14),
   (Sv c)] o λA B=>∃g:Sl,A=.returned (Sv g)/\∃(j:Int->Int->bf8) (m:Int->Int->bI->Nat),
   j n14 0 B/\∀E:Nat->bE,∀n28:Int,∀a:Int,∀b:bI,j n28 a b->bif(decide (a<((g.n:Nat):Int)))then(cK g.p g.n a 1
   λv=>∃d:Int,b.cell? v=some (Iv d)/\cK c.p c.n a 1 λa32=>∃e:Int,b.cell? a32=some (Iv e)/\cK h.p h.n a 1
   λx=>∃t:Int,b.cell? x=some (Iv t)/\cK h.p h.n a 1 λa36=>St a36 (Iv (i64.wrap (t+(min1 d e)))) (λq=>
   cK c.p c.n a 1 λy=>∃u:Int,q.cell? y=some (Iv u)/\cK c.p c.n a 1 λa40=>St a40 (Iv (i64.wrap (u-(min1 d
   e)))) (λr=>(j (i64.wrap (n28-(min1 d e))) (i64.wrap (a+1)) r/\m (i64.wrap (n28-(min1 d e))) (i64.wrap
   (a+1)) r<m n28 a b)) q) b)else((i n28 b/\l n28 b<l n14 f)))
def P5{n:Int}{l:bS}{o d:Sl}{K:bf9}{M:ct}(hr:iy n l=true)(z:o.n=l.length)(S:d.n=l.length)(h:Sep E (bw o 1 (bD l)::bw d 1 (bD (List.replicate l.length 0))::M) w)(hK:∀w',Sep E (bw d 1 (bD (jk n l))::M) w'->K (Sv d) w'):oS n o d K w:=by
 unfold oS;obtain⟨⟨aq,ar⟩,hl,u⟩:=s3 hr;let st2:Int->bf8:=λn' w'=>∃r:bS,(n'<=0\/cj r=0)/\r.length=l.length/\(∀x∈r,0<=x/\x<=top)/\Sep E (bw o 1 (bD r)::bw d 1 (bD (jk n l))::M) w';refine⟨λn' w'=>(n'=n/\Sep E (bw o 1 (bD l)::bw d 1 (bD (List.replicate l.length 0))::M) w')\/st2 n' w',λn' _=>n'.toNat,.inl ⟨rfl,h⟩,?_⟩;rintro _ n' aD (⟨rfl,h1⟩|⟨r,P,au,ag,h1⟩);rotate_left
 ·refine⟨λ_=>False,fZ (λR=>?_) (λhle=>hK _ h1.tail),λ_ _ hf=>hf.elim⟩;refine use (DV (Ints.at_ (q:=0) rfl bu) ag bu h1) ?_;rintro _ w2 ⟨rfl,h2⟩;exact⟨_,rfl,fZ (λJ=>bu) (λ_=>hK _ h2.tail)⟩
 refine⟨λw'=>0<n'/\0<cj l/\Sep E (bw o 1 (bD l)::bw d 1 (bD (List.replicate l.length 0))::M) w',fZ (λR=>?_) (λhle=>hK _ ?_),?_⟩
 ·refine use (DV (Ints.at_ (q:=0) rfl z) u hl h1) ?_;rintro _ w2 ⟨rfl,h2⟩;refine⟨_,rfl,fZ (λJ=>⟨R,J,h2⟩) (λhle=>hK _ ?_)⟩;have:=oc (l:=l) (λx hx=>(u x hx).1);rw[D2 hr (.inr bu)];exact h2.tail
 ·rw[D2 hr (.inl bu)];exact h1.tail
 rintro _ w2 ⟨L,D,h2⟩;refine use (aIg z h2 bu) ?_;rintro _ aj ⟨ps,rfl,T,U⟩;refine⟨ps,rfl,?_⟩;rw[acl hr]at T;have b:=D0 hr;obtain⟨O,H⟩:∃f:Nat->bS,f= λk=>(iD n' l).take k++List.replicate (l.length-k) 0:=⟨_,rfl⟩
 obtain⟨F,G⟩:∃f:Nat->bS,f= λk=>(List.zipWith (· - ·) l (iD n' l)).take k++l.drop k:=⟨_,rfl⟩
 have I:∀k,k<=l.length->(O k).length=l.length:=λk hk=>by rw[H];simp[b];omega
 have B:∀k,k<=l.length->(F k).length=l.length:=λk hk=>by rw[G];simp[b];omega
 have aa:O 0=List.replicate l.length 0:=by rw[H];simp
 have X:F 0=l:=by rw[G];simp
 have ab:O l.length=iD n' l:=by rw[H];simp only;rw[iV,<- b,gf];simp
 have Y:F l.length=List.zipWith (· - ·) l (iD n' l):=by rw[G];simp only;rw[iw (by simp[b]),wc,hv]
 have U:Sep E (bw ps 1 (bD (iZ n' l))::bw o 1 (bD (F 0))::bw d 1 (bD (O 0))::M) aj:=by rw[aa,X];exact U
 have C:∀k,0<=cj ((iD n' l).take k):=λk=>oc λy N=>by
  obtain⟨i,j⟩:=pW.1 (nP N);have c:=(cZ.1 j).1;rw[b]at c;obtain⟨p,_,g,s,_⟩:=rp hr D (dO c);rw[g]at j;cases j;exact s
 obtain⟨am,an,af⟩:=aF1 hr D L;refine⟨λm x w'=>∃k:Nat,x=k/\k<=l.length/\m=n'-cj ((iD n' l).take k)/\Sep E (bw ps 1 (bD (iZ n' l))::bw o 1 (bD (F k))::bw d 1 (bD (O k))::M) w',λ_ x _=>(l.length-x).toNat,⟨0,rfl,fj _,by simp[rn],U⟩,?_⟩;rintro _ _ _ aE ⟨k,rfl,hk,rfl,A⟩;refine cU (λap=>?_) (λao=>?_)
 ·have v:k<l.length:=by omega
  obtain⟨x,hx⟩:∃x,l[k]?=some x:=⟨_,dO v⟩
  obtain⟨p,hp,V,az,aA⟩:=rp hr D hx;have ah:=u x (eI hx);rw[ob]at ah;have Q:(F k)[k]?=some x:=by
   rw[G];simp only;rw[fM (by rw[hF,List.length_zipWith,b];omega)];simp[b,o6 hk,hx]
  have ad:(O k)[k]?=some 0:=by
   rw[H];simp only;rw[fM (by simp;omega)];rw[hF,b,o6 hk,iV,om,eK]
  refine(Ints.at_ (q:=0) rfl (by rw[acl hr];exact T)).el A k rfl hp ?_;refine(Ints.at_ (q:=1) rfl (by rw[B k hk];exact z)).el A k rfl Q ?_;refine(Ints.at_ (q:=2) rfl (by rw[I k hk];exact S)).el A k rfl ad ?_;have em:min1 p x=min p x:=by unfold min1;omega
  rw[em];generalize hm:min p x=t at*
  rw[cP (n:=0+t) bu bu];refine kE (A.fr 2 rfl) (by rw[I k hk];exact S) bu (by rw[I k hk];omega) (λak g=>?_);have ae:(O k).set ((k:Nat):Int).toNat (0+t)=O (k+1):=by
   rw[dA,zd,H];simp only;rw[fL V,jx k _ (by simp;omega),dj];congr 1;rw[hF,b,o6 hk,iV,show l.length-k=(l.length-(k+1))+1 by omega,oo];rfl
  rw[ae]at g;have g:Sep E (bw d 1 (bD (O (k+1)))::bw ps 1 (bD (iZ n' l))::bw o 1 (bD (F k))::M) ak:=g;refine(Ints.at_ (q:=2) rfl (by rw[B k hk];exact z)).el g k rfl Q ?_;rw[cP (n:=x-t) bu bu];refine kE (g.fr 2 rfl) (by rw[B k hk];exact z) bu (by rw[B k hk];omega) (λal s=>?_);have Z:(F k).set ((k:Nat):Int).toNat (x-t)=F (k+1):=by
   rw[dA,G];simp only;have P:(List.zipWith (· - ·) l (iD n' l))[k]?=some (x-t):=by simp[FR,hx,V]
   rw[fL P,jx k _ (by simp;omega),dj];congr 1;rw[hF,List.length_zipWith,b,Nat.min_self,o6 hk,iV];rw[lG v];rfl
  rw[Z]at s;have s:Sep E (bw o 1 (bD (F (k+1)))::bw d 1 (bD (O (k+1)))::bw ps 1 (bD (iZ n' l))::M) al:=s;have av:=yi V;have aw:=C k;have ax:=C (k+1);have ay:cj ((iD n' l).take (k+1))<=cj (iD n' l):=by
   conv=>rhs;rw[<- fK (k+1) (iD n' l)]
   rw[DX];have:0<=cj ((iD n' l).drop (k+1)):=oc λy N=>by
    obtain⟨i,j⟩:=pW.1 (tr N);have c:=(cZ.1 j).1;rw[b]at c;obtain⟨p,_,g,s,_⟩:=rp hr D (dO c);rw[g]at j;cases j;exact s
   omega
  rw[dc,cP bu bu];refine⟨⟨k+1,rfl,v,bu,s.ro 3 [2,0,1] rfl⟩,?_⟩;show(((l.length:Nat):Int)-((k+1:Nat):Int)).toNat<(((l.length:Nat):Int)-(k:Int)).toNat;omega
 ·have v:k=l.length:=by omega
  subst v;rw[ab,Y]at A;have W:(iD n' l).take l.length=iD n' l:=by rw[<- b,gf]
  rw[W];refine⟨.inr ⟨List.zipWith (· - ·) l (iD n' l),?_,by simp[b],?_,?_⟩,by show(n'-cj (iD n' l)).toNat<n'.toNat;omega⟩;rotate_left
  ·intro y N;obtain⟨i,j⟩:=pW.1 N;have c:=(cZ.1 j).1;simp[b]at c;obtain⟨p,_,g,s,aB⟩:=rp hr D (dO c);have aC:=u _ (oq c);rw[FR,dO c,g]at j;simp only[fS]at j;omega
  ·rw[D1 hr D L]at A ⊢;exact A.tail
  ·rcases af with e|e;·exact .inl bu
   ·refine .inr ?_;rw[e];have:List.zipWith (· - ·) l l=l.map (λ_=>(0:Int)):=by
     apply hg;intro i;rw[FR,eC];cases l[i]? <;>simp
    rw[this];have P:∀m:bS,cj (m.map λ_=>(0:Int))=0:=by
     intro m;induction m with
     |nil=>rfl
     |cons a m ai=>rw[kh,my,ai];rfl
    exact P l
def aGq{s:Sl}{l:bS}{n:Int}(hn:s.n=l.length)(hb:l.length<1000000)(h:Sep E (bw s 1 (bD l)::L) w):
  Calls P IF #[Iv n,Sv s] w (cz λv w'=>∃e:Sl,v=Sv e/\e.n=(jk n l).length/\Sep E (bw e 1 (bD (jk n l))::bw s 1 (bD l)::L) w'):=by
 obtain⟨K,hK⟩:∃K:bf9,K= λv w'=>∃e:Sl,v=Sv e/\e.n=(jk n l).length/\Sep E (bw e 1 (bD (jk n l))::bw s 1 (bD l)::L) w':=⟨_,rfl⟩
 rw[<- hK];apply We;unfold KP qD qF qI qJ qO qQ qW qg;refine use (PK hn h) ?_;rintro _ k ⟨rfl,h1⟩;refine⟨_,rfl,?_⟩;cases hr:iy n l with
 |false=>
  have e:jk n l= []:=by unfold jk;rw[bK hr]
  exact bT rfl (by rw[hK,e];exact⟨⟨none,0,0⟩,rfl,rfl,bw.none_ h1⟩)
 |true=>
  refine bF rfl (Dr.i h1 (λi g=>?_));have j:(jk n l).length=l.length:=by
   unfold jk;rw[bJ (by rw[hr];decide)];split;·simp
   ·split;·rfl
    ·exact acl hr
  have A:∃x:Sl,∃a:bI,Sem.run P (Instr.makeSlice mr (Iv ((s.n:Nat):Int)) (Iv ((s.n:Nat):Int))) i=.ok (Sv x) a/\Calls P uH #[Sv s] a λe b=>∃y:Sl,e=.returned (Sv y)/\oS n y x K b:=by
   refine s0 (n:=s.n) bu g (λx a hx c=>?_);refine use (PJ c (q:=1) rfl hn bu) ?_;rintro _ b ⟨y,rfl,f,d⟩;rw[hn]at d;refine⟨y,rfl,P5 hr f bu d (λw' h'=>?_)⟩;rw[hK];exact⟨x,rfl,bu,h'⟩
  have B:Calls P uH #[Sv s] i λe b=>∃y:Sl,e=.returned (Sv y)/\∃x:Sl,∃a:bI,Sem.run P (Instr.makeSlice mr (Iv ((s.n:Nat):Int)) (Iv ((s.n:Nat):Int))) b=.ok (Sv x) a/\oS n y x K a:=by
   refine use (PJ g (q:=0) rfl hn bu) ?_;rintro _ b ⟨y,rfl,f,d⟩;refine⟨y,rfl,s0 (n:=s.n) bu d (λx a hx c=>?_)⟩;rw[hn]at c;refine P5 hr f bu c.swap (λw' h'=>?_);rw[hK];exact⟨x,rfl,bu,h'⟩
  try simp only[and_true]
  repeat' first|exact A|exact B|apply And.intro
end Go.Mp
namespace Go.Mp
open Go Go.Vc Go.Sp Go.Proofs Go.Kc
variable{E:Env}{L:ct}{w W:bI}
structure c4 where
 c:eP
 failed:Int
 js:Int
def c4.vs(r:c4):bA bE:=[Iv r.c.use,Iv r.c.cB,Iv r.failed,Iv r.js]
def c4.lz(r:c4):r.vs.length=4:=rfl
def c7(b:Nat)(C:bA eP):Asn:=fa λR:bA c4=>cG (R.map c4.c=C/\hz C) (bC b (bQ c4.vs R))
def c7.get{b:Nat}{C:bA eP}(h:Sep E (c7 b C::L) w):∃R:bA c4,R.map c4.c=C/\hz C/\R.length=64/\Sep E (bC b (bQ c4.vs R)::L) w:=by
 obtain⟨R,h⟩:=Sep.ex.1 h;obtain⟨hn,h⟩:=Sep.cG.1 h;refine⟨R,hn.1,hn.2,?_,h⟩;have:=hn.2.len;rw[<- hn.1,ei]at this;exact this
def c7.mk{b:Nat}{C:bA eP}{R:bA c4}(h1:R.map c4.c=C)(h2:hz C)(h:Sep E (bC b (bQ c4.vs R)::L) w):Sep E (c7 b C::L) w:=Sep.ex.2 ⟨R,Sep.cG.2 ⟨⟨h1,h2⟩,h⟩⟩
def c7.ok{b:Nat}{C:bA eP}{q:Nat}(h:Sep E L w)(a:L[q]?=some (c7 b C)):hz C:=let ⟨_,_,h2,_⟩:=c7.get (h.fr q a);h2
def D3(g:Int)(w:bI):Calls P xx #[Iv g] w (cz λv w'=>v=.bool (fU g)/\w'=w):=by
 apply VA;unfold Kn fU;exact h6 (λh=>⟨by rw[dF h];rfl,rfl⟩) (λh=>⟨by rw[dg bu];rfl,rfl⟩)
def P6(g:Int)(w:bI):Calls P B6 #[Iv g] w (cz λv w'=>v=.bool (gT g)/\w'=w):=by
 apply WQ;unfold Ll gT top;exact h6 (λh=>⟨by rw[dF h];rfl,rfl⟩) (λh=>⟨by rw[dg bu];rfl,rfl⟩)
variable{b:Nat}{C:bA eP}
def D4{R:bA c4}(h1:R.map c4.c=C){g:Int}(a:fU g=true){r:c4}(hr:R[g.toNat]?=some r):hy C g=r.c:=by
 unfold hy;rw[a,bK rfl,<- h1,dJ,eC,hr];rfl
def vi{q:Nat}(h:Sep E L w)(l:L[q]?=some (c7 b C))(g:Int):Calls P Bt #[Pb b,Iv g] w
  (cz λv w'=>∃f k:Int,v=.agg #[Iv (hy C g).use,Iv (hy C g).cB,Iv f,Iv k]/\Sep E L w'):=by
 apply Vt;unfold Kg qA qF qU;refine Al.i h (λp m h1=>use (D3 g m) ?_);rintro _ w2 ⟨rfl,rfl⟩;refine⟨_,rfl,?_⟩;cases i:fU g with
 |false=>
  refine eA (et _ h1 rfl (λn a=>⟨_,by rw[cf,a.cell];rfl,_,by rw[cf,a.cell];rfl,_,by rw[cf,a.cell];rfl,_,by rw[cf,a.cell];rfl,?_⟩));have e:hy C g=⟨0,0⟩:=by unfold hy;rw[i];rfl
  rw[e];exact⟨0,0,rfl,a.tail⟩
 |true=>
  obtain⟨R,j,o,hlen,h2⟩:=c7.get (h1.fr (q+1) (by simpa using l));have d:=jR.1 i;refine dH ⟨_,rfl,lo (q:=0) c4.lz h2 rfl hlen d.1 (by exact_mod_cast d.2) (λr hr c=>?_)⟩;refine⟨_,by rw[cf];exact c 0 _ rfl,_,by rw[cf];exact c 1 _ rfl,_,by rw[cf];exact c 2 _ rfl,_,by rw[cf];exact c 3 _ rfl,?_⟩;refine et _ h1 rfl (λn a=>⟨_,by rw[cf,a.cell];rfl,_,by rw[cf,a.cell];rfl,_,by rw[cf,a.cell];rfl,_,by rw[cf,a.cell];rfl,?_⟩);rw[D4 j i hr];exact⟨_,_,rfl,a.tail⟩
def yn{q:Nat}(h:Sep E L w)(a:L[q]?=some (c7 b C))(g:Int):Calls P xe #[Pb b,Iv g] w (cW E (Iv (cT C g)) L):=by
 apply Vh;unfold J3 qH;refine use (vi h a g) ?_;rintro _ c ⟨f,k,rfl,h1⟩;exact⟨_,_,_,_,rfl,rfl,h1⟩
def aIc{q:Nat}(h:Sep E L w)(a:L[q]?=some (c7 b C))(g:Int):Calls P Jr #[Pb b,Iv g] w (cW E (Iv (g8 C g)) L):=by
 apply X3;unfold Mn qH;refine use (vi h a g) ?_;rintro _ c ⟨f,k,rfl,h1⟩;exact⟨_,_,_,_,rfl,rfl,h1⟩
def D5{R:bA c4}(h1:R.map c4.c=C){g:Int}{r r':c4}(hr:R[g.toNat]?=some r)(f:eP->eP)(hf:r'.c=f r.c):(R.set g.toNat r').map c4.c=iI C g f:=by
 unfold iI;have:C.getD g.toNat ⟨0,0⟩=r.c:=by rw[<- h1,dJ,eC,hr];rfl
 rw[this,<- hf,<- h1,hG]
def s7{R:bA c4}{F:bf8}(h:Sep E (bC b (bQ c4.vs R)::L) w){k j:Nat}{r r':c4}{v:bE}(hr:R[k]?=some r)(e:j<4)(d:r'.vs=r.vs.set j v)(f:∀a,Sep E (bC b (bQ c4.vs (R.set k r'))::L) a->F a):St ((⟨b,k*4,none⟩:Addr).add j) v F w:=by
 have c:=(cZ.1 hr).1;rw[cf];refine St.i h ?_ (λa h1=>f a ?_)
 ·rw[n4 c4.lz];have:(k+1)*4<=R.length*4:=k1 _ c;omega
 ·rw[Dd c4.lz hr e d]at h1;exact h1
def P7(h:Sep E (c7 b C::L) w)(g n:Int):Calls P BG #[Pb b,Iv g,Iv n] w
  (cW E (Iv (j6 C g n).2) (c7 b (j6 C g n).1::L)):=by
 apply V7;unfold KK qF qg;have a:=(c7.ok (q:=0) h rfl).kx g n;unfold j6 at a ⊢;refine⟨λw'=>w'=w/\fU g=true/\gT n=true,use (D3 g w) ?_,?_⟩
 ·rintro _ i ⟨rfl,rfl⟩;refine⟨_,rfl,?_⟩;cases d:fU g with
  |false=>exact eA ⟨rfl,h⟩
  |true=>
   refine dH (use (P6 n i) ?_);rintro _ w2 ⟨rfl,rfl⟩;refine⟨_,rfl,?_⟩;cases hn:gT n with
   |false=>exact eA ⟨rfl,h⟩
   |true=>exact dH ⟨rfl,rfl,rfl⟩
 ·rintro _ w2 ⟨rfl,d,hn⟩;rw[d,hn]at a ⊢;obtain⟨R,f,j,hlen,h2⟩:=c7.get h;have c:=jR.1 d;refine⟨_,rfl,lo (q:=0) c4.lz h2 rfl hlen c.1 (by exact_mod_cast c.2) (λr hr k=>?_)⟩;exact s7 (r':=⟨{r.c with cB:=n},r.failed,r.js⟩) h2 hr bN rfl (λl e=>⟨rfl,c7.mk (D5 f hr (λx=> {x with cB:=n}) rfl) a e⟩)
def az7(h:Sep E L w):Calls P Ic #[] w (cz λv w'=>∃p,v=Pb p/\Sep E (c7 p mg::L) w'):=by
 apply Vz;unfold Km qO qz;refine Al.i h (λp d h1=>?_);have h1:Sep E (bC p (bQ c4.vs (List.replicate 64 ⟨⟨0,0⟩,0,0⟩))::L) d:=h1;refine⟨λx w'=>∃j:Nat,x=j/\j<=64/\Sep E (bC p (bQ c4.vs (List.replicate j ⟨⟨0,top⟩,0,0⟩++List.replicate (64-j) ⟨⟨0,0⟩,0,0⟩))::L) w',λx _=>(64-x).toNat,⟨0,rfl,bu,h1⟩,?_⟩;rintro _ x w2 ⟨j,rfl,i,h2⟩;refine cU (λb=>?_) (λf=>?_)
 ·have b:j<64:=by omega
  refine⟨_,rfl,lo (q:=0) c4.lz h2 rfl (by simp;omega) bu bu (λr hr g=>?_)⟩;rw[dA]at hr ⊢;have c:r=⟨⟨0,0⟩,0,0⟩:=by
   rw[fM (by simp),mE,iV,om,eK]at hr;exact(cR hr).symm
  subst c;refine s7 (r':=⟨⟨0,top⟩,0,0⟩) h2 hr bN rfl (λk a=>?_);have e:(List.replicate j (⟨⟨0,top⟩,0,0⟩:c4)++List.replicate (64-j) (⟨⟨0,0⟩,0,0⟩:c4)).set j (⟨⟨0,top⟩,0,0⟩:c4)=List.replicate (j+1) (⟨⟨0,top⟩,0,0⟩:c4)++List.replicate (64-(j+1)) (⟨⟨0,0⟩,0,0⟩:c4):=by
   rw[jx _ _ (by simp),mE,iV,show 64-j=(64-(j+1))+1 by omega,oo,y0,List.replicate_succ',dj];rfl
  rw[e]at a;exact⟨⟨j+1,dc,bu,a⟩,by dsimp only;rw[dc];omega⟩
 ·have:j=64:=by omega
  subst this;exact⟨p,rfl,c7.mk (by rw[iV];simp[mg]) hz.new h2⟩
def jV(met:Int->Bool):bA bE:=(List.range 64).map λi:Nat=>Value.bool (met i)
def P8{l:bS}{k:Nat}{x:Int}(hx:l[k]?=some x)(h:nodupB (l.take k)=true):nodupB (l.take (k+1))= !(l.take k).contains x:=by
 rw[fL hx];cases d:(l.take k).contains x with
 |true=>
  cases f:nodupB (l.take k++[x])with
  |false=>rfl
  |true=>
   rw[r4,v7]at f;have:=f.2.2 x (by simpa using d) x (by simp);exact absurd rfl this
 |false=>
  show nodupB _=true;rw[r4]at h ⊢;rw[v7];refine⟨h,by simp,λa g c b e=>?_⟩;rw[ia]at b;subst b e;have:=kZ.2 g;rw[d]at this;cases this
def aFv{l:bS}{k:Nat}(h:nodupB (l.take k)=false):nodupB l=false:=by
 cases a:nodupB l with
 |false=>rfl
 |true=>
  rw[r4]at a;have:(l.take k).Nodup:=a.sublist (o4 k l);rw[<- r4,h]at this;cases this
def P9{s:Sl}{l:bS}(q:Ints E L s l)(hb:l.length<4611686018427387904)(n:Int)(h:Sep E L w):Calls P B3 #[Sv s,Iv n] w (cW E (.bool (jj l n)) L):=by
 apply WM;unfold Li qD qF qO qW qm zK;refine Al.i h (λp B h1=>?_);have h1:Sep E (bC p (jV λ_=>false)::L) B:=h1;have hn:=q.1;refine⟨λx w'=>∃k:Nat,x=k/\k<=l.length/\(l.take k).all fU=true/\nodupB (l.take k)=true/\Sep E (bC p (jV λi=>(l.take k).contains i)::L) w',λx _=>(l.length-x).toNat,⟨0,rfl,fj _,by simp,by simp[nodupB],by simpa using h1⟩,?_⟩;rintro _ x w2 ⟨k,rfl,hk,a,c,h2⟩;refine cU (λF=>?_) (λD=>?_)
 ·obtain⟨y,d⟩:∃y,l[k]?=some y:=⟨_,dP⟩
  refine(q.cons (A:=bC p (jV λi=>(l.take k).contains i))).el h2 k rfl d (use (D3 y w2) ?_);rintro _ C ⟨rfl,rfl⟩;refine⟨_,rfl,?_⟩;cases m:fU y with
  |false=>
   refine eA ⟨?_,h2.tail⟩;have:l.all fU=false:=by
    cases u:l.all fU with
    |false=>rfl
    |true=>have:=fQ.1 u y (eI d);rw[m]at this;cases this
   unfold jj;rw[this];rfl
  |true=>
   have b:=jR.1 m;have g:∀(f:Int->Bool) {w':bI},Sep E (bC p (jV f)::L) w'->w'.cell? ((⟨p,0,none⟩:Addr).add (y.toNat*1))=some (.bool (f y)):=by
    intro f w' z;rw[cf,z.cell,fx,fR];unfold jV;rw[eC,na bu];simp only[gg];rw[show((y.toNat:Nat):Int)=y by omega]
   refine dH ⟨_,rfl,⟨b.1,by exact_mod_cast b.2⟩,_,g _ h2,?_⟩;cases r:(l.take k).contains y with
   |true=>
    refine eA ⟨?_,h2.tail⟩;have:nodupB l=false:=aFv (k:=k+1) (by rw[P8 d c,r];rfl);unfold jj;rw[this,rJ];rfl
   |false=>
    refine dH ⟨_,rfl,⟨b.1,by exact_mod_cast b.2⟩,?_⟩;refine eL.j h2 (by unfold jV;simp;omega) (λG o=>?_);have e:(jV λi=>(l.take k).contains i).set (0+y.toNat*1) (.bool true)=jV λi=>(l.take (k+1)).contains i:=by
     rw[fx,fR,fL d];apply hg;intro i;unfold jV;rw[hd];by_cases t:i<64
     ·by_cases j:y.toNat=i
      ·subst j;rw[bK rfl,bK (by simp;omega),eC,na t];simp only[gg,S1];rw[show((y.toNat:Nat):Int)=y by omega];simp
      ·rw[bJ j,eC,eC,na t];simp only[gg,S1];have:([y].contains ((i:Nat):Int))=false:=by simp;omega
       rw[this,o7]
     ·rw[cD,gQ (by simp;omega),gQ (by simp;omega)]
    rw[e]at o;refine⟨⟨k+1,dc,bu,?_,?_,o⟩,by dsimp only;rw[dc];omega⟩;·rw[fL d,List.all_append,a];simp[m]
    ·rw[P8 d c,r];rfl
 ·have:k=l.length:=by omega
  subst this;rw[gf]at a c;refine use (P6 n w2) ?_;rintro _ C ⟨rfl,rfl⟩;refine⟨_,rfl,?_,h2.tail⟩;unfold jj;rw[a,c];rfl
def Qa{s:Sl}{l:bS}(t:Ints E L s l)(hb:l.length<4611686018427387904)(hl:∀g∈l,0<=g/\g<64){is:bE}{isB:eP->Bool}(B:hz C)(u:∀(x:eP) f k w',(0<=x.use/\x.use<=top)/\0<=x.cB/\x.cB<=top->Sep E (c7 b C::L) w'->e1 P is #[.agg #[Iv x.use,Iv x.cB,Iv f,Iv k]] w' (cW E (.bool (isB x)) (c7 b C::L)))(h:Sep E (c7 b C::L) w):Calls P B4 #[Pb b,Sv s,is] w
  (cW E (Iv (match l.find? (λg=>isB (C.getD g.toNat ⟨0,0⟩))with|some g=>g|none=> -1)) (c7 b C::L)):=by
 apply WN;unfold Lj qA qD qO qW;have hn:=t.1;refine⟨λx w'=>∃k:Nat,x=k/\k<=l.length/\(∀g∈l.take k,isB (C.getD g.toNat ⟨0,0⟩)=false)/\Sep E (c7 b C::L) w',λx _=>(l.length-x).toNat,⟨0,rfl,fj _,by simp,h⟩,?_⟩;rintro _ x w2 ⟨k,rfl,hk,c,h2⟩;refine cU (λN=>?_) (λM=>?_)
 ·obtain⟨y,j⟩:∃y,l[k]?=some y:=⟨_,dP⟩
  have o:=hl y (eI j);refine(t.cons (A:=c7 b C)).el h2 k rfl j ?_;obtain⟨R,z,O,hlen,J⟩:=c7.get h2;refine⟨_,rfl,lo (q:=0) c4.lz J rfl hlen o.1 (by exact_mod_cast o.2) (λr hr d=>?_)⟩;refine⟨_,by rw[cf];exact d 0 _ rfl,_,by rw[cf];exact d 1 _ rfl,_,by rw[cf];exact d 2 _ rfl,_,by rw[cf];exact d 3 _ rfl,?_⟩;have n:C.getD y.toNat ⟨0,0⟩=r.c:=by rw[<- z,dJ,eC,hr];rfl
  have D:=B.ok r.c (by rw[<- z];exact fA.2 ⟨r,eI hr,rfl⟩);have e:=u r.c r.failed r.js w2 D h2;obtain⟨fn,ca,G,H,I⟩:=e;refine⟨fn,ca,G,H,use I ?_⟩;rintro _ Q ⟨rfl,p⟩;refine⟨_,rfl,?_⟩;cases m:isB r.c with
  |true=>
   refine eA ⟨?_,p⟩;have:l.find? (λg=>isB (C.getD g.toNat ⟨0,0⟩))=some y:=by
    rw[<- fK k l,List.find?_append];have K:(l.take k).find? (λg=>isB (C.getD g.toNat ⟨0,0⟩))=none:=by rw[pZ];intro g a;rw[c g a];decide
    rw[K,lG (by omega:k<l.length)];have:l[k]'(bu)=y:=by have:=dO (l:=l) (i:=k) bu;rw[j]at this;exact(cR this).symm
    rw[this,List.find?_cons,n,m];rfl
   rw[this]
  |false=>
   refine dH ⟨⟨k+1,dc,bu,?_,p⟩,by dsimp only;rw[dc];omega⟩;intro g a;rw[fL j]at a;rcases gH.1 a with a|a;·exact c g a
   ·rw[ia]at a;subst a;rw[n];exact m
 ·have:k=l.length:=by omega
  subst this;rw[gf]at c;have:l.find? (λg=>isB (C.getD g.toNat ⟨0,0⟩))=none:=by rw[pZ];intro g a;rw[c g a];decide
  rw[this];exact⟨rfl,h2⟩
def Qb{l:bS}{k:Nat}{y:Int}(a:l[k]?=some y)(n:Int):dG C (l.take (k+1)) n=iI (dG C (l.take k) n) y λx=> {x with use:=x.use+n} :=by
 rw[fL a];unfold dG;rw[y1];rfl
def Qc{s:Sl}{l:bS}(H:Ints E L s l)(hb:l.length<4611686018427387904)(n:Int)(h:Sep E (c7 b C::L) w):Calls P uN #[Pb b,Sv s,Iv n] w
  (cW E (.tuple #[Iv (df C l n).2.1,Iv (df C l n).2.2]) (c7 b (df C l n).1::L)):=by
 apply X5;unfold Mq qC qD qF qL qO qQ qW;have a:=c7.ok (q:=0) h rfl;have t:=a.try l n;have ar:=H.1;refine Al.i h (λp ax h1=>?_);have X:Ints E (bC p [Iv n]::c7 b C::L) s l:=H.cons.cons;refine⟨_,h1.cell 0,use (P9 X hb n h1) ?_⟩;rintro _ w2 ⟨rfl,h2⟩;refine⟨_,rfl,?_⟩;cases hr:jj l n with
 |false=>
  refine eA ?_;have:df C l n=(C, -1,1):=by unfold df;rw[hr];rfl
  rw[this];exact⟨rfl,h2.tail⟩
 |true=>
  obtain⟨z,U,au,av⟩:=mZ.1 hr;have Y:Ints E (bC p [Iv n]::L) s l:=H.cons;refine dH (use (Qa (L:=bC p [Iv n]::L) (isB:=λx=>decide (0<n)&&decide (x.cB<x.use+n)) Y hb z a ?_ h2.swap) ?_)
  ·intro x f k w' hx h';refine⟨CM,_,rfl,by kernel_rfl,?_⟩;show Calls P CM #[.agg #[Iv x.use,Iv x.cB,Iv f,Iv k],Pb p] w' _;apply Yk;unfold MF qD qL;refine Al.i h' (λp2 aj d=>?_);refine⟨_,d.cellAt 2 rfl 0,fZ (λad=>?_) (λhle=>⟨by rw[dg bu];rfl,d.tail⟩)⟩;refine⟨_,by rw[cf];exact d.cell 0,_,d.cellAt 2 rfl 0,_,by rw[cf];exact d.cell 1,?_,d.tail⟩;rw[dF ad,l5,cP (by unfold top at *;omega) (by unfold top at *;omega)]
  ·rintro _ aj ⟨rfl,d⟩;refine⟨_,rfl,?_⟩;cases hf:l.find? (λg=>decide (0<n)&&decide ((C.getD g.toNat ⟨0,0⟩).cB<(C.getD g.toNat ⟨0,0⟩).use+n))with
   |some g=>
    have o:=z g (vT hf);have e:df C l n=(C,g,22):=by unfold df;rw[hr,hf];rfl
    rw[e];dsimp only;refine hs (λ_=>?_) (λS=>absurd S bu);refine Dr.i d (λak u=>?_);obtain⟨R,c,ai,hlen,m⟩:=c7.get u;refine⟨_,rfl,lo (q:=0) c4.lz m rfl hlen o.1 (by exact_mod_cast o.2) (λr hr aa=>?_)⟩;refine⟨_,by rw[cf];exact aa 2 _ rfl,_,rfl,lo (q:=0) c4.lz m rfl hlen o.1 (by exact_mod_cast o.2) (λaw M ao=>?_)⟩;rw[hr]at M;have:=cR M;subst this;refine s7 (r':=⟨r.c,i64.wrap (r.failed+1),r.js⟩) m hr bN rfl (λam Q=>⟨rfl,?_⟩);refine(c7.mk (C:=C) ?_ a Q).ro 2 [0] rfl;rw[hG,c];show C.set g.toNat r.c=C;apply hg;intro i;by_cases ae:g.toNat=i
    ·subst ae;have:C[g.toNat]?=some r.c:=by rw[<- c,eC,hr];rfl
     rw[jd (cZ.1 this).1,this]
    ·rw[iE ae]
   |none=>
    have e:df C l n=(dG C l n, -1,0):=by unfold df;rw[hr,hf];rfl
    rw[e]at t ⊢;dsimp only at t ⊢;have T:∀g∈l,(hy C g).use+n<=top:=by
     intro g o;have:=pZ.1 hf g o;rw[r5 (z g o)]at this;have ho:=a.of g;simp only[dy,gw,not_and]at this;rcases Int.lt_or_le 0 n with hp|hp;·have:=this hp;omega
     ·omega
    have Z:Ints E (bC p [Iv n]::L) s l:=H.cons;refine hs (λS=>absurd S bN) (λ_=>?_);refine⟨λx w'=>∃k:Nat,x=k/\k<=l.length/\∃R:bA c4,R.map c4.c=dG C (l.take k) n/\Sep E (bC b (bQ c4.vs R)::bC p [Iv n]::L) w',λx _=>(l.length-x).toNat,?_,?_⟩
    ·obtain⟨R,c,ai,hlen,m⟩:=c7.get d;exact⟨0,rfl,fj _,R,by rw[wi];exact c,m⟩
    ·rintro _ x ak ⟨k,rfl,hk,R,c,u⟩;have I:R.length=64:=by rw[<- ei (f:=c4.c),c,nx];exact a.len
     refine cU (λaq=>?_) (λap=>?_)
     ·obtain⟨y,J⟩:∃y,l[k]?=some y:=⟨_,dP⟩
      have O:=eI J;have G:=z y O;have F:fU y=true:=jR.2 G;refine(Z.cons (A:=bC b (bQ c4.vs R))).el u k rfl J ⟨_,rfl,lo (q:=0) c4.lz u rfl I G.1 (by exact_mod_cast G.2) (λr hr aa=>?_)⟩;have ah:r.c=hy C y:=by
       rw[<- D4 c F hr];have ag:y∉l.take k:=by
        intro hm;have:=U.sublist (o4 (k+1) l);rw[fL J,v7]at this;exact this.2.2 y hm y (by simp) rfl
       unfold hy;rw[F,bK rfl,bK rfl,qv n (l.take k) a.len (λg o=>z g (nP o)) (U.sublist (o4 k l)) F,bJ ag]
      refine Dr.i u (λal m=>?_);have ab:∀(j:Nat) v,(r.vs)[j]?=some v->al.cell? ⟨b,y.toNat*4+j,none⟩=some v:=by
       intro j v B;have D:j<4:=by have:=(cZ.1 B).1;rwa[c4.lz]at this
       rw[m.cell,sG c4.lz hr j D];exact B
      refine⟨_,rfl,_,by rw[cf];exact ab 0 _ rfl,_,m.cellAt 1 rfl 0,_,rfl,?_⟩;have hw:i64.wrap (r.c.use+n)=r.c.use+n:=by
       have:=T y O;have ho:=a.of y;rw[ah];unfold top at*
       exact cP bu bu
      rw[hw];refine s7 (r':=⟨{r.c with use:=r.c.use+n},r.failed,r.js⟩) m hr bN rfl (λam Q=>Dr.i Q (λan V=>?_));have af:y.toNat<R.length:=(cZ.1 hr).1;have N:(R.set y.toNat ⟨{r.c with use:=r.c.use+n},r.failed,r.js⟩)[y.toNat]?=some ⟨{r.c with use:=r.c.use+n},r.failed,r.js⟩:=jd af;have K:∀(j:Nat) v,(c4.vs ⟨{r.c with use:=r.c.use+n},r.failed,r.js⟩)[j]?=some v->an.cell? ⟨b,y.toNat*4+j,none⟩=some v:=by
       intro j v B;have D:j<4:=by have:=(cZ.1 B).1;rwa[c4.lz]at this
       rw[V.cell,sG c4.lz N j D];exact B
      refine⟨_,rfl,_,by rw[cf];exact K 3 _ rfl,_,rfl,_,by rw[cf];exact K 0 _ rfl,_,rfl,?_⟩;refine s7 (r':=⟨{r.c with use:=r.c.use+n},r.failed,eE r.js (r.c.use+n)⟩) V N bN rfl (λay W=>?_);rw[List.set_set]at W;refine⟨⟨k+1,dc,bu,_,?_,W⟩,by dsimp only;rw[dc];omega⟩;rw[Qb J];exact D5 c hr (λx=> {x with use:=x.use+n}) rfl
     ·have:k=l.length:=by omega
      subst this;rw[gf]at c;exact⟨rfl,(c7.mk c t u).ro 2 [0] rfl⟩
def yo{s:Sl}{l:bS}(B:Ints E L s l)(hb:l.length<4611686018427387904)(n:Int)(h:Sep E (c7 b C::L) w):Calls P sn #[Pb b,Sv s,Iv n] w
  (cW E (Iv (gj C l n).2) (c7 b (gj C l n).1::L)):=by
 apply V6;unfold KJ qC qD qF qL qO qQ qW;have a:=c7.ok (q:=0) h rfl;have i:=a.du l n;have Z:=B.1;refine Al.i h (λp af h1=>?_);have M:Ints E (bC p [Iv n]::c7 b C::L) s l:=B.cons.cons;refine⟨_,h1.cell 0,use (P9 M hb n h1) ?_⟩;rintro _ w2 ⟨rfl,h2⟩;refine⟨_,rfl,?_⟩;cases hr:jj l n with
 |false=>
  refine eA ?_;have:gj C l n=(C,1):=by unfold gj;rw[hr];rfl
  rw[this];exact⟨rfl,h2.tail⟩
 |true=>
  obtain⟨t,K,aa,ab⟩:=mZ.1 hr;have N:Ints E (bC p [Iv n]::L) s l:=B.cons;refine dH (use (Qa (L:=bC p [Iv n]::L) (isB:=λx=>decide (x.use<n)) N hb t a ?_ h2.swap) ?_)
  ·intro x f k w' hx h';refine⟨B5,_,rfl,by kernel_rfl,?_⟩;show Calls P B5 #[.agg #[Iv x.use,Iv x.cB,Iv f,Iv k],Pb p] w' _;apply WO;unfold Lk qD qL;refine Al.i h' (λp2 V m=>?_);exact⟨_,by rw[cf];exact m.cell 0,_,m.cellAt 2 rfl 0,rfl,m.tail⟩
  ·rintro _ V ⟨rfl,m⟩;refine⟨_,rfl,?_⟩;cases hf:l.find? (λg=>decide ((C.getD g.toNat ⟨0,0⟩).use<n))with
   |some g=>
    have u:=t g (vT hf);have e:gj C l n=(C,2):=by unfold gj;rw[hr,hf];rfl
    rw[e];dsimp only;exact hs (λ_=>⟨rfl,m.ro 2 [0] rfl⟩) (λI=>absurd I bu)
   |none=>
    have e:gj C l n=(dG C l (-n),0):=by unfold gj;rw[hr,hf];rfl
    rw[e]at i ⊢;dsimp only at i ⊢;have J:∀g∈l,n<=(hy C g).use:=by
     intro g u;have:=pZ.1 hf g u;rw[r5 (t g u)]at this;simpa using this
    have O:Ints E (bC p [Iv n]::L) s l:=B.cons;refine hs (λI=>absurd I bN) (λ_=>?_);refine⟨λx w'=>∃k:Nat,x=k/\k<=l.length/\∃R:bA c4,R.map c4.c=dG C (l.take k) (-n)/\Sep E (bC b (bQ c4.vs R)::bC p [Iv n]::L) w',λx _=>(l.length-x).toNat,?_,?_⟩
    ·obtain⟨R,d,ad,hlen,o⟩:=c7.get m;exact⟨0,rfl,fj _,R,by rw[wi];exact d,o⟩
    ·rintro _ x ag ⟨k,rfl,hk,R,d,H⟩;have j:R.length=64:=by rw[<- ei (f:=c4.c),d,nx];exact a.len
     refine cU (λY=>?_) (λX=>?_)
     ·obtain⟨y,D⟩:∃y,l[k]?=some y:=⟨_,dP⟩
      have G:=eI D;have c:=t y G;have z:fU y=true:=jR.2 c;refine(O.cons (A:=bC b (bQ c4.vs R))).el H k rfl D (Dr.i H (λah o=>⟨_,rfl,lo (q:=0) c4.lz o rfl j c.1 (by exact_mod_cast c.2) (λr hr U=>?_)⟩));have S:r.c=hy C y:=by
       rw[<- D4 d z hr];have Q:y∉l.take k:=by
        intro hm;have:=K.sublist (o4 (k+1) l);rw[fL D,v7]at this;exact this.2.2 y hm y (by simp) rfl
       unfold hy;rw[z,bK rfl,bK rfl,qv (-n) (l.take k) a.len (λg u=>t g (nP u)) (K.sublist (o4 k l)) z,bJ Q]
      refine⟨_,by rw[cf];exact U 0 _ rfl,_,o.cellAt 1 rfl 0,_,rfl,lo (q:=0) c4.lz o rfl j c.1 (by exact_mod_cast c.2) (λae F W=>?_)⟩;rw[hr]at F;have:=cR F;subst this;have hw:i64.wrap (r.c.use-n)=r.c.use+ -n:=by
       have:=J y G;have ho:=a.of y;rw[S];unfold top at*
       rw[cP bu bu];omega
      rw[hw];refine s7 (r':=⟨{r.c with use:=r.c.use+ -n},r.failed,r.js⟩) o hr bN rfl (λai T=>?_);refine⟨⟨k+1,dc,bu,_,?_,T⟩,by dsimp only;rw[dc];omega⟩;rw[Qb D];exact D5 d hr (λx=> {x with use:=x.use+ -n}) rfl
     ·have:k=l.length:=by omega
      subst this;rw[gf]at d;exact⟨rfl,(c7.mk d i H).ro 2 [0] rfl⟩
end Go.Mp
namespace Go.Mp
open Go Go.Vc Go.Sp Go.Proofs Go.Kc
variable{E:Env}{L:ct}{w W:bI}
def aJP(n:Int):i64.wrap n%18446744073709551616=n%18446744073709551616:=by
 unfold IntKind.wrap;simp only[IntKind.signed,IntKind.bits,l5];split<;>omega
def Qd(n:Int):dm .i64 n 1099511627775=n%1099511627776:=by
 have h1:((BitVec.ofInt 64 n &&& BitVec.ofInt 64 1099511627775).toNat:Int)=n%1099511627776:=by
  rw[wb];have a:(BitVec.ofInt 64 1099511627775).toNat=2^40-1:=by decide
  have b:((BitVec.ofInt 64 n).toNat:Int)=n%18446744073709551616:=by
   rw[BitVec.toNat_ofInt];have:(n%((2:Nat)^64:Nat))=n%18446744073709551616:=rfl;omega
  rw[a,tm];generalize (BitVec.ofInt 64 n).toNat=m at*
  have:((m%2^40:Nat):Int)=(m:Int)%1099511627776:=by omega
  rw[this,b];omega
 show i64.wrap ((BitVec.ofInt 64 n &&& BitVec.ofInt 64 1099511627775).toNat:Int)=_;rw[h1];exact cP bu bu
structure eO where
 clock:Int
 back:Int
def eO.vs(r:eO):bA bE:=[Iv r.clock,Iv r.back]
def eO.kS(r:eO):r.vs.length=2:=rfl
def fH(b:Nat)(l:bS):Asn:=fa λR:bA eO=>cG (R.map eO.clock=l/\l.length=64) (bC b (bQ eO.vs R))
def fH.get{b:Nat}{l:bS}(h:Sep E (fH b l::L) w):∃R:bA eO,R.map eO.clock=l/\l.length=64/\R.length=64/\Sep E (bC b (bQ eO.vs R)::L) w:=by
 obtain⟨R,h⟩:=Sep.ex.1 h;obtain⟨hn,h⟩:=Sep.cG.1 h;exact⟨R,hn.1,hn.2,by have:=hn.2;rw[<- hn.1,ei]at this;exact this,h⟩
def fH.mk{b:Nat}{l:bS}{R:bA eO}(h1:R.map eO.clock=l)(h2:l.length=64)(h:Sep E (bC b (bQ eO.vs R)::L) w):Sep E (fH b l::L) w:=Sep.ex.2 ⟨R,Sep.cG.2 ⟨⟨h1,h2⟩,h⟩⟩
def aBM(h:Sep E L w):Calls P Br #[] w (cz λv w'=>∃p,v=Pb p/\Sep E (fH p (List.replicate 64 0)::L) w'):=by
 apply Vq;unfold Kb qB;exact Al.i h (λp a h1=>⟨p,rfl,fH.mk (R:=List.replicate 64 ⟨0,0⟩) rfl rfl h1⟩)
def D6(g:Int)(w:bI):Calls P xQ #[Iv g] w (cz λv w'=>v=.bool (fU g)/\w'=w):=by
 apply X7;unfold Ms fU;exact h6 (λh=>⟨by rw[dF h];rfl,rfl⟩) (λh=>⟨by rw[dg bu];rfl,rfl⟩)
def Qe(h:Sep E L w):Calls P CN #[] w (cz λv w'=>∃p,v=.slice (some ⟨p,0,none⟩) 3 3/\Sep E (bC p (bD (ints [1,8,40]))::L) w'):=by
 apply Yl;unfold MG qC;exact Al.i h (λp a h1=>⟨p,rfl,h1⟩)
def yp{g:Int}(d:fU g=true)(c:Int)(h:Sep E L w):Calls P Js #[Iv g,Iv c] w (cW E (.int .u64 (if c<0 then 0 else rX g c)) L):=by
 apply X8;unfold Mt qC qJ zB;refine cU (λe=>⟨by rw[bK e],h⟩) (λe=>use (Qe h) ?_);rintro _ o ⟨p,rfl,h1⟩;obtain⟨n,rfl⟩:∃n:Nat,g=n:=⟨g.toNat,by have:=jR.1 d;omega⟩
 have l:=(jR.1 d).2;obtain⟨m,hm⟩:∃m:Nat,c%1099511627776=m:=⟨(c%1099511627776).toNat,bu⟩
 have i:m<1099511627776:=by omega
 refine⟨⟨some ⟨p,0,none⟩,3,3⟩,rfl,Al.i h1 (λq w2 h2=>?_)⟩;rw[Qd,hm]at h2;have h2:Sep E (bC q (bD (ints [1,n,m]))::bC p (bD (ints [1,8,40]))::L) w2:=h2;refine use (OM (s:=⟨some ⟨p,0,none⟩,3,3⟩) (t:=⟨some ⟨q,0,none⟩,3,3⟩) (ws:=[1,8,40]) (vs:=[1,n,m]) (Ints.jr (b:=p) (c:=3) (gs:=ints [1,8,40]) (q:=1) rfl) (Ints.jr (b:=q) (c:=3) (gs:=ints [1,n,m]) (q:=0) rfl) bN bN bN rfl (λu hu=>by simp at hu;omega) h2) ?_;rintro _ r ⟨j,rfl⟩;rcases j with⟨_,rfl⟩|⟨f,rfl⟩
 ·refine⟨_,_,rfl,?_,h2.tail.tail⟩;rw[cD];unfold rX top;rw[hm];congr 1;simp only[jF];omega
 ·exfalso;apply f;intro k y u a hu
  match k,a,hu with
  |0,a,hu=>simp at a hu;subst a hu;decide
  |1,a,hu=>simp at a hu;subst a hu;omega
  |2,a,hu=>simp at a hu;subst a hu;omega
  |k+3,a,_=>simp at a
def Qf{x:Nat}(hx:x<18446744073709551616)(h:Sep E L w):Calls P CG #[.int .u64 (x:Nat)] w (cW E (.tuple #[Iv (gV x).1,Iv (gV x).2.1,.bool (gV x).2.2]) L):=by
 apply X9;unfold Mu qD qJ qW qg zF;refine use (Qe h) ?_;rintro _ y ⟨p,rfl,h1⟩;refine⟨⟨some ⟨p,0,none⟩,3,3⟩,rfl,use (OK (s:=⟨some ⟨p,0,none⟩,3,3⟩) (ws:=[1,8,40]) (Ints.jr (b:=p) (c:=3) (gs:=ints [1,8,40]) (q:=0) rfl) bN bN bN hx h1) ?_⟩;have k:c3 [1,8,40]=49:=rfl;rw[k];rintro _ w2 (⟨j,t,rfl,l,h2⟩|⟨j,rfl,h2⟩)
 ·have o:x<562949953421312:=by omega
  have hn:t.n=(ints (fields [1,8,40] x)).length:=by rw[l];rfl
  have i:((ints (fields [1,8,40] x)).length:Int)=3:=rfl;refine⟨t,_,rfl,λw'=>w'=w2/\x%2=1,bF rfl ?_,?_⟩
  ·refine mu 0 h2 rfl hn bN bu (λa f=>⟨_,f,?_⟩);show bif(((x%2^1:Nat):Int) !=1)then _ else _;refine hJ (λr=>?_) (λhe=>⟨rfl,bu⟩);have e:gV (x:Int)=(0,0,false):=by unfold gV;rw[cD]
   rw[e];exact⟨rfl,h2.tail.tail⟩
  ·rintro _ m ⟨rfl,n⟩;refine Dr.i h2 (λz d=>mu 0 d rfl hn bN bu (λa f=>⟨_,f,mu 0 d rfl hn bN bu (λu g=>⟨_,g,?_,d.tail.tail⟩)⟩));have e:gV (x:Int)=((x:Int)/2%256,(x:Int)/512,true):=by unfold gV top;rw[eK]
   rw[e];show Value.tuple #[Iv ((x/2^1%2^8:Nat):Int),Iv ((x/2^1/2^8%2^40:Nat):Int),.bool true]=_;rw[show((x/2^1%2^8:Nat):Int)=(x:Int)/2%256 by omega,show((x/2^1/2^8%2^40:Nat):Int)=(x:Int)/512 by omega]
 ·refine⟨⟨none,0,0⟩,_,rfl,λ_=>False,bT rfl ?_,λ_ m hf=>hf.elim⟩;have e:gV (x:Int)=(0,0,false):=by unfold gV top;rw[cD]
  rw[e];exact⟨rfl,h2.tail⟩
def aDg{x:Nat}(hx:x<18446744073709551616)(c:Int)(h:Sep E L w):Calls P Jz #[.int .u64 (x:Nat),Iv c] w (cW E (Iv (if(gV x).2.2=false\/c<0 then -1 else(c-(gV x).2.1)%top)) L):=by
 apply Ym;unfold MH zO;refine use (Qf hx h) ?_;rintro _ b ⟨rfl,h1⟩;refine⟨_,_,_,rfl,?_⟩;cases hl:(gV (x:Int)).2.2 with
 |false=>exact eA ⟨by rw[bK (.inl rfl)],h1⟩
 |true=>
  refine dH (cU (λa=>⟨by rw[bK (.inr a)],h1⟩) (λa=>⟨?_,h1⟩));rw[bJ (by rintro(e|e);cases e;omega),Qd];have:=aJP (c-(gV (x:Int)).2.1);unfold top;congr 1;omega
def aEy{x:Nat}(hx:x<18446744073709551616)(c r:Int)(h:Sep E L w):Calls P Jt #[.int .u64 (x:Nat),Iv c,Iv r] w (cW E (.bool ((gV x).2.2&&decide (0<=c)&&decide ((c-(gV x).2.1)%top<=r))) L):=by
 apply Ya;unfold Mv qQ;refine use (aDg hx c h) ?_;rintro _ d ⟨rfl,h1⟩;refine⟨_,rfl,?_⟩;by_cases hb:(gV (x:Int)).2.2=false\/c<0
 ·rw[bK hb];refine h6 (λa=>absurd a bN) (λ_=>⟨?_,h1⟩);rcases hb with hb|hb;·rw[hb];rfl
  ·rw[dg (show ¬ 0<=c by omega),rJ];rfl
 ·rw[bJ hb];have b:0<=(c-(gV (x:Int)).2.1)%top:=Gi _ bN;refine h6 (λ_=>⟨?_,h1⟩) (λa=>absurd a bu);have h2:(gV (x:Int)).2.2=true:=by cases a:(gV (x:Int)).2.2 with|true=>rfl|false=>exact absurd (.inl a) hb
  rw[h2,dF (show 0<=c by omega)];rfl
variable{b:Nat}{l:bS}
def Qg{R:bA eO}{F:bf8}(h:Sep E (bC b (bQ eO.vs R)::L) w){k j:Nat}{r r':eO}{v:bE}(hr:R[k]?=some r)(e:j<2)(d:r'.vs=r.vs.set j v)(f:∀a,Sep E (bC b (bQ eO.vs (R.set k r'))::L) a->F a):St ((⟨b,k*2,none⟩:Addr).add j) v F w:=by
 have c:=(cZ.1 hr).1;rw[cf];refine St.i h ?_ (λa h1=>f a ?_)
 ·rw[n4 eO.kS];have:(k+1)*2<=R.length*2:=k1 _ c;omega
 ·rw[Dd eO.kS hr e d]at h1;exact h1
def Qh{R:bA eO}(h1:R.map eO.clock=l){k:Nat}{r:eO}(hr:R[k]?=some r):l.getD k 0=r.clock:=by
 rw[<- h1,dJ,eC,hr];rfl
def aJw(h:Sep E (fH b l::L) w)(g:Int):Calls P Jj #[Pb b,Iv g] w (cW E (.int .u64 (dM l g).2) (fH b (dM l g).1::L)):=by
 apply XK;unfold L8 qF qL zU;refine use (D6 g w) ?_;rintro _ o ⟨rfl,rfl⟩;refine⟨_,rfl,?_⟩;unfold dM;cases j:fU g with
 |false=>exact eA ⟨rfl,h⟩
 |true=>
  have a:=jR.1 j;obtain⟨R,i,hl,hlen,h1⟩:=fH.get h;refine dH ⟨_,rfl,lo (q:=0) eO.kS h1 rfl hlen a.1 (by exact_mod_cast a.2) (λr hr m=>⟨_,by rw[cf];exact m 0 _ rfl,use (yp j r.clock h1) ?_⟩)⟩;rintro _ w2 ⟨rfl,h2⟩;refine⟨_,rfl,Dr.i h2 (λp f=>⟨_,rfl,lo (q:=0) eO.kS f rfl hlen a.1 (by exact_mod_cast a.2) (λn c d=>?_)⟩)⟩;rw[hr]at c;have:=cR c;subst this;refine⟨_,by rw[cf];exact d 0 _ rfl,_,rfl,lo (q:=0) eO.kS f rfl hlen a.1 (by exact_mod_cast a.2) (λn c d=>?_)⟩;refine Qg (r':=⟨i64.wrap (r.clock+1),r.back⟩) f hr bN rfl (λs k=>?_);have e:oD l g=r.clock:=Qh i hr;rw[e];refine⟨rfl,fH.mk ?_ (by rw[bJ bN];simpa using hl) k⟩;rw[hG,i];rfl
def aJo(h:Sep E (fH b l::L) w){x:Nat}(hx:x<18446744073709551616)(o r:Int):Calls P Jl #[Pb b,.int .u64 (x:Nat),Iv o,Iv r] w (cW E (.bool (mi l x r)) (fH b l::L)):=by
 apply XM;unfold Ma qF qL qg zO;refine use (Qf hx h) ?_;rintro _ t ⟨rfl,h1⟩;refine⟨_,_,_,rfl,?_⟩;unfold mi;refine⟨λw'=>((gV (x:Int)).2.2&&fU (gV (x:Int)).1&&decide (0<=oD l (gV (x:Int)).1)&&decide ((oD l (gV (x:Int)).1-(gV (x:Int)).2.1)%top<=r))=true/\Sep E (fH b l::L) w',?_,?_⟩
 ·cases hl:(gV (x:Int)).2.2 with
  |false=>exact eA ⟨rfl,h1⟩
  |true=>
   refine dH (use (D6 _ t) ?_);rintro _ w2 ⟨rfl,rfl⟩;refine⟨_,rfl,?_⟩;cases m:fU (gV (x:Int)).1 with
   |false=>exact eA ⟨rfl,h1⟩
   |true=>
    have a:=jR.1 m;obtain⟨R,f,g,hlen,p⟩:=fH.get h1;refine dH ⟨_,rfl,lo (q:=0) eO.kS p rfl hlen a.1 (by exact_mod_cast a.2) (λc hr k=>⟨_,by rw[cf];exact k 0 _ rfl,use (aEy hx c.clock r h1) ?_⟩)⟩;rintro _ u ⟨rfl,d⟩;have e:oD l (gV (x:Int)).1=c.clock:=Qh f hr;rw[e,hl];refine⟨_,rfl,?_⟩;simp only[l5];cases hb:(decide (0<=c.clock)&&decide ((c.clock-(gV (x:Int)).2.1)%top<=r))with
    |false=>exact eA ⟨rfl,d⟩
    |true=>exact dH ⟨rfl,d⟩
 ·rintro _ w2 ⟨hb,h2⟩;rw[hb];refine use (D6 o w2) ?_;rintro _ u ⟨rfl,rfl⟩;refine⟨_,rfl,?_⟩;cases m:fU o with
  |false=>exact dH ⟨rfl,h2⟩
  |true=>
   have a:=jR.1 m;refine eA (Dr.i h2 (λB d=>?_));obtain⟨R,f,g,hlen,j⟩:=fH.get d;refine⟨_,rfl,lo (q:=0) eO.kS j rfl hlen a.1 (by exact_mod_cast a.2) (λc hr k=>⟨_,by rw[cf];exact k 1 _ rfl,_,rfl,lo (q:=0) eO.kS j rfl hlen a.1 (by exact_mod_cast a.2) (λA z y=>?_)⟩)⟩;refine Qg (r':=⟨c.clock,i64.wrap (c.back+1)⟩) j hr bN rfl (λC s=>⟨rfl,fH.mk ?_ g s⟩);rw[hG,f];show l.set o.toNat c.clock=l;apply hg;intro i;by_cases n:o.toNat=i
   ·subst n;have:l[o.toNat]?=some c.clock:=by rw[<- f,eC,hr];rfl
    rw[jd (cZ.1 this).1,this]
   ·rw[iE n]
end Go.Mp
namespace Go.Mp
open Go Go.Vc Go.Sp Go.Kc
open By
variable{E:Env}{L:ct}{w:bI}
def gb(s n:Nat)(X:bA UInt8):Asn:=
 fa λbl:Nat=>cG (X.length=16*n/\n<=1024) (star (bC s [.slice (some ⟨bl,0,none⟩) n n]) (bC bl (g9 X)))
def gb.open{s n:Nat}{X:bA UInt8}(h:Sep E (gb s n X::L) w):
  ∃bl:Nat,X.length=16*n/\n<=1024/\Sep E (bC s [.slice (some ⟨bl,0,none⟩) n n]::bC bl (g9 X)::L) w:=by
 obtain⟨bl,h⟩:=Sep.ex.1 h;obtain⟨⟨h1,h2⟩,h⟩:=Sep.cG.1 h;exact⟨bl,h1,h2,Sep.star.1 h⟩
def gb.shut{s n bl:Nat}{X:bA UInt8}(h1:X.length=16*n)(h2:n<=1024)(h:Sep E (bC s [.slice (some ⟨bl,0,none⟩) n n]::bC bl (g9 X)::L) w):Sep E (gb s n X::L) w:=
 Sep.ex.2 ⟨bl,Sep.cG.2 ⟨⟨h1,h2⟩,Sep.star.2 h⟩⟩
def vj{s n bl:Nat}{X:bA UInt8}(i:Int)(h:Sep E (bC s [.slice (some ⟨bl,0,none⟩) n n]::bC bl (g9 X)::L) w):
  Calls P ss #[Pb s,Iv i] w (cz λv w'=>w'=w/\v=.pointer (if pg n i then some ⟨bl,16*i.toNat,none⟩else none)):=by
 apply Xd;unfold LA qK qW;refine cv (λb=>?_) (λb=>?_)
 ·simp only[gw]at b;exact⟨rfl,by rw[bJ (λc=>by have:=c.1;omega)]⟩
 ·simp only[FN]at b;refine⟨_,rfl,⟨_,_,_⟩,(h.cell _).trans rfl,?_⟩;refine cv (λa=>?_) (λa=>?_)
  ·simp only[gw]at a;exact⟨rfl,by rw[bJ (λc=>by have:=c.2;omega)]⟩
  ·simp only[FN]at a;refine⟨_,rfl,⟨_,_,_⟩,(h.cell _).trans rfl,_,rfl,⟨bu,by dsimp only;omega⟩,rfl,?_⟩;rw[bK ⟨bu,bu⟩,cf,wk,fx]
def aIO{n:Int}:min1 (eE n 0) 1024=((min (max n 0).toNat 1024:Nat):Int):=by
 unfold min1 eE;split<;>split<;>omega
def aBK(n:Int)(h:Sep E L w):
  Calls P Ib #[Iv n] w (cz λv w'=>∃s,v=Pb s/\Sep E (gb s (min (max n 0).toNat 1024) (List.replicate (16*min (max n 0).toNat 1024) 0)::L) w'):=by
 apply Vy;unfold Kl;rw[aIO];generalize hm:min (max n 0).toNat 1024=m;have a:m<=1024:=by omega
 refine mj.i h (m:=16) (sz:=16) (c9:=16) cS bu bu bu bu (λb c h1=>?_);refine Al.i h1 (λs w2 h2=>?_);refine⟨s,rfl,gb.shut (bl:=b) (by simp) a ?_⟩;simp only[dA]at h2;rw[wk]at h2;exact h2
def Qi(l:bA UInt8){b o n c q:Nat}{C:bA bE}(h:Sep E L w)(f:L[q]?=some (bC b C))(hn:l.length=n)(d:∀j (m:j<l.length),C[o+j]?=some (.int .u8 (l[j].toNat:Int))):
  tQ P sf Bc (.slice (some ⟨b,o,none⟩) n c) w (.string ⟨l.toArray⟩):=by
 intro w' g;obtain⟨e,k,q2⟩:=AM (P:=P) (t:=sf) cS;subst hn;exact run_convert_bytes_back (P:=P) w' sf Bc e ⟨b,o,none⟩ c l k q2 cS (λi a=>by rw[cf,(h.grow g).cellAt q f];exact d i a)
def Qj{s n:Nat}{X:bA UInt8}(i:Int)(h:Sep E (gb s n X::L) w):
  Calls P CB #[Pb s,Iv i] w (cz λv w'=>w'=w/\v=.tuple #[.string (⟨(By.rd n X i).1.toArray⟩:ByteArray),Iv (By.rd n X i).2]):=by
 obtain⟨bl,h1,h2,h⟩:=gb.open h;apply XR;unfold Mf qR;refine use (vj i h) ?_;rintro _ d ⟨rfl,rfl⟩;refine⟨_,rfl,?_⟩;by_cases a:pg n i
 ·rw[bK a];refine⟨_,rfl,?_⟩;have hr:By.rd n X i=(lh X i,0):=bK a;rw[hr];refine⟨_,Qi (lh X i) (q:=1) h rfl (Hr h1 a) (λj c=>?_),rfl,rfl⟩;have b:=c;rw[Hr h1 a]at b;rw[uf,<- Ht b,dO c];rfl
 ·rw[bJ a];have hr:By.rd n X i=([],1):=bJ a;rw[hr];exact⟨rfl,rfl⟩
def az2(t:ByteArray):byteCells t=g9 t.data.toList:=rfl
def Qk{s n:Nat}{X:bA UInt8}(i:Int)(t:ByteArray)(h:Sep E (gb s n X::L) w):
  Calls P CF #[Pb s,Iv i,.string t] w (cW E (Iv (wr n X i t.data.toList).2) (gb s n (wr n X i t.data.toList).1::L)):=by
 have d:=h;obtain⟨bl,h1,h2,h⟩:=gb.open h;apply X6;unfold Mr qR;refine use (vj i h) ?_;rintro _ f ⟨rfl,rfl⟩;refine⟨_,rfl,?_⟩;have g:t.data.toList.length=t.size:=rfl;by_cases a:pg n i
 ·rw[bK a];refine dH (cv (λb=>?_) (λb=>?_))
  ·simp only[bne_iff_ne,ne_eq]at b;have:¬ (pg n i/\t.data.toList.length=16):=λc=>by have:=c.2;omega
   have hr:wr n X i t.data.toList=(X,1):=bJ this;rw[hr];exact⟨rfl,d⟩
  ·simp only[bne_eq_false_iff_eq]at b;have hr:wr n X i t.data.toList=(lj X i t.data.toList,0):=bK ⟨a,bu⟩;rw[hr];refine⟨_,rfl,?_⟩;have hx:=a.1;have j:=a.2;refine oG.i h.swap (c9:=1) (zs:=[.int .u8 0]) cS bu (by simp;omega) (λf e=>?_);rw[az2,Hs h1 a bu]at e;exact⟨rfl,gb.shut (AR h1 a bu) h2 e.swap⟩
 ·rw[bJ a];have hr:wr n X i t.data.toList=(X,1):=bJ (λc=>a c.1);rw[hr];exact⟨rfl,d⟩
def bB{n i:Int}{A B:Prop}(h1:n<i->A)(h2:i<=n->B):bif decide (n<i)then A else B:=
 cv (λh=>h1 (by simpa using h)) (λh=>h2 (by simpa using h))
def bG{n i:Int}{A B:Prop}(h1:i<=n->A)(h2:n<i->B):bif decide (n≥i)then A else B:=
 cv (λh=>h1 (by simpa using h)) (λh=>h2 (by simpa using h))
def fZ{n i:Int}{A B:Prop}(h1:i<n->A)(h2:n<=i->B):bif decide (n>i)then A else B:=
 cv (λh=>h1 (by simpa using h)) (λh=>h2 (by simpa using h))
def hJ{n i:Int}{A B:Prop}(h1:n≠i->A)(h2:n=i->B):bif(n !=i)then A else B:=
 cv (λh=>h1 (by simpa using h)) (λh=>h2 (by simpa using h))
def aBJ{s n:Nat}{X:bA UInt8}(i a:Int)(h:Sep E (gb s n X::L) w):
  Calls P IL #[Pb s,Iv i,Iv a] w (cz λv w'=>w'=w/\v=.tuple #[.int .u8 (gt n X i a).1.toNat,Iv (gt n X i a).2]):=by
 obtain⟨bl,h1,h2,h⟩:=gb.open h;apply Wk;unfold KV qR;refine use (vj i h) ?_;rintro _ j ⟨rfl,rfl⟩;refine⟨_,rfl,?_⟩;by_cases c:pg n i
 ·rw[bK c];obtain⟨hx,g⟩:=c;refine dH (bB (λe=>?_) (λe=>bG (λb=>?_) (λb=>?_)))
  ·have hr:gt n X i a=(0,1):=cD;rw[hr];exact⟨rfl,rfl⟩
  ·have hr:gt n X i a=(0,1):=cD;rw[hr];exact⟨rfl,rfl⟩
  ·have hr:gt n X i a=(X.getD (16*i.toNat+a.toNat) 0,0):=bK ⟨⟨hx,g⟩,e,b⟩;rw[hr];have d:16*i.toNat+a.toNat<X.length:=by omega
   refine⟨_,rfl,_,rfl,⟨e,b⟩,(X[16*i.toNat+a.toNat].toNat:Int),?_,rfl,?_⟩;·rw[cf,h.cellAt 1 rfl,uf,fR,dO d];rfl
   ·simp[List.getD,d]
 ·rw[bJ c];have hr:gt n X i a=(0,1):=bJ (λf=>c f.1);rw[hr];exact⟨rfl,rfl⟩
def aI4(X:bA UInt8)(k:Nat)(b:UInt8):(g9 X).set k (.int .u8 b.toNat)=g9 (X.set k b):=by simp[g9,hG]
def aBL{s n:Nat}{X:bA UInt8}(i a:Int)(b:UInt8)(h:Sep E (gb s n X::L) w):
  Calls P IQ #[Pb s,Iv i,Iv a,.int .u8 b.toNat] w (cW E (Iv (pt n X i a b).2) (gb s n (pt n X i a b).1::L)):=by
 have e:=h;obtain⟨bl,h1,h2,h⟩:=gb.open h;apply Wo;unfold KZ qR;refine use (vj i h) ?_;rintro _ l ⟨rfl,rfl⟩;refine⟨_,rfl,?_⟩;by_cases d:pg n i
 ·rw[bK d];obtain⟨hx,k⟩:=d;refine dH (bB (λf=>?_) (λf=>bG (λc=>?_) (λc=>?_)))
  ·have hr:pt n X i a b=(X,1):=cD;rw[hr];exact⟨rfl,e⟩
  ·have hr:pt n X i a b=(X,1):=cD;rw[hr];exact⟨rfl,e⟩
  ·have hr:pt n X i a b=(X.set (16*i.toNat+a.toNat) b,0):=bK ⟨⟨hx,k⟩,f,c⟩;rw[hr];refine⟨_,rfl,_,rfl,⟨f,c⟩,?_⟩;rw[cf,fR];refine St.i h.swap (by simp;omega) (λl g=>⟨rfl,?_⟩);rw[aI4]at g;exact gb.shut (by simpa using h1) h2 g.swap
 ·rw[bJ d];have hr:pt n X i a b=(X,1):=bJ (λj=>d j.1);rw[hr];exact⟨rfl,e⟩
def aze{s n:Nat}{X:bA UInt8}(i:Int)(h:Sep E (gb s n X::L) w):
  Calls P I8 #[Pb s,Iv i] w (cW E (Iv (cl n X i).2) (gb s n (cl n X i).1::L)):=by
 have c:=h;obtain⟨bl,h1,h2,h⟩:=gb.open h;apply Xi;unfold LG qR;refine use (vj i h) ?_;rintro _ e ⟨rfl,rfl⟩;refine⟨_,rfl,?_⟩;by_cases a:pg n i
 ·rw[bK a];have hr:cl n X i=(lj X i zs,0):=bK ⟨a,rfl⟩;rw[hr];have hx:=a.1;have f:=a.2;refine dH ⟨_,rfl,?_⟩;refine tS.i (List.replicate 16 0) h.swap rfl rfl (by simp;omega) (λe b=>⟨rfl,?_⟩);have:(List.replicate 16 (0:Int)).map (Value.int .u8)=g9 zs:=rfl;rw[this,Hs h1 a rfl]at b;exact gb.shut (AR h1 a rfl) h2 b.swap
 ·rw[bJ a];have hr:cl n X i=(X,1):=bJ (λd=>a d.1);rw[hr];exact⟨rfl,c⟩
end Go.Mp
namespace Go.Proofs
open Go.Shelf
def Tryz.gP:Go.Shelf.Ren:=⟨fun|7=>67|10=>105|n=>n,fun|23=>117|26=>3|3=>118|28=>115|0=>0|27=>114|33=>148|4=>4|n=>n,fun|n=>n⟩
def Tryz.pK:Go.Proofs.SlLaysZI.n7 Tryz.prog Tryz.gP:={
 mixed:=by kernel_rfl
 f7:=⟨f67.name,bN,func67.trans (eJ some cS)⟩
 f10:=⟨f105.name,bN,func105.trans (eJ some cS)⟩
 t0:=Tryz.underlying0
 a0:=Tryz.isAgg0
 z0:=Tryz.sizeOf0
 v0:=Tryz.zeroValue0
 t4:=Tryz.underlying4
 a4:=Tryz.isAgg4
 z4:=Tryz.sizeOf4
 v4:=Tryz.zeroValue4
 t23:=Tryz.underlying117
 a23:=Tryz.isAgg117
 z23:=Tryz.sizeOf117
 v23:=Tryz.zeroValue117
 t26:=Tryz.underlying3
 a26:=Tryz.isAgg3
 z26:=Tryz.sizeOf3
 v26:=Tryz.zeroValue3
 t27:=Tryz.underlying114
 a27:=Tryz.isAgg114
 z27:=Tryz.sizeOf114
 v27:=Tryz.zeroValue114
 t28:=Tryz.underlying115
 a28:=Tryz.isAgg115
 z28:=Tryz.sizeOf115
 v28:=Tryz.zeroValue115
 t33:=Tryz.underlying148
 a33:=Tryz.isAgg148
 z33:=Tryz.sizeOf148
 v33:=Tryz.zeroValue148}
def Tryz.fV:Go.Shelf.Ren:=⟨fun|7=>249|10=>278|n=>n,fun|23=>140|26=>3|3=>239|28=>115|0=>0|27=>114|33=>148|4=>4|n=>n,fun|n=>n⟩
def Tryz.nJ:Go.Proofs.SlLaysZI.n7 Tryz.prog Tryz.fV:={
 mixed:=by kernel_rfl
 f7:=⟨f249.name,bN,func249.trans (eJ some cS)⟩
 f10:=⟨f278.name,bN,func278.trans (eJ some cS)⟩
 t0:=Tryz.underlying0
 a0:=Tryz.isAgg0
 z0:=Tryz.sizeOf0
 v0:=Tryz.zeroValue0
 t4:=Tryz.underlying4
 a4:=Tryz.isAgg4
 z4:=Tryz.sizeOf4
 v4:=Tryz.zeroValue4
 t23:=Tryz.underlying140
 a23:=Tryz.isAgg140
 z23:=Tryz.sizeOf140
 v23:=Tryz.zeroValue140
 t26:=Tryz.underlying3
 a26:=Tryz.isAgg3
 z26:=Tryz.sizeOf3
 v26:=Tryz.zeroValue3
 t27:=Tryz.underlying114
 a27:=Tryz.isAgg114
 z27:=Tryz.sizeOf114
 v27:=Tryz.zeroValue114
 t28:=Tryz.underlying115
 a28:=Tryz.isAgg115
 z28:=Tryz.sizeOf115
 v28:=Tryz.zeroValue115
 t33:=Tryz.underlying148
 a33:=Tryz.isAgg148
 z33:=Tryz.sizeOf148
 v33:=Tryz.zeroValue148}
def Tryz.ey:Go.Shelf.Ren:=⟨fun|6=>66|8=>72|9=>104|11=>109|13=>163|12=>162|23=>229|24=>230|14=>220|15=>221|16=>222|17=>223|18=>224|19=>225|20=>226|21=>227|22=>228|25=>267|26=>268|27=>269|28=>270|29=>271|30=>272|31=>295|n=>n,fun|26=>3|28=>115|24=>22|0=>0|3=>3|37=>202|48=>285|50=>174|4=>4|40=>279|39=>278|45=>166|5=>5|9=>9|51=>322|55=>326|57=>345|58=>65|33=>148|n=>n,fun|n=>n⟩
def Tryz.lY:Go.Proofs.SlLaysZI.n6 Tryz.prog Tryz.ey:={
 mixed:=by kernel_rfl
 f6:=⟨f66.name,bN,func66.trans (eJ some cS)⟩
 f8:=⟨f72.name,bN,func72.trans (eJ some cS)⟩
 f11:=⟨f109.name,bN,func109.trans (eJ some cS)⟩
 t0:=Tryz.underlying0
 a0:=Tryz.isAgg0
 z0:=Tryz.sizeOf0
 v0:=Tryz.zeroValue0
 t24:=Tryz.underlying22
 a24:=Tryz.isAgg22
 z24:=Tryz.sizeOf22
 v24:=Tryz.zeroValue22
 t26:=Tryz.underlying3
 a26:=Tryz.isAgg3
 z26:=Tryz.sizeOf3
 v26:=Tryz.zeroValue3
 t28:=Tryz.underlying115
 a28:=Tryz.isAgg115
 z28:=Tryz.sizeOf115
 v28:=Tryz.zeroValue115
 i26:=by kernel_rfl}
def Tryz.mz:Go.Shelf.Ren:=⟨fun|5=>104|8=>163|7=>162|19=>229|20=>230|10=>220|11=>221|12=>222|13=>223|14=>224|15=>225|16=>226|17=>227|18=>228|30=>267|31=>268|32=>269|33=>270|34=>271|35=>272|40=>295|n=>n,fun|23=>22|25=>3|3=>3|32=>202|22=>22|0=>0|44=>285|46=>174|4=>4|36=>279|35=>278|41=>166|5=>5|9=>9|53=>322|57=>326|63=>345|64=>65|n=>n,fun|n=>n⟩
def Tryz.pM:Go.Proofs.SlLaysM.n5 Tryz.prog Tryz.mz:={
 mixed:=by kernel_rfl
 f5:=⟨f104.name,bN,func104.trans (eJ some cS)⟩
 f7:=⟨f162.name,bN,func162.trans (eJ some cS)⟩
 f8:=func163.trans (eJ some cS)
 f10:=⟨f220.name,bN,func220.trans (eJ some cS)⟩
 f11:=⟨f221.name,bN,func221.trans (eJ some cS)⟩
 f12:=⟨f222.name,bN,func222.trans (eJ some cS)⟩
 f13:=⟨f223.name,bN,func223.trans (eJ some cS)⟩
 f14:=⟨f224.name,bN,func224.trans (eJ some cS)⟩
 f15:=⟨f225.name,bN,func225.trans (eJ some cS)⟩
 f16:=⟨f226.name,bN,func226.trans (eJ some cS)⟩
 f17:=⟨f227.name,bN,func227.trans (eJ some cS)⟩
 f18:=⟨f228.name,bN,func228.trans (eJ some cS)⟩
 f19:=func229.trans (eJ some cS)
 f20:=func230.trans (eJ some cS)
 f30:=⟨f267.name,bN,func267.trans (eJ some cS)⟩
 f31:=func268.trans (eJ some cS)
 f32:=func269.trans (eJ some cS)
 f33:=⟨f270.name,bN,func270.trans (eJ some cS)⟩
 f34:=⟨f271.name,bN,func271.trans (eJ some cS)⟩
 f35:=⟨f272.name,bN,func272.trans (eJ some cS)⟩
 f40:=⟨f295.name,bN,func295.trans (eJ some cS)⟩
 t0:=Tryz.underlying0
 a0:=Tryz.isAgg0
 z0:=Tryz.sizeOf0
 v0:=Tryz.zeroValue0
 t3:=Tryz.underlying3
 a3:=Tryz.isAgg3
 z3:=Tryz.sizeOf3
 v3:=Tryz.zeroValue3
 t4:=Tryz.underlying4
 a4:=Tryz.isAgg4
 z4:=Tryz.sizeOf4
 v4:=Tryz.zeroValue4
 t5:=Tryz.underlying5
 a5:=Tryz.isAgg5
 z5:=Tryz.sizeOf5
 v5:=Tryz.zeroValue5
 t9:=Tryz.underlying9
 a9:=Tryz.isAgg9
 z9:=Tryz.sizeOf9
 v9:=Tryz.zeroValue9
 t22:=Tryz.underlying22
 a22:=Tryz.isAgg22
 z22:=Tryz.sizeOf22
 v22:=Tryz.zeroValue22
 t23:=Tryz.underlying22
 a23:=Tryz.isAgg22
 z23:=Tryz.sizeOf22
 v23:=Tryz.zeroValue22
 t25:=Tryz.underlying3
 a25:=Tryz.isAgg3
 z25:=Tryz.sizeOf3
 v25:=Tryz.zeroValue3
 t32:=Tryz.underlying202
 a32:=Tryz.isAgg202
 z32:=Tryz.sizeOf202
 v32:=Tryz.zeroValue202
 t35:=Tryz.underlying278
 a35:=Tryz.isAgg278
 z35:=Tryz.sizeOf278
 v35:=Tryz.zeroValue278
 t36:=Tryz.underlying279
 a36:=Tryz.isAgg279
 z36:=Tryz.sizeOf279
 v36:=Tryz.zeroValue279
 t41:=Tryz.underlying166
 a41:=Tryz.isAgg166
 z41:=Tryz.sizeOf166
 v41:=Tryz.zeroValue166
 t44:=Tryz.underlying285
 a44:=Tryz.isAgg285
 z44:=Tryz.sizeOf285
 v44:=Tryz.zeroValue285
 t46:=Tryz.underlying174
 a46:=Tryz.isAgg174
 z46:=Tryz.sizeOf174
 v46:=Tryz.zeroValue174
 t53:=Tryz.underlying322
 a53:=Tryz.isAgg322
 z53:=Tryz.sizeOf322
 v53:=Tryz.zeroValue322
 t57:=Tryz.underlying326
 a57:=Tryz.isAgg326
 z57:=Tryz.sizeOf326
 v57:=Tryz.zeroValue326
 t63:=Tryz.underlying345
 a63:=Tryz.isAgg345
 z63:=Tryz.sizeOf345
 v63:=Tryz.zeroValue345
 t64:=Tryz.underlying65
 a64:=Tryz.isAgg65
 z64:=Tryz.sizeOf65
 v64:=Tryz.zeroValue65}
end Go.Proofs
namespace Go.Mp
open Go Go.Vc Go.Sp Go.Proofs Go.Shelf
variable{E:Env}{L:ct}{w:bI}
def Ql(m:Nat):AnyZI.SortsIn P Tryz.ey Fence.wide m:=
  ⟨λbC off cap d W c a b=>callsIn_wide.2 (AnyM.slices_Sort_int Tryz.pM bC off cap d W c a b),
   λp cap W=>callsIn_wide.2 (AnyM.slices_Sort_int_none Tryz.pM p cap W)⟩
def aIr(a:bV Nat)(W:bI):Calls P Bu #[.map a] W λe w'=>e=.returned (.func (.func xA) #[] #[Pb W.heap.size])/\w'=W.alloc (.cells #[.map a] (Tryz.gP.t 23)):=
 (callsIn_wide (n:=5)).1 (AnyZI.keys_in Tryz.pK Fence.wide 5 trivial rfl a W)
def azh{mp q:Nat}{f:Int->bV bE}(h:Sep E L w)(J:L[q]?=some (cE mp (Value.int .i64) f)){N:Nat}(C:∀k v,f k=some v->0<=k/\k<N)(hb:N<=17592186044416){G:Sl->bf8}(k:∀(s:Sl) (l:bS) (w':bI),s.n=l.length->KeysOf f l->Sep E (bw s 1 (bD l)::L) w'->G s w'):
  Calls P Bu #[(.map (some mp))] w λA K=>∃d:bE,A=.returned d/\Calls P xu #[d] K λp z=>∃g:Sl,p=.returned (Sv g)/\G g z:=by
 refine(aIr _ w).mono ?_;rintro e O ⟨rfl,rfl⟩;refine⟨_,rfl,?_⟩;have h1:=h.alloc #[.map (some mp)] (Tryz.gP.t 23);have t:(bC w.heap.size [.map (some mp)]::L)[q+1]?=some (cE mp (Value.int .i64) f):=by simpa using J
 obtain⟨D,m,M,u⟩:=cE.owns (kt:=lS) h1 t cS C hb;have o:=AnyZI.keys_gives (ρ:=Tryz.gP) {Tryz.pK with} Fence.wide 2 trivial rfl bu w.heap.size mp N D _ (by simp) (by simp) m;have H:∀args W,(callFunc xA args).run P W=.ok (.enter xA args) W:=enters_of func105 cS rfl;have B:∀args W,(callFunc (Tryz.ey.f 9) args).run P W=.ok (.enter (Tryz.ey.f 9) args) W:=enters_of func104 cS rfl;have F:=AnyZI.sorted_in Tryz.lY Fence.wide 5 trivial trivial trivial trivial rfl bu (Ql _) B xA #[Pb w.heap.size] trivial H _ _ (by simp[maxLen];omega) bu _ o;refine((callsIn_wide (n:=5)).1 F).mono ?_;rintro e w2 ⟨v,c,rfl,b,a,I,i⟩;obtain⟨r,j⟩:=u c b;have hlen:(c.mergeSort λx y=>decide (x<=y)).length=c.length:=List.length_mergeSort c;rw[<- hlen]at a;obtain⟨s,rfl,hn,h2⟩:=De h1 a i;refine⟨s,rfl,k s _ w2 hn ⟨MS r,λk=>?_⟩ (h2.fr 1 rfl).tail⟩;rw[(yY _ _).mem_iff];exact j k
def aIq(a:bV Nat)(W:bI):Calls P Cx #[.map a] W λe w'=>e=.returned (.func (.func xP) #[] #[Pb W.heap.size])/\w'=W.alloc (.cells #[.map a] (Tryz.fV.t 23)):=
 (callsIn_wide (n:=5)).1 (AnyZI.keys_in Tryz.nJ Fence.wide 5 trivial rfl a W)
def azg{mp q:Nat}{f:Int->bV bE}(h:Sep E L w)(J:L[q]?=some (cE mp (Value.int .i64) f)){N:Nat}(C:∀k v,f k=some v->0<=k/\k<N)(hb:N<=17592186044416){G:Sl->bf8}(k:∀(s:Sl) (l:bS) (w':bI),s.n=l.length->KeysOf f l->Sep E (bw s 1 (bD l)::L) w'->G s w'):
  Calls P Cx #[(.map (some mp))] w λA K=>∃d:bE,A=.returned d/\Calls P xu #[d] K λp z=>∃g:Sl,p=.returned (Sv g)/\G g z:=by
 refine(aIq _ w).mono ?_;rintro e O ⟨rfl,rfl⟩;refine⟨_,rfl,?_⟩;have h1:=h.alloc #[.map (some mp)] (Tryz.fV.t 23);have t:(bC w.heap.size [.map (some mp)]::L)[q+1]?=some (cE mp (Value.int .i64) f):=by simpa using J
 obtain⟨D,m,M,u⟩:=cE.owns (kt:=lS) h1 t cS C hb;have o:=AnyZI.keys_gives (ρ:=Tryz.fV) {Tryz.nJ with} Fence.wide 2 trivial rfl bu w.heap.size mp N D _ (by simp) (by simp) m;have H:∀args W,(callFunc xP args).run P W=.ok (.enter xP args) W:=enters_of func278 cS rfl;have B:∀args W,(callFunc (Tryz.ey.f 9) args).run P W=.ok (.enter (Tryz.ey.f 9) args) W:=enters_of func104 cS rfl;have F:=AnyZI.sorted_in Tryz.lY Fence.wide 5 trivial trivial trivial trivial rfl bu (Ql _) B xP #[Pb w.heap.size] trivial H _ _ (by simp[maxLen];omega) bu _ o;refine((callsIn_wide (n:=5)).1 F).mono ?_;rintro e w2 ⟨v,c,rfl,b,a,I,i⟩;obtain⟨r,j⟩:=u c b;have hlen:(c.mergeSort λx y=>decide (x<=y)).length=c.length:=List.length_mergeSort c;rw[<- hlen]at a;obtain⟨s,rfl,hn,h2⟩:=De h1 a i;refine⟨s,rfl,k s _ w2 hn ⟨MS r,λk=>?_⟩ (h2.fr 1 rfl).tail⟩;rw[(yY _ _).mem_iff];exact j k
end Go.Mp
namespace Go.Kc
open Go
def Pg.vs(p:Pg):bA bE:=[Iv p.kf,Iv p.ki,Iv p.place,Iv p.at_,Iv p.owner,Iv p.refs,Iv p.gen,.bool p.Uq,.bool p.e7]
end Go.Kc
namespace Go.Mp.Tp
open Go Go.Vc Go.Sp Go.Kc Go.Mp
abbrev encI:Int->bE:=Value.int .i64
def fW(k:Int×Int):bE:=.agg #[Iv k.1,Iv k.2]
def Qm(a b:Int×Int)(h:fW a=fW b):a=b:=by
 obtain⟨c,d⟩:=a;obtain⟨b1,b2⟩:=b;simpa[fW]using h
def mA:h5 P lS encI:=h5.int cS
def D7:h5 P w9 fW:=h5.agg (d:=3) (l:=[.int .i64,.int .i64]) Qm cS bN cS (λk=>by
 unfold Typed;rw[show ej P w9=some true by kernel_rfl];exact⟨_,rfl,⟨_,rfl⟩,⟨_,rfl⟩,trivial⟩)
def D8:h5 P HY fW:=h5.agg (d:=3) (l:=[.int .i64,.int .i64]) Qm cS bN cS (λk=>by
 unfold Typed;rw[show ej P HY=some true by kernel_rfl];exact⟨_,rfl,⟨_,rfl⟩,⟨_,rfl⟩,trivial⟩)
def ht(S:TS)(a:Int->Nat):Int->Asn:=λid=>match S.pg id with
 |some p=>bC (a id) p.vs
 |none=>emp
def eU(S:TS)(a:Int->Nat):Int->bV bE:=λid=>(S.pg id).map λ_=>.pointer (some ⟨a id,0,none⟩)
def D9(t mp mf ms:Nat)(a:Int->Nat)(S:TS):ct:=
 [bC t [.map (some mp),.map (some mf),.map (some ms),Iv S.next],cE mp encI (eU S a),cE mf fW (λk=>(S.files k).map encI),cE ms fW (λk=>(S.c0 k).map encI),eN (ht S a)]
def c2(t:Nat)(S:TS):Asn:=fa λmp:Nat=>fa λmf:Nat=>fa λms:Nat=>fa λa:Int->Nat=>cy (D9 t mp mf ms a S)
variable{E:Env}{L:ct}{w:bI}
def c2.open{t:Nat}{S:TS}(h:Sep E (c2 t S::L) w):∃mp mf ms a,Sep E (bC t [.map (some mp),.map (some mf),.map (some ms),Iv S.next]::cE mp encI (eU S a)::
  cE mf fW (λk=>(S.files k).map encI)::cE ms fW (λk=>(S.c0 k).map encI)::eN (ht S a)::L) w:=by
 obtain⟨mp,h⟩:=Sep.ex.1 h;obtain⟨mf,h⟩:=Sep.ex.1 h;obtain⟨ms,h⟩:=Sep.ex.1 h;obtain⟨a,h⟩:=Sep.ex.1 h;exact⟨mp,mf,ms,a,Sep.cy.1 h⟩
def c2.shut{t mp mf ms:Nat}{a:Int->Nat}{S:TS}(h:Sep E (bC t [.map (some mp),.map (some mf),.map (some ms),Iv S.next]::cE mp encI (eU S a)::
  cE mf fW (λk=>(S.files k).map encI)::cE ms fW (λk=>(S.c0 k).map encI)::eN (ht S a)::L) w):Sep E (c2 t S::L) w:=
 Sep.ex.2 ⟨mp,Sep.ex.2 ⟨mf,Sep.ex.2 ⟨ms,Sep.ex.2 ⟨a,Sep.cy.2 h⟩⟩⟩⟩
def aKg{t mp q:Nat}{f:Int->bV bE}(h:Sep E L w){i:Nat}{c:bA bE}(e:L[i]?=some (bC t c))(b:c[0]?=some (.map (some mp)))(d:L[q]?=some (cE mp (Value.int .i64) f)){N:Nat}(a:∀k v,f k=some v->0<=k/\k<N)(hb:N<=17592186044416):
  Calls P Bm #[Pb t] w (cz λv w'=>∃(s:Sl) (l:bS),v=Sv s/\s.n=l.length/\KeysOf f l/\Sep E (bw s 1 (bD l)::L) w'):=by
 apply Vi;unfold J4 qJ qM qN;refine⟨_,rfl,some mp,by rw[cf,h.cellAt i e];exact b,azh h d a hb (λs l w' hn hk h1=>?_)⟩;exact⟨s,l,rfl,hn,hk,h1⟩
def vk(h:Sep E L w):Calls P Bs #[] w (cz λv w'=>∃t,v=Pb t/\Sep E (c2 t TS.zero::L) w'):=by
 apply Vr;unfold Ke;refine cE.new (enc:=encI) h (λmp f h1=>cE.new (enc:=fW) h1 (λmf w2 h2=>cE.new (enc:=fW) h2 (λms g b=>Al.i b (λt e c=>?_))));refine⟨t,rfl,c2.shut (mp:=mp) (mf:=mf) (ms:=ms) (a:=λ_=>0) ?_⟩;have d:Sep E (eN (ht TS.zero λ_=>0)::_) e:=eN.nil c (λi=>rfl);exact d.ro 5 [1,4,3,2,0] rfl
def Qn{κ:Type}{enc:κ->bE}{b:Nat}{t kt:cc}{g:κ->bV Int}(i:Nat)(h:Sep E L w)(c:L[i]?=some (cE b enc (λk=>(g k).map encI)))(K:h5 P kt enc)(d:mQ P t=some (kt,Iv 0))(k:κ):
  gp P t (.map (some b)) (enc k) true w (.tuple #[Iv ((g k).getD 0),.bool (g k).isSome]):=by
 have:=gp.i true i h c K d k;cases a:g k with
 |none=>simpa[a]using this
 |some v=>simpa[a]using this
def rq{b:Nat}{S:TS}{a:Int->Nat}(i:Nat)(h:Sep E L w)(d:L[i]?=some (cE b encI (eU S a)))(k:Int):
  gp P HW (.map (some b)) (Iv k) false w (.pointer ((S.pg k).map λ_=>⟨a k,0,none⟩)):=by
 have:=gp.i false i h d mA (t:=HW) (z:=.pointer none) cS k;unfold eU at this;cases c:S.pg k with
 |none=>simpa[c]using this
 |some v=>simpa[c]using this
def vl{t:Nat}{S:TS}(k:Int×Int)(h:Sep E (c2 t S::L) w):Calls P Ch #[Pb t,fW k] w (cW E (Iv (S.of k)) (c2 t S::L)):=by
 obtain⟨mp,mf,ms,a,h⟩:=c2.open h;apply Xb;unfold Ly qM zZ;refine Al.i h (λp d h1=>Dr.i h1 (λw2 h2=>?_));have b:=c2.shut (h2.tail);refine⟨_,rfl,some mf,by rw[cf];exact(h2.cellAt 1 rfl _).trans rfl,k.1,(h2.cellAt 0 rfl _).trans rfl,k.2,by rw[cf];exact(h2.cellAt 0 rfl _).trans rfl,_,_,Qn 3 h2 rfl D7 cS k,?_⟩;unfold TS.of;cases c:S.files k with
 |none=>exact dH ⟨rfl,b⟩
 |some v=>exact eA ⟨rfl,b⟩
def Ea{t:Nat}{S:TS}(place at_:Int)(h:Sep E (c2 t S::L) w):Calls P Cm #[Pb t,Iv place,Iv at_] w (cz λv w'=>w'=w/\v=Iv (S.at_ (place,at_))):=by
 obtain⟨mp,mf,ms,a,h⟩:=c2.open h;apply Xl;unfold LM qM;refine⟨_,rfl,some ms,by rw[cf];exact(h.cellAt 0 rfl _).trans rfl,_,_,Qn 3 h rfl D8 cS (place,at_),?_⟩;unfold TS.at_;cases b:S.c0 (place,at_)with
 |none=>exact dH ⟨rfl,rfl⟩
 |some v=>exact eA ⟨rfl,rfl⟩
def aIR{S:TS}{a:Int->Nat}{id:Int}{p:Pg}{S':TS}(c:S'.pg=cL S.pg id (some p))(b:Nat)(hb:∀j,j≠id->S.pg j≠none->(λj=>if j=id then b else a j) j=a j):ht S' (λj=>if j=id then b else a j)=e4 (ht S a) id (bC b p.vs):=by
 have _:=hb;funext j;unfold ht e4;rw[c];unfold cL;by_cases h:j=id;·simp[h]
 ·simp[h]
def aHi{S:TS}{a:Int->Nat}{id:Int}{p:Pg}{S':TS}(c:S'.pg=cL S.pg id (some p))(b:Nat):eU S' (λj=>if j=id then b else a j)=cL (eU S a) id (some (Pb b)):=by
 funext j;unfold eU cL;rw[c];unfold cL;by_cases h:j=id;·simp[h]
 ·simp[h]
def yq{S:TS}{a:Int->Nat}{id:Int}{p:Pg}{S':TS}(b:S'.pg=cL S.pg id (some p)):ht S' a=e4 (ht S a) id (bC (a id) p.vs):=by
 funext j;unfold ht e4;rw[b];unfold cL;by_cases h:j=id;·simp[h]
 ·simp[h]
def yr{S:TS}{a:Int->Nat}{id:Int}{p q:Pg}{S':TS}(b:S'.pg=cL S.pg id (some p))(c:S.pg id=some q):eU S' a=eU S a:=by
 funext j;unfold eU;rw[b];unfold cL;by_cases h:j=id;·simp[h,c]
 ·simp[h]
def Qo{S:TS}{a:Int->Nat}{id:Int}{p:Pg}(h:S.pg id=some p):ht S a id=bC (a id) p.vs:=by unfold ht;rw[h]
def oT{t:Nat}{S:TS}(id:Int)(h:Sep E (c2 t S::L) w):Calls P px #[Pb t,Iv id] w (cW E (.tuple #[.agg (S.get id).1.vs.toArray,Iv (S.get id).2]) (c2 t S::L)):=by
 obtain⟨mp,mf,ms,a,h⟩:=c2.open h;apply Vj;unfold J5 qM qU qV qY;refine Al.i h (λr g h1=>?_);refine⟨_,rfl,some mp,by rw[cf];exact(h1.cellAt 1 rfl _).trans rfl,_,rq 2 h1 rfl id,?_⟩;have fin:∀ {w2:bI} (p:Pg),Sep E (bC r p.vs::c2 t S::L) w2->∀(j:Nat) (v:bE),p.vs[j]?=some v->w2.cell? (Addr.add ⟨r,0,none⟩ j)=some v:=by
  intro w2 p h2 j v c;rw[cf,h2.cell,fx];exact c
 unfold TS.get;cases e:S.pg id with
 |none=>
  refine dH (kN.i (h1.ro 6 [0,1,2,3,4,5] rfl) bN (λw2 h2=>?_));have b:Sep E (c2 t S::L) w2:=c2.shut h2.tail;have f:=fin Pg.zero (w2:=w2) ((c2.shut (L:=bC r Pg.zero.vs::L) (h2.ro 6 [1,2,3,4,5,0] rfl)).swap);exact⟨_,f 0 _ rfl,_,f 1 _ rfl,_,f 2 _ rfl,_,f 3 _ rfl,_,f 4 _ rfl,_,f 5 _ rfl,_,f 6 _ rfl,_,f 7 _ rfl,_,f 8 _ rfl,rfl,b⟩
 |some p=>
  have d:=eN.out (h1.fr 5 rfl) id;rw[Qo e]at d;have ld:∀(j:Nat) (v:bE),p.vs[j]?=some v->g.cell? (Addr.add ⟨a id,0,none⟩ j)=some v:=by
   intro j v c;rw[cf,d.cell,fx];exact c
  refine eA ⟨_,rfl,_,ld 0 _ rfl,_,ld 1 _ rfl,_,ld 2 _ rfl,_,ld 3 _ rfl,_,ld 4 _ rfl,_,ld 5 _ rfl,_,ld 6 _ rfl,_,ld 7 _ rfl,_,ld 8 _ rfl,?_⟩;refine kN.i (h1.ro 6 [0,1,2,3,4,5] rfl) (ek 9) (λw2 h2=>?_);have b:Sep E (c2 t S::L) w2:=c2.shut h2.tail;have f:=fin p (w2:=w2) ((c2.shut (L:=bC r p.vs::L) (h2.ro 6 [1,2,3,4,5,0] rfl)).swap);exact⟨_,f 0 _ rfl,_,f 1 _ rfl,_,f 2 _ rfl,_,f 3 _ rfl,_,f 4 _ rfl,_,f 5 _ rfl,_,f 6 _ rfl,_,f 7 _ rfl,_,f 8 _ rfl,rfl,b⟩
def Qp{t mp mf ms q p:Nat}{a:Int->Nat}{S:TS}{kf ki o:Int}{l:bA bE}(b:S.pg S.next=none)(h:Sep E (cE mp encI (cL (eU S a) S.next (some (Pb q)))::bC q [Iv kf,Iv ki,Iv 0,Iv 0,Iv o,Iv 0,Iv 0,.bool false,.bool false]::
   bC t [.map (some mp),.map (some mf),.map (some ms),Iv (i64.wrap (S.next+1))]::bC p l::cE mf fW (λk=>(S.files k).map encI)::cE ms fW (λk=>(S.c0 k).map encI)::eN (ht S a)::L) w):
  Sep E (c2 t (S.iJ kf ki o)::L) w:=by
 have h1:=h.ro 7 [1,6,2,0,4,5,3] rfl;have h2:=eN.MR (i:=S.next) h1 (by unfold ht;rw[b]);have c:=aIR (S:=S) (a:=a) (id:=S.next) (p:=⟨kf,ki,0,0,o,0,0,false,false⟩) (S':=S.iJ kf ki o) rfl q (λj g _=>by simp[g]);have d:=aHi (S:=S) (a:=a) (id:=S.next) (p:=⟨kf,ki,0,0,o,0,0,false,false⟩) (S':=S.iJ kf ki o) rfl q;have e:e4 (ht S a) S.next (bC q [Iv kf,Iv ki,Iv 0,Iv 0,Iv o,Iv 0,Iv 0,.bool false,.bool false])=ht (S.iJ kf ki o) (λj=>if j=S.next then q else a j):=c.symm;rw[e,<- d]at h2;have f:=(h2.fr 5 rfl).tail;exact c2.shut (S:=S.iJ kf ki o) (f.ro 5 [1,2,3,4,0] rfl)
def yp{t:Nat}{S:TS}(kf ki o:Int)(c:S.pg S.next=none)(h:Sep E (c2 t S::L) w):Calls P Ci #[Pb t,fW (kf,ki),Iv o] w
  (cW E (.tuple #[Iv (S.make kf ki o).2.1,Iv (S.make kf ki o).2.2]) (c2 t (S.make kf ki o).1::L)):=by
 obtain⟨mp,mf,ms,a,h⟩:=c2.open h;apply Xc;unfold Lz qL qM qQ qU zS zZ;refine Al.i h (λp x h1=>?_);refine⟨_,rfl,S.next,by rw[cf];exact(h1.cellAt 1 rfl _).trans rfl,kf,(h1.cellAt 0 rfl _).trans rfl,?_⟩;unfold TS.make;refine cU (λhk=>?_) (λhk=>?_)
 ·rw[bK hk];refine kN.i h1 (ek 2) (λw2 h2=>?_);refine⟨_,rfl,S.next,by rw[cf];exact(h2.cellAt 1 rfl _).trans rfl,_,rfl,?_⟩;rw[cf];refine St.i h2.swap (show 3<4 by decide) (λm d=>Dr.i d (λn b=>?_));refine⟨_,rfl,some mp,by rw[cf];exact(b.cellAt 0 rfl _).trans rfl, -1,(b.cellAt 1 rfl _).trans rfl,S.next,by rw[cf];exact(b.cellAt 1 rfl _).trans rfl,?_⟩;refine Al.i b (λq r g=>?_);refine⟨some mp,by rw[cf];exact(g.cellAt 1 rfl _).trans rfl,rfl,?_⟩;refine mapUpdate.i (g.ro 7 [3,0,1,2,4,5,6] rfl) mA (z:=.pointer none) cS S.next _ (λs f=>⟨rfl,?_⟩);exact Qp c f
 ·rw[cD];refine⟨kf,(h1.cellAt 0 rfl _).trans rfl,ki,by rw[cf];exact(h1.cellAt 0 rfl _).trans rfl,?_⟩;refine use (vl (L:=bC p [Iv kf,Iv ki]::L) (S:=S) (t:=t) (kf,ki) (c2.shut (h1.ro 6 [1,2,3,4,5,0] rfl))) ?_;rintro _ w2 ⟨rfl,h2⟩;refine⟨_,rfl,hs (λl=>?_) (λu=>?_)⟩;·rw[bK l];exact⟨rfl,(h2.fr 1 rfl).tail⟩
  ·rw[cD];obtain⟨mp,mf,ms,a,h2⟩:=c2.open h2;refine Dr.i h2 (λm d=>?_);refine⟨_,rfl,some mf,by rw[cf];exact(d.cellAt 0 rfl _).trans rfl,kf,(d.cellAt 5 rfl _).trans rfl,ki,by rw[cf];exact(d.cellAt 5 rfl _).trans rfl,?_⟩;refine mapUpdate.i (d.ro 6 [2,0,1,3,4,5] rfl) D7 (z:=Iv 0) cS (kf,ki) _ (λn b=>?_);refine⟨_,rfl,S.next,by rw[cf];exact(b.cellAt 1 rfl _).trans rfl,_,rfl,?_⟩;rw[cf];refine St.i b.swap (show 3<4 by decide) (λr g=>Dr.i g (λs f=>?_));refine⟨_,rfl,some mp,by rw[cf];exact(f.cellAt 0 rfl _).trans rfl,kf,(f.cellAt 5 rfl _).trans rfl,ki,by rw[cf];exact(f.cellAt 5 rfl _).trans rfl,?_⟩;refine Al.i f (λq y i=>?_);refine⟨some mp,by rw[cf];exact(i.cellAt 1 rfl _).trans rfl,rfl,?_⟩;refine mapUpdate.i (i.ro 7 [3,0,1,6,2,4,5] rfl) mA (z:=.pointer none) cS S.next _ (λA j=>⟨rfl,?_⟩);have e:(cL (λk=>(S.files k).map encI) (kf,ki) (some (Iv S.next)))= λk=>(cL S.files (kf,ki) (some S.next) k).map encI:=by
    funext k;unfold cL;split<;>rfl
   rw[e]at j;exact Qp (S:={S with files:=cL S.files (kf,ki) (some S.next)}) c j
def c2.bL{mp:Nat}{a:Int->Nat}{S:TS}{id:Int}{p:Pg}{A B C D:Asn}(b:S.pg id=some p)(h:Sep E (A::B::C::D::eN (ht S a)::L) w):Sep E (bC (a id) p.vs::eN (e4 (ht S a) id emp)::A::B::C::D::L) w:=by
 have _:=mp;have h1:=eN.out (h.fr 4 rfl) id;rw[Qo b]at h1;exact h1
def aIf{t:Nat}{S:TS}(id n:Int)(h:Sep E (c2 t S::L) w):Calls P IT #[Pb t,Iv id,Iv n] w
  (cW E (.tuple #[Iv (S.bO id n).2.1,Iv (S.bO id n).2.2]) (c2 t (S.bO id n).1::L)):=by
 have b:=h;obtain⟨mp,mf,ms,a,h⟩:=c2.open h;apply Wr;unfold K3 qL qM;refine⟨_,rfl,some mp,by rw[cf];exact(h.cellAt 0 rfl _).trans rfl,_,rq 1 h rfl id,?_⟩;unfold TS.bO;cases i:S.pg id with
 |none=>exact eA ⟨rfl,b⟩
 |some p=>
  refine dH (cU (λh1=>?_) (λh1=>fZ (λh2=>?_) (λh2=>?_)));·dsimp only;rw[bK (.inl h1)];exact⟨rfl,b⟩
  ·dsimp only;rw[bK (.inr (.inl h2))];exact⟨rfl,b⟩
  ·have c:=c2.bL (mp:=mp) i h;refine⟨_,rfl,p.refs,by rw[cf];exact(c.cellAt 0 rfl _).trans rfl,cU (λd=>?_) (λd=>?_)⟩;·dsimp only;rw[bK (.inr (.inr d))];exact⟨rfl,b⟩
   ·dsimp only;rw[cD];refine⟨_,rfl,p.refs,by rw[cf];exact(c.cellAt 0 rfl _).trans rfl,_,rfl,?_⟩;refine eL.j c (show 5<9 by decide) (λw2 f=>?_);refine⟨_,rfl,i64.wrap (p.refs+n),by rw[cf];exact(f.cellAt 0 rfl _).trans rfl,rfl,?_⟩;have g:=eN.back f;have e:e4 (ht S a) id (bC (a id) (p.vs.set (0+5) (Iv (i64.wrap (p.refs+n)))))=ht (S.cJ id {p with refs:=i64.wrap (p.refs+n)}) a:=(yq (S':=S.cJ id {p with refs:=i64.wrap (p.refs+n)}) rfl).symm;have j:eU S a=eU (S.cJ id {p with refs:=i64.wrap (p.refs+n)}) a:=(yr rfl i).symm;rw[e,j]at g;exact c2.shut (S:=S.cJ id {p with refs:=i64.wrap (p.refs+n)}) (g.ro 5 [1,2,3,4,0] rfl)
def vm{t:Nat}{S:TS}(id:Int)(h:Sep E (c2 t S::L) w):Calls P BU #[Pb t,Iv id] w
  (cW E (Iv (S.drop id).2) (c2 t (S.drop id).1::L)):=by
 have c:=h;obtain⟨mp,mf,ms,a,h⟩:=c2.open h;apply Ww;unfold K8 qL qM zZ;refine⟨_,rfl,some mp,by rw[cf];exact(h.cellAt 0 rfl _).trans rfl,_,rq 1 h rfl id,?_⟩;unfold TS.drop;cases o:S.pg id with
 |none=>exact eA ⟨rfl,c⟩
 |some p=>
  have d:=c2.bL (mp:=mp) o h;refine dH ⟨_,rfl,p.refs,by rw[cf];exact(d.cellAt 0 rfl _).trans rfl,fZ (λe=>?_) (λe=>?_)⟩;·dsimp only;rw[bK (.inl e)];exact⟨rfl,c⟩
  ·refine⟨_,rfl,p.place,by rw[cf];exact(d.cellAt 0 rfl _).trans rfl,hJ (λf=>?_) (λf=>?_)⟩;·dsimp only;rw[bK (.inr f)];exact⟨rfl,c⟩
   ·dsimp only;rw[cD];refine Dr.i d (λq b=>?_);refine⟨_,rfl,some mf,by rw[cf];exact(b.cellAt 2 rfl _).trans rfl,_,rfl,p.kf,by rw[cf,cf];exact(b.cellAt 0 rfl _).trans rfl,p.ki,by rw[cf,cf];exact(b.cellAt 0 rfl _).trans rfl,?_⟩;refine gK.i (b.ro 6 [4,0,1,2,3,5] rfl) D7 (z:=Iv 0) cS (p.kf,p.ki) (λw2 g=>?_);refine⟨_,rfl,some mp,by rw[cf];exact(g.cellAt 3 rfl _).trans rfl,?_⟩;refine gK.i (g.ro 6 [4,0,1,2,3,5] rfl) mA (z:=.pointer none) cS id (λr i=>⟨rfl,?_⟩);have l:cL (eU S a) id none=eU {S with pg:=cL S.pg id none,files:=cL S.files (p.kf,p.ki) none} a:=by
     funext j;unfold eU cL;dsimp only;split<;>rfl
    have m:(cL (λk=>(S.files k).map encI) (p.kf,p.ki) none)= λk=>(cL S.files (p.kf,p.ki) none k).map encI:=by
     funext k;unfold cL;split<;>rfl
    have n:e4 (ht S a) id emp=ht {S with pg:=cL S.pg id none,files:=cL S.files (p.kf,p.ki) none} a:=by
     funext j;unfold ht e4 cL;dsimp only;split<;>rfl
    rw[l,m,n]at i;exact c2.shut (S:={S with pg:=cL S.pg id none,files:=cL S.files (p.kf,p.ki) none}) ((i.fr 2 rfl).tail.ro 5 [3,0,1,4,2] rfl)
def az6{t:Nat}{S:TS}(id o:Int)(b:Nat)(h:Sep E (c2 t S::bC b [Iv o]::L) w):Calls P xG #[Pb t,Iv id,.func (.func B1) #[] #[Pb b]] w
  (cW E (Iv (S.own id o).2) (c2 t (S.own id o).1::L)):=by
 have i:=h;obtain⟨mp,mf,ms,a,h⟩:=c2.open h;apply LJ;unfold CX qM;refine⟨_,rfl,some mp,by rw[cf];exact(h.cellAt 0 rfl _).trans rfl,_,rq 1 h rfl id,?_⟩;unfold TS.own;cases f:S.pg id with
 |none=>exact eA ⟨rfl,(i.fr 1 rfl).tail⟩
 |some p=>
  refine dH ⟨B1,_,rfl,by kernel_rfl,?_⟩;have c:=c2.bL (mp:=mp) f h;refine use (K:=λv w'=>v=.tuple #[]/\Sep E (c2 t (S.cJ id {p with owner:=o})::L) w') (WJ (some ⟨a id,0,none⟩) ⟨b,0,none⟩ ?_) ?_
  ·unfold Lf qD;refine⟨o,(c.cellAt 6 rfl _).trans rfl,_,rfl,?_⟩;refine eL.j c (show 4<9 by decide) (λw2 k=>⟨rfl,?_⟩);have d:=eN.back k;have e:e4 (ht S a) id (bC (a id) (p.vs.set (0+4) (Iv o)))=ht (S.cJ id {p with owner:=o}) a:=(yq (S':=S.cJ id {p with owner:=o}) rfl).symm;have g:eU S a=eU (S.cJ id {p with owner:=o}) a:=(yr rfl f).symm;rw[e,g]at d;exact c2.shut (S:=S.cJ id {p with owner:=o}) ((d.fr 5 rfl).tail.ro 5 [1,2,3,4,0] rfl)
  ·rintro v w' ⟨rfl,j⟩;exact⟨rfl,rfl,j⟩
def Qq{t:Nat}{S:TS}(id o:Int)(h:Sep E (c2 t S::L) w):Calls P BF #[Pb t,Iv id,Iv o] w
  (cW E (Iv (S.own id o).2) (c2 t (S.own id o).1::L)):=by
 apply V4;unfold KH qC qQ;refine Al.i h (λb a h1=>use (az6 id o b h1.swap) ?_);rintro v w' ⟨rfl,h2⟩;exact⟨_,rfl,rfl,h2⟩
def azf{t:Nat}{S:TS}(id:Int)(o:Bool)(b:Nat)(h:Sep E (c2 t S::bC b [.bool o]::L) w):Calls P xG #[Pb t,Iv id,.func (.func Ck) #[] #[Pb b]] w
  (cW E (Iv (S.mark id o).2) (c2 t (S.mark id o).1::L)):=by
 have i:=h;obtain⟨mp,mf,ms,a,h⟩:=c2.open h;apply LJ;unfold CX qM;refine⟨_,rfl,some mp,by rw[cf];exact(h.cellAt 0 rfl _).trans rfl,_,rq 1 h rfl id,?_⟩;unfold TS.mark;cases f:S.pg id with
 |none=>exact eA ⟨rfl,(i.fr 1 rfl).tail⟩
 |some p=>
  refine dH ⟨Ck,_,rfl,by kernel_rfl,?_⟩;have c:=c2.bL (mp:=mp) f h;refine use (K:=λv w'=>v=.tuple #[]/\Sep E (c2 t (S.cJ id {p with e7:=o})::L) w') (Xg (some ⟨a id,0,none⟩) ⟨b,0,none⟩ ?_) ?_
  ·unfold LD qm;refine⟨o,(c.cellAt 6 rfl _).trans rfl,_,rfl,?_⟩;refine eL.j c (show 8<9 by decide) (λw2 k=>⟨rfl,?_⟩);have d:=eN.back k;have e:e4 (ht S a) id (bC (a id) (p.vs.set (0+8) (.bool o)))=ht (S.cJ id {p with e7:=o}) a:=(yq (S':=S.cJ id {p with e7:=o}) rfl).symm;have g:eU S a=eU (S.cJ id {p with e7:=o}) a:=(yr rfl f).symm;rw[e,g]at d;exact c2.shut (S:=S.cJ id {p with e7:=o}) ((d.fr 5 rfl).tail.ro 5 [1,2,3,4,0] rfl)
  ·rintro v w' ⟨rfl,j⟩;exact⟨rfl,rfl,j⟩
def Qr{t:Nat}{S:TS}(id:Int)(o:Bool)(h:Sep E (c2 t S::L) w):Calls P BQ #[Pb t,Iv id,.bool o] w
  (cW E (Iv (S.mark id o).2) (c2 t (S.mark id o).1::L)):=by
 apply Wp;unfold K0 qQ;refine Al.i h (λb a h1=>use (azf id o b h1.swap) ?_);rintro v w' ⟨rfl,h2⟩;exact⟨_,rfl,rfl,h2⟩
def Qt(g:Int×Int->bV Int)(k:Int×Int)(v:bV Int):cL (λk=>(g k).map encI) k (v.map encI)= λx=>(cL g k v x).map encI:=by
 funext x;unfold cL;split<;>rfl
def aHv(g:Int×Int->bV Int)(k:Int×Int):cL (λk=>(g k).map encI) k none= λx=>(cL g k none x).map encI:=Qt g k none
def aHw(g:Int×Int->bV Int)(k:Int×Int)(v:Int):cL (λk=>(g k).map encI) k (some (Value.int .i64 v))= λx=>(cL g k (some v) x).map encI:=Qt g k (some v)
def s8{t:Nat}{S:TS}(id place at_:Int)(h:Sep E (c2 t S::L) w):Calls P uG #[Pb t,Iv id,Iv place,Iv at_] w
  (cW E (Iv (S.put id place at_).2) (c2 t (S.put id place at_).1::L)):=by
 have d:=h;obtain⟨mp,mf,ms,a,h⟩:=c2.open h;apply Wv;unfold K7 qL qM qQ;refine⟨_,rfl,some mp,by rw[cf];exact(h.cellAt 0 rfl _).trans rfl,_,rq 1 h rfl id,?_⟩;unfold TS.put;cases q:S.pg id with
 |none=>exact eA ⟨rfl,d⟩
 |some p=>
  dsimp only;have bad:∀ {r:TS×Int},(place<0\/2<place\/at_<0\/(place=0/\at_≠0))->(Value.int .i64 1=Iv (if place<0\/2<place\/at_<0\/(place=0/\at_≠0)then(S,(1:Int))else r).2/\Sep E (c2 t (if place<0\/2<place\/at_<0\/(place=0/\at_≠0)then(S,(1:Int))else r).1::L) w):=by
   intro r hb;rw[bK hb];exact⟨rfl,d⟩
  refine dH (cU (λc=>bad (.inl c)) (λA=>fZ (λc=>bad (.inr (.inl c))) (λB=>cU (λc=>bad (.inr (.inr (.inl c)))) (λC=>eQ (λe=>hJ (λc=>bad (.inr (.inr (.inr ⟨e,c⟩)))) (λl=>?_)) (λe=>?_)))));all_goals
   have s:¬ (place<0\/2<place\/at_<0\/(place=0/\at_≠0)):=by omega
   rw[bJ s];refine use (Ea place at_ d) ?_;rintro _ D ⟨rfl,rfl⟩;refine⟨_,rfl,?_⟩;refine hs (λm=>hJ (λn=>?_) (λn=>?_)) (λm=>?_);·rw[bK ⟨m,n⟩];exact⟨rfl,d⟩
   all_goals
    rw[cD];have u:=c2.bL (mp:=mp) q h;refine Dr.i u (λw2 f=>?_);refine⟨_,rfl,some ms,by rw[cf];exact(f.cellAt 2 rfl _).trans rfl,_,rfl,p.place,by rw[cf];exact(f.cellAt 0 rfl _).trans rfl,_,rfl,p.at_,by rw[cf];exact(f.cellAt 0 rfl _).trans rfl,?_⟩;refine gK.i (f.ro 6 [5,0,1,2,3,4] rfl) D8 (z:=Iv 0) cS (p.place,p.at_) (λF o=>?_);rw[aHv S.c0 (p.place,p.at_)]at o;refine⟨_,rfl,eL.j o.swap (show 2<9 by decide) (λG x=>?_)⟩;refine⟨_,rfl,eL.j x (show 3<9 by decide) (λH y=>?_)⟩;have i:=eN.back (y.ro 6 [0,2,1,3,4,5] rfl);have fin:∀ {sp:Int×Int->bV Int} {g:bI},Sep E (eN (e4 (ht S a) id (bC (a id) ((p.vs.set (0+2) (Iv place)).set (0+3) (Iv at_))))::
      cE ms fW (λk=>(sp k).map encI)::bC t [.map (some mp),.map (some mf),.map (some ms),Iv S.next]::cE mp encI (eU S a)::cE mf fW (λk=>(S.files k).map encI)::L) g->
      Sep E (c2 t {pg:=cL S.pg id (some {p with place:=place,at_:=at_}),files:=S.files,c0:=sp,next:=S.next} ::L) g:=by
     intro sp g b;have e:e4 (ht S a) id (bC (a id) ((p.vs.set (0+2) (Iv place)).set (0+3) (Iv at_)))=ht {pg:=cL S.pg id (some {p with place:=place,at_:=at_}),files:=S.files,c0:=sp,next:=S.next} a:=
      (yq (S':={pg:=cL S.pg id (some {p with place:=place,at_:=at_}),files:=S.files,c0:=sp,next:=S.next}) rfl).symm
     have l:eU S a=eU {pg:=cL S.pg id (some {p with place:=place,at_:=at_}),files:=S.files,c0:=sp,next:=S.next} a:=(yr rfl q).symm;rw[e,l]at b;exact c2.shut (S:={pg:=cL S.pg id (some {p with place:=place,at_:=at_}),files:=S.files,c0:=sp,next:=S.next}) (b.ro 5 [2,3,4,1,0] rfl)
    refine hJ (λj=>?_) (λj=>?_)
    ·refine⟨_,rfl,some ms,by rw[cf];exact(i.cellAt 2 rfl _).trans rfl,?_⟩;refine mapUpdate.i (i.ro 5 [1,0,2,3,4] rfl) D8 (z:=Iv 0) cS (place,at_) _ (λg b=>⟨rfl,?_⟩);rw[aHw (cL S.c0 (p.place,p.at_) none) (place,at_) id]at b;rw[bK j];exact fin b.swap
    ·rw[bJ (by simpa using j)];exact⟨rfl,fin i⟩
structure ys(S:TS)(l:bS):Prop where
 cX:l.Pairwise (· < ·)
 mem:∀k,k∈l↔(S.pg k).isSome=true
def fk(S:TS)(N:Nat):Prop:=∀k,(S.pg k).isSome=true->0<=k/\k<N
def ys.le{S:TS}{l:bS}{N:Nat}(h:ys S l)(hf:fk S N):l.length<=N:=
 sH N l (og.2 (h.cX.imp (λa he=>bu))) (λx hx=>hf x ((h.mem x).1 hx))
def aJn{t:Nat}{S:TS}{N:Nat}(b:fk S N)(hb:N<=17592186044416)(h:Sep E (c2 t S::L) w):
  Calls P Bm #[Pb t] w (cz λv w'=>∃(s:Sl) (l:bS),v=Sv s/\s.n=l.length/\ys S l/\Sep E (bw s 1 (bD l)::c2 t S::L) w'):=by
 obtain⟨mp,mf,ms,a,h⟩:=c2.open h;refine use (aKg (f:=eU S a) h (i:=0) (q:=1) rfl rfl rfl (N:=N) (λk v hk=>?_) hb) ?_
 ·refine b k ?_;unfold eU at hk;cases c:S.pg k with
  |none=>rw[c]at hk;cases hk
  |some p=>rfl
 ·rintro v d ⟨s,l,rfl,hn,hl,h1⟩;refine⟨_,rfl,s,l,rfl,hn,⟨hl.cX,λk=>?_⟩,?_⟩;·rw[hl.mem k];unfold eU;cases S.pg k<;>simp
  ·have h2:=c2.shut (L:=bw s 1 (bD l)::L) (h1.ro 6 [1,2,3,4,5,0] rfl);exact h2.swap
def rr(S:TS)(o id:Int):Bool:=match S.pg id with
 |some p=>p.owner !=o
 |none=>true
def aIh{t:Nat}{S:TS}{N:Nat}(o:Int)(g:fk S N)(hb:N<=17592186044416)(h:Sep E (c2 t S::L) w):
  Calls P IB #[Pb t,Iv o] w (cz λv w'=>∃(s:Sl) (l:bS),v=Sv s/\ys S l/\s.n=(l.filter λx=> !rr S o x).length/\Sep E (bw s 1 (bD (l.filter λx=> !rr S o x))::c2 t S::L) w'):=by
 apply V3;unfold KG qC qJ qb;refine Al.i h (λc r h1=>Al.i h1 (λd w2 h2=>?_));refine⟨_,(h2.cellAt 1 rfl _).trans rfl,?_⟩;have j:Sep E (c2 t S::bC d [Iv o]::bC c [Pb t]::L) w2:=h2.ro 3 [2,0,1] rfl;refine use (aJn g hb j) ?_;rintro _ u ⟨s,l,rfl,hn,hl,k⟩;refine⟨s,rfl,?_⟩;have hlen:=hl.le g;refine use (PI (L:=c2 t S::bC d [Iv o]::bC c [Pb t]::L) (q:=rr S o) ?_ hn bu k) ?_
 ·intro m hm x z hx e;obtain⟨p,hp⟩:=kX.1 ((hl.mem x).1 hx);refine⟨IV,_,rfl,by kernel_rfl,?_⟩;refine use (K:=λv w'=>v=.bool (rr S o x)/\Sep E (bw s 1 (bD m)::c2 t S::bC d [Iv o]::bC c [Pb t]::L) w') (WI x ⟨c,0,none⟩ ⟨d,0,none⟩ ?_) ?_
  ·unfold Le qD qL qM qb;refine Dr.i e (λA b=>?_);obtain⟨mp,mf,ms,a,f⟩:=c2.open (b.fr 1 rfl);refine⟨_,(b.cellAt 3 rfl _).trans rfl,_,rfl,some mp,by rw[cf];exact(f.cellAt 0 rfl _).trans rfl,_,rq 1 f rfl x,?_⟩;rw[hp];have n:=c2.bL (mp:=mp) hp f;refine⟨_,rfl,p.owner,by rw[cf];exact(n.cellAt 0 rfl _).trans rfl,o,(b.cellAt 2 rfl _).trans rfl,?_,b⟩;unfold rr;rw[hp]
  ·rintro v w' ⟨rfl,b⟩;exact⟨rfl,b⟩
 ·rintro _ y ⟨s',rfl,i,e⟩;have b:=(e.fr 2 rfl).tail;exact⟨s',rfl,s',l,rfl,hl,i,(b.fr 2 rfl).tail⟩
end Go.Mp.Tp
namespace Go.Mp
open Go Go.Vc Go.Sp Go.Stab
section
variable{E:Env}{L:ct}{w:bI}{s:Sl}{cmp:bE}{lt:Int->Int->Bool}{n:Nat}{R b:Int->Int->Prop}
def lv{A X Y B:bS}{k:Nat}(hk:k<X.length):(A++X++Y++B)[A.length+k]?=X[k]? :=by
 rw[dj,dj,lu,eM hk]
def lx{A X Y B:bS}{k:Nat}(hk:k<Y.length):(A++X++Y++B)[A.length+X.length+k]?=Y[k]? :=by
 have:A.length+X.length+k=(A++X).length+k:=by simp
 rw[this,dj,lu,eM hk]
def vf(K:lr R b lt)(aX:n<1152921504606846976)(hn:s.n=n)(aD:gC E L s cmp lt n):∀(N:Nat) {A X Y B:bS} {w:bI},X.length+Y.length<=N->1<=X.length->1<=Y.length->
  X.Pairwise R->Y.Pairwise R->(∀x∈X,∀y∈Y,b x y)->(A++X++Y++B).length=n->Sep E (bw s 1 (bD (A++X++Y++B))::L) w->∀ {a m e:Int},a=A.length->m=A.length+X.length->e=A.length+X.length+Y.length->
  Calls P uP #[Sv s,Iv a,Iv m,Iv e,cmp] w (cz λv w'=>v=.tuple #[]/\∃Z,Z.Perm (X++Y)/\Z.Pairwise R/\Sep E (bw s 1 (bD (A++Z++B))::L) w'):=by
 intro N;induction N with
 |zero=>intro A X Y B w h1 h2;omega
 |succ N aP=>
 intro A X Y B w a5 aI aJ ao ap hb aL h a m e aW hm he;subst aW hm he;have hlen:(A++X++Y++B).length=A.length+X.length+Y.length+B.length:=by simp only[dd]
 rw[hlen]at aL;have J:s.n=(A++X++Y++B).length:=by omega
 apply Yi;unfold MD qD qE qI qO qW qg qh zP;rw[cP (n:=(A.length:Int)+X.length-A.length) bu bu,cP (n:=(A.length:Int)+X.length+Y.length-(A.length+X.length)) bu bu];refine eQ (λh1=>?_) (λaY=>eQ (λh2=>?_) (λaZ=>?_))
 ·
  obtain⟨x,rfl⟩:∃x,X= [x]:=by
   match X,aI,h1 with
   |[x],_,_=>exact⟨x,rfl⟩
   |_::_::_,_,h=>simp at h;omega
  simp only[l3]at*
  have ay:∀y∈Y,b x y:=λy l=>hb x (by simp) y l;refine⟨λi j w=>∃p q:Nat,i=A.length+1+p/\j=A.length+1+q/\p<=q/\q<=Y.length/\(p=0\/∃y,Y[p-1]?=some y/\R y x)/\(Y.length<=q\/∃y,Y[q]?=some y/\R x y)/\Sep E (bw s 1 (bD (A++[x]++Y++B))::L) w,
   λi j _=>(j-i).toNat,⟨0,Y.length,bu,bu,bu,bu,.inl rfl,.inl (ek _),h⟩,?_⟩
  rintro _ i j aS ⟨p,q,rfl,rfl,az,aG,F,G,h1⟩;refine cU (λag=>⟨bN,Dr.i h1 (λw2 h2=>?_)⟩) (λaf=>?_)
  ·have z:((A.length:Int)+1+p+(A.length+1+q))/2=((A.length+1+(p+q)/2:Nat):Int):=by omega
   rw[half,z];have u:(p+q)/2<Y.length:=by omega
   have l:Y[(p+q)/2]?=some (Y[(p+q)/2]'u):=dO u;generalize Y[(p+q)/2]'u=y at l;have aB:y∈Y:=eI l;refine gY (A.length+1+(p+q)/2) h2 J rfl ((lx (A:=A) (X:=[x]) (B:=B) u).trans l) (gY (A.length+0) h2 J bu (by rw[lv (by simp)];rfl) ?_);refine aD.i bu h2 (λO aa f=>?_) (λhf aa f=>?_)
   ·rw[cP bu bu];exact⟨⟨(p+q)/2+1,q,bu,rfl,bu,aG,.inr ⟨y,by simpa using l,(K.ask x y (ay y aB)).1 O⟩,G,f⟩,by dsimp only;omega⟩
   ·exact⟨⟨p,(p+q)/2,rfl,bu,bu,bu,F,.inr ⟨y,l,K.no (ay y aB) hf⟩,f⟩,by dsimp only;omega⟩
  ·have V:p=q:=by omega
   subst V;rw[cP (n:=(A.length:Int)+1+p-1) bu bu];have e0:A++[x]++Y++B=A++ins Y 0 x++B:=by simp[ins]
   rw[e0]at h1;refine⟨λk w=>∃t:Nat,k=A.length+t/\t<=p/\Sep E (bw s 1 (bD (A++ins Y t x++B))::L) w,λk _=>(A.length+p-k).toNat,⟨0,bu,bu,h1⟩,?_⟩;rintro _ k w2 ⟨t,rfl,O,h2⟩;have C:s.n=(A++ins Y t x++B).length:=by
    have:=mU Y t x;simp only[dd,this];omega
   refine cU (λag=>Dr.i h2 (λaa f=>?_)) (λaf=>?_)
   ·rw[cP (n:=(A.length:Int)+t+1) bu bu];have l:Y[t]?=some (Y[t]'bu):=dP;generalize Y[t]'(bu)=y at l;refine gY (A.length+(t+1)) f C bu (by rw[kG bu bu,cD,cD];exact l) ?_;refine gY (A.length+t) f C bu (by rw[kG bu bu,cD,bK rfl]) ?_;refine kF (A.length+t) f C bu bu (λah r=>kF (A.length+t+1) r (by rw[dW];exact C) bu (by rw[dW];omega) (λaH I=>?_));rw[Hq l]at I;exact⟨⟨t+1,bu,bu,I⟩,by dsimp only;omega⟩
   ·have:t=p:=by omega
    subst this;exact⟨trivial,ins Y t x,rY Y t x,r1 K.ord ap F G,h2⟩
 ·
  obtain⟨y,rfl⟩:∃y,Y= [y]:=by
   match Y,aJ,h2 with
   |[y],_,_=>exact⟨y,rfl⟩
   |_::_::_,_,h=>simp at h;omega
  simp only[l3]at*
  have ax:∀x∈X,b x y:=λx hx=>hb x hx y (by simp);refine⟨λi j w=>∃p q:Nat,i=A.length+p/\j=A.length+q/\p<=q/\q<=X.length/\(p=0\/∃x,X[p-1]?=some x/\R x y)/\(X.length<=q\/∃x,X[q]?=some x/\R y x)/\Sep E (bw s 1 (bD (A++X++[y]++B))::L) w,
   λi j _=>(j-i).toNat,⟨0,X.length,bu,bu,bu,bu,.inl rfl,.inl (ek _),h⟩,?_⟩
  rintro _ i j aS ⟨p,q,rfl,rfl,az,aG,F,G,h1⟩;refine cU (λag=>⟨bN,Dr.i h1 (λw2 h2=>?_)⟩) (λaf=>?_)
  ·have z:((A.length:Int)+p+(A.length+q))/2=((A.length+(p+q)/2:Nat):Int):=by omega
   rw[half,z];have u:(p+q)/2<X.length:=by omega
   have hx:X[(p+q)/2]?=some (X[(p+q)/2]'u):=dO u;generalize X[(p+q)/2]'u=x at hx;have aA:x∈X:=eI hx;refine gY (A.length+X.length+0) h2 J bu (by rw[lx (by simp)];rfl) (gY (A.length+(p+q)/2) h2 J rfl (by rw[lv u];exact hx) ?_);refine aD.j bu h2 (λO aa f=>?_) (λhf aa f=>?_);·exact⟨⟨p,(p+q)/2,rfl,bu,bu,bu,F,.inr ⟨x,hx,(K.ask x y (ax x aA)).1 O⟩,f⟩,by dsimp only;omega⟩
   ·rw[cP bu bu];exact⟨⟨(p+q)/2+1,q,bu,rfl,bu,aG,.inr ⟨x,by simpa using hx,K.no (ax x aA) hf⟩,G,f⟩,by dsimp only;omega⟩
  ·have V:p=q:=by omega
   subst V;have e0:A++X++[y]++B=A++ins X X.length y++B:=by rw[wO];simp
   rw[e0]at h1;refine⟨λk w=>∃t:Nat,k=A.length+t/\p<=t/\t<=X.length/\Sep E (bw s 1 (bD (A++ins X t y++B))::L) w,λk _=>(k-A.length).toNat,⟨X.length,rfl,bu,bu,h1⟩,?_⟩;rintro _ k w2 ⟨t,rfl,O,a1,h2⟩;have C:s.n=(A++ins X t y++B).length:=by
    have:=mU X t y;simp only[dd,this];omega
   refine fZ (λag=>Dr.i h2 (λaa f=>?_)) (λaf=>?_)
   ·obtain⟨M,rfl⟩:∃M,t=M+1:=⟨t-1,bu⟩
    rw[cP (n:=(A.length:Int)+((M+1:Nat):Int)-1) bu bu];have hx:X[M]?=some (X[M]'bu):=dP;generalize X[M]'(bu)=x at hx;refine gY (A.length+M) f C bu (by rw[kG bu bu,eK];exact hx) ?_;refine gY (A.length+(M+1)) f C bu (by rw[kG bu bu,cD,bK rfl]) ?_;refine kF (A.length+M+1) f C bu bu (λah r=>kF (A.length+M) r (by rw[dW];exact C) bu (by rw[dW];omega) (λaH I=>?_));rw[wP hx]at I;exact⟨⟨M,bu,bu,bu,I⟩,by dsimp only;omega⟩
   ·have:t=p:=by omega
    subst this;exact⟨trivial,ins X t y,(rY X t y).trans (l1 (l₁:=[y]) (l₂:=X)),r1 K.ord ao F G,h2⟩
 ·
  refine⟨bN,?_⟩;obtain⟨d,a6⟩:∃d,d=(X.length+Y.length)/2:=⟨_,rfl⟩
  have aF:((A.length:Int)+(A.length+X.length+Y.length))/2=((A.length+d:Nat):Int):=by omega
  rw[half,aF];rw[cP (n:=((A.length+d:Nat):Int)+(A.length+X.length)) bu bu];rw[cP (n:=((A.length+d:Nat):Int)+(A.length+X.length)-(A.length+X.length+Y.length)) bu bu];rw[cP (n:=((A.length+d:Nat):Int)+(A.length+X.length)-1) bu bu];obtain⟨W,U⟩:∃W,W=if X.length>d then d-Y.length else 0:=⟨_,rfl⟩
  obtain⟨Q,T⟩:∃Q,Q=if X.length>d then d else X.length:=⟨_,rfl⟩
  have aq:W<=Q/\Q<=d/\Q<=X.length/\d<=W+Y.length:=by
   rw[U,T];split<;>omega
  refine⟨λi j w=>i=A.length+W/\j=A.length+Q/\Sep E (bw s 1 (bD (A++X++Y++B))::L) w,?_,?_⟩
  ·refine fZ (λa0=>?_) (λhle=>?_)
   ·refine⟨?_,?_,h⟩;·rw[U,eK];omega
    ·rw[T,eK];omega
   ·refine⟨?_,?_,h⟩;·rw[U,cD];omega
    ·rw[T,cD]
  rintro _ i0 a7 aS ⟨rfl,rfl,h1⟩;refine⟨λi j w=>∃p q:Nat,i=A.length+p/\j=A.length+q/\W<=p/\p<=q/\q<=Q/\(p=W\/∃x y,X[p-1]?=some x/\Y[d-p]?=some y/\R x y)/\(q=Q\/∃x y,Y[d-q-1]?=some y/\X[q]?=some x/\R y x)/\
    Sep E (bw s 1 (bD (A++X++Y++B))::L) w,λi j _=>(j-i).toNat,⟨W,Q,rfl,rfl,ek _,aq.1,ek _,.inl rfl,.inl rfl,h1⟩,?_⟩
  rintro _ i j w2 ⟨p,q,rfl,rfl,aM,az,aN,F,G,h2⟩;refine cU (λag=>⟨bN,Dr.i h2 (λaa f=>?_)⟩) (λaf=>?_)
  ·have z:((A.length:Int)+p+(A.length+q))/2=((A.length+(p+q)/2:Nat):Int):=by omega
   rw[half,z];rw[cP (n:=((A.length+d:Nat):Int)+(A.length+X.length)-1-((A.length+(p+q)/2:Nat):Int)) bu bu];obtain⟨c,aK⟩:∃c,c=(p+q)/2:=⟨_,rfl⟩
   rw[<- aK];have ad:c<X.length:=by omega
   have ae:d-1-c<Y.length:=by omega
   have hx:X[c]?=some (X[c]'ad):=dO ad;have l:Y[d-1-c]?=some (Y[d-1-c]'ae):=dO ae;generalize X[c]'ad=x at hx;generalize Y[d-1-c]'ae=y at l;have al:=hb x (eI hx) y (eI l);refine gY (A.length+X.length+(d-1-c)) f J bu (by rw[lx ae];exact l) (gY (A.length+c) f J bu (by rw[lv ad];exact hx) ?_);refine aD.j bu f (λO ah r=>?_) (λhf ah r=>?_)
   ·refine⟨⟨p,c,rfl,bu,aM,bu,bu,F,.inr ⟨x,y,?_,hx,(K.ask x y al).1 O⟩,r⟩,by dsimp only;omega⟩;rw[show d-c-1=d-1-c by omega];exact l
   ·rw[cP bu bu];refine⟨⟨c+1,q,bu,rfl,bu,bu,aN,.inr ⟨x,y,by simpa using hx,?_,K.no al hf⟩,G,r⟩,by dsimp only;omega⟩;rw[show d-(c+1)=d-1-c by omega];exact l
  ·have V:p=q:=by omega
   subst V;obtain⟨t,O⟩:∃t,t=d-p:=⟨_,rfl⟩
   have am:=wR K.ord (X:=X) (Y:=Y) (i:=p) (j:=t) ao ap (by
    rcases F with e|⟨x,y,H,ab,ai⟩
    ·by_cases an:X.length>d;·rw[bK an]at U;right;left;omega
     ·rw[bJ an]at U;left;omega
    ·exact .inr (.inr ⟨x,y,H,by rw[O];exact ab,ai⟩)) (by
    rcases G with e|⟨x,y,H,ab,ai⟩
    ·by_cases an:X.length>d;·rw[bK an]at T;left;omega
     ·rw[bJ an]at T;right;left;omega
    ·exact .inr (.inr ⟨x,y,by rw[O];exact H,ab,ai⟩))
   have aQ:(X.take p).length=p:=by simp;omega
   have aR:(Y.take t).length=t:=by simp;omega
   have a2:(X.drop p).length=X.length-p:=by simp
   have a3:(Y.drop t).length=Y.length-t:=by simp
   have aE:i64.wrap (((A.length+d:Nat):Int)+(A.length+X.length)-(A.length+p))=((A.length+X.length+t:Nat):Int):=by
    rw[cP bu bu];omega
   rw[aE];refine⟨λw=>Sep E (bw s 1 (bD (A++(X.take p++Y.take t)++(X.drop p++Y.drop t)++B))::L) w,?_,?_⟩
   ·refine⟨λc w=>c=decide (p<X.length/\0<t)/\Sep E (bw s 1 (bD (A++X++Y++B))::L) w,?_,?_⟩
    ·refine cU (λg=>⟨?_,h2⟩) (λg=>⟨?_,h2⟩)
     ·have:(decide ((A.length:Int)+X.length<((A.length+X.length+t:Nat):Int)))=decide (0<t):=by
       by_cases o:0<t;·rw[dF o,dF bu]
       ·rw[dg o,dg bu]
      rw[this];by_cases o:0<t;·rw[dF o,dF ⟨bu,o⟩]
      ·rw[dg o,dg (λz=>o z.2)]
     ·exact(dg (λz=>bu)).symm
    rintro _ c aa ⟨rfl,f⟩;refine cv (λg=>?_) (λg=>?_)
    ·have g:=mH g;have H:A++X++Y++B=(A++X.take p)++X.drop p++Y.take t++(Y.drop t++B):=by
      simp only[dj];rw[<- dj (Y.take t),fK,<- dj (X.take p),fK]
     rw[H]at f;refine use (DR (cmp:=cmp) bu bu (by rw[<- H];exact J) (by rw[<- H];omega) f (by simp only[dd];omega) (by simp only[dd];omega) (by simp only[dd];omega)) ?_;rintro _ ah ⟨rfl,r⟩;refine⟨rfl,?_⟩;have ab:(A++X.take p)++Y.take t++X.drop p++(Y.drop t++B)=A++(X.take p++Y.take t)++(X.drop p++Y.drop t)++B:=by simp
     rw[<- ab];exact r
    ·have g:=kg g;have ab:A++(X.take p++Y.take t)++(X.drop p++Y.drop t)++B=A++X++Y++B:=by
      by_cases o:p<X.length
      ·have:t=0:=by omega
       subst this;simp only[wi,hv,rI,dj];rw[<- dj (X.take p),fK]
      ·have ai:X.drop p= []:=kY bu;have aU:X.take p=X:=iw bu;rw[ai,aU,lJ];simp only[dj];rw[<- dj (Y.take t),fK]
     rw[ab];exact f
   rintro _ aa f;have au:(X.take p).Pairwise R:=ao.sublist (o4 _ _);have ar:(X.drop p).Pairwise R:=ao.sublist (F9 _ _);have aw:(Y.take t).Pairwise R:=ap.sublist (o4 _ _);have av:(Y.drop t).Pairwise R:=ap.sublist (F9 _ _);refine⟨λw=>∃D,D.Perm (X.take p++Y.take t)/\D.Pairwise R/\Sep E (bw s 1 (bD (A++D++(X.drop p++Y.drop t)++B))::L) w,?_,?_⟩
   ·refine⟨λc w=>c=decide (0<p/\0<t)/\Sep E (bw s 1 (bD (A++(X.take p++Y.take t)++(X.drop p++Y.drop t)++B))::L) w,?_,?_⟩
    ·refine cU (λg=>⟨?_,f⟩) (λg=>⟨?_,f⟩)
     ·by_cases o:0<t;·rw[dF bu,dF ⟨bu,o⟩]
      ·rw[dg bu,dg (λz=>o z.2)]
     ·exact(dg (λz=>bu)).symm
    rintro _ c ah ⟨rfl,r⟩;refine cv (λg=>?_) (λg=>?_)
    ·have g:=mH g;have H:A++(X.take p++Y.take t)++(X.drop p++Y.drop t)++B=A++X.take p++Y.take t++((X.drop p++Y.drop t)++B):=by simp
     rw[H]at r;refine use (aP bu bu bu au aw (λx hx y l=>hb x (nP hx) y (nP l)) (by simp only[dd];omega) r rfl bu bu) ?_;rintro _ aH ⟨rfl,D,S,ak,I⟩;refine⟨rfl,D,S,ak,?_⟩;rw[dj (A++D)];exact I
    ·have g:=kg g;refine⟨_,.refl _,?_,r⟩;by_cases o:0<p
     ·have:t=0:=by omega
      subst this;simpa using au
     ·have:p=0:=by omega
      subst this;simpa using aw
   rintro _ ah ⟨D,S,aj,r⟩;have a4:D.length=d:=by rw[S.length_eq,dd,aQ,aR];omega
   refine⟨λc w=>c=decide (p<X.length/\t<Y.length)/\Sep E (bw s 1 (bD (A++D++(X.drop p++Y.drop t)++B))::L) w,?_,?_⟩
   ·refine cU (λg=>⟨?_,r⟩) (λg=>⟨?_,r⟩)
    ·by_cases o:t<Y.length;·rw[dF bu,dF ⟨bu,o⟩]
     ·rw[dg bu,dg (λz=>o z.2)]
    ·exact(dg (λz=>bu)).symm
   rintro _ c aH ⟨rfl,I⟩;refine cv (λg=>?_) (λg=>?_)
   ·have g:=mH g;have H:A++D++(X.drop p++Y.drop t)++B=(A++D)++X.drop p++Y.drop t++B:=by simp
    rw[H]at I;refine use (aP bu bu bu ar av (λx hx y l=>hb x (tr hx) y (tr l)) (by simp only[dd];omega) I (by simp only[dd];omega) (by simp only[dd];omega) (by simp only[dd];omega)) ?_;rintro _ a8 ⟨rfl,aT,ak,aC,aV⟩;have:=jL S ak aj aC am;refine⟨rfl,rfl,D++aT,this.1,this.2,?_⟩;rw[<- dj A];exact aV
   ·have g:=kg g;have aO:(X.drop p++Y.drop t).Pairwise R:=by
     by_cases o:p<X.length
     ·have:Y.drop t= []:=kY bu;rw[this,hv];exact ar
     ·have:X.drop p= []:=kY bu;rw[this,lJ];exact av
    have:=jL S (.refl _) aj aO am;refine⟨rfl,D++(X.drop p++Y.drop t),this.1,this.2,?_⟩;rw[<- dj A];exact I
end
end Go.Mp
namespace Go.Mp
open Go Go.Vc Go.Sp Go.Stab
section
variable{E:Env}{L:ct}{w:bI}{s:Sl}{cmp:bE}{lt:Int->Int->Bool}{R b:Int->Int->Prop}
def ff(b:Int->Int->Prop)(X Y:bS):Prop:=∀x∈X,∀y∈Y,b x y
def ff.merge{Ps Qs:bA (bS)}{X Y Z:bS}(h:(Ps++X::Y::Qs).Pairwise (ff b))(j:Z.Perm (X++Y)):(Ps++Z::Qs).Pairwise (ff b):=by
 have hm:∀z,z∈Z->z∈X\/z∈Y:=λz a=>gH.1 (j.mem_iff.1 a);rw[jy,g7,g7]at h;rw[jy,g7];obtain⟨h1,⟨h2,g,i⟩,d⟩:=h;refine⟨h1,⟨λQ c z a y f=>?_,i⟩,λP' e Q c=>?_⟩
 ·rcases hm z a with a|a;·exact h2 Q (by simp[c]) z a y f
  ·exact g Q c z a y f
 ·rcases ew.1 c with rfl|c
  ·intro x hx z a;rcases hm z a with a|a;·exact d P' e X (by simp) x hx z a
   ·exact d P' e Y (by simp) x hx z a
  ·exact d P' e Q (by simp[c])
def ff.perm{Ps Qs:bA (bS)}{X Z:bS}(h:(Ps++X::Qs).Pairwise (ff b))(g:Z.Perm X):(Ps++Z::Qs).Pairwise (ff b):=by
 have hm:∀z,z∈Z->z∈X:=λz c=>g.mem_iff.1 c;rw[jy,g7]at h ⊢;obtain⟨h1,⟨h2,f⟩,d⟩:=h;refine⟨h1,⟨λQ a z c y i=>h2 Q a z (hm z c) y i,f⟩,λP' e Q a=>?_⟩;rcases ew.1 a with rfl|a;·intro x hx z c;exact d P' e X (by simp) x hx z (hm z c)
 ·exact d P' e Q (by simp[a])
def ff.split{Ps:bA (bS)}{a M2:bS}(h:(Ps++[a++M2]).Pairwise (ff b))(c:(a++M2).Pairwise b):(Ps++[a,M2]).Pairwise (ff b):=by
 rw[jy]at h c ⊢;obtain⟨h1,_,f⟩:=h;refine⟨h1,by simpa[ff]using c.2.2,λP' g Q d x hx y e=>?_⟩;have:=f P' g (a++M2) (by simp) x hx y;simp only[ew,tC,tI]at d;rcases d with rfl|rfl;·exact this (by simp[e])
 ·exact this (by simp[e])
def ft(R:Int->Int->Prop)(b:Nat)(a:bA (bS)):Prop:=∀F∈a,F.length=b/\F.Pairwise R
def ft.length{b:Nat}:∀ {a:bA (bS)},ft R b a->a.flatten.length=b*a.length
 |[],_=>by simp
 |F::a,h=>by
  have h1:=(h F (by simp)).1;have h2:a.flatten.length=b*a.length:=ft.length (λG c=>h G (by simp[c]));rw[tw,dd,h1,h2,hM,nc,fR,rK]
def ft.snoc{b:Nat}{c:bA (bS)}{F:bS}(h:ft R b c)(h1:F.length=b)(h2:F.Pairwise R):ft R b (c++[F]):=by
 intro G a;rcases gH.1 a with a|a;·exact h G a
 ·rw[ia.1 a];exact⟨h1,h2⟩
def DS{l:bS}(K:lr R b lt)(ag:l.Pairwise b)(hn:s.n=l.length)(ah:l.length<288230376151711744)(Q:gC E L s cmp lt l.length)(h:Sep E (bw s 1 (bD l)::L) w):
  Calls P Jq #[Sv s,Iv (s.n:Nat),cmp] w (cz λv w'=>v=.tuple #[]/\∃l',l'.Perm l/\l'.Pairwise R/\Sep E (bw s 1 (bD l')::L) w'):=by
 apply X2;unfold Mm qE qI qO;rw[hn];refine⟨λa e w=>∃c M,a=(20*c.length:Nat)/\e=(20*c.length+20:Nat)/\ft R 20 c/\M.Pairwise b/\(c++[M]).Pairwise (ff b)/\(c.flatten++M).Perm l/\Sep E (bw s 1 (bD (c.flatten++M))::L) w,λa _ _=>(l.length-a).toNat,
  ⟨[],l,rfl,rfl,λF i=>(by cases i),ag,by simp,by simp,by simpa using h⟩,?_⟩
 rintro _ a e ar ⟨c,M,rfl,rfl,i,S,p,j,h1⟩;have hlen:=j.length_eq;have k:=i.length;rw[dd,k]at hlen;refine h6 (λhle=>?_) (λad=>?_)
 ·have m:c.flatten++M=c.flatten++M.take 20++M.drop 20:=by rw[dj,fK]
  have ae:(M.take 20).length=20:=by simp;omega
  have u:=S;rw[<- fK 20 M]at u p;have ab:=ff.split p u;rw[jy]at u;have C:(c.flatten++M.take 20++M.drop 20).length=l.length:=by rw[<- m];exact j.length_eq
  rw[m]at h1;rw[<- hn];refine use (ve K u.1 (by rw[C];exact hn) bu (by rw[C];exact Q) h1 (by rw[k]) (by rw[k,ae];omega)) ?_;rintro _ w2 ⟨rfl,X,G,aa,h2⟩;rw[cP bu bu];have ak:X.length=20:=by rw[G.length_eq,ae]
  refine⟨rfl,⟨c++[X],M.drop 20,by simp;omega,by simp;omega,i.snoc ak aa,u.2.1,?_,?_,?_⟩,by dsimp only;omega⟩
  ·have:=ff.perm (Ps:=c) (Qs:=[M.drop 20]) ab G;simpa using this
  ·refine List.Perm.trans ?_ j;rw[m];simp only[F0,tw,y2,hv];exact(G.append_left _).append_right _
  ·simpa using h2
 ·have m:c.flatten++M=c.flatten++M++[]:=by simp
  rw[m]at h1;rw[<- hn];refine use (ve K S (by rw[<- m,j.length_eq];exact hn) (by rw[<- m,j.length_eq];omega) (by rw[<- m,j.length_eq];exact Q) h1 (by rw[k]) (by rw[k];omega)) ?_;rintro _ w2 ⟨rfl,T,W,q,h2⟩;rw[hv]at h2;have aq:=W.length_eq;refine⟨rfl,λz w=>∃(f:Nat) (c:bA (bS)) (T:bS),z=f/\20<=f/\ft R f c/\T.length<f/\T.Pairwise R/\(c++[T]).Pairwise (ff b)/\(c.flatten++T).Perm l/\Sep E (bw s 1 (bD (c.flatten++T))::L) w,λz _=>(l.length-z).toNat,
   ⟨20,c,T,rfl,ek _,i,bu,q,ff.perm p W,(W.append_left _).trans j,h2⟩,?_⟩
  rintro _ z au ⟨f,c,T,rfl,an,i,I,q,p,j,O⟩;have hlen:=j.length_eq;have k:=i.length;rw[dd,k]at hlen;refine cU (λap=>?_) (λao=>⟨rfl,_,j,?_,O⟩)
  ·have aj:f<l.length:=by omega
   rw[cP (n:=2*(f:Int)) bu bu];refine⟨λa e w=>∃d c T,a=(2*f*d.length:Nat)/\e=(2*f*d.length+2*f:Nat)/\ft R (2*f) d/\ft R f c/\T.length<f/\T.Pairwise R/\(d++(c++[T])).Pairwise (ff b)/\
     (d.flatten++(c.flatten++T)).Perm l/\Sep E (bw s 1 (bD (d.flatten++(c.flatten++T)))::L) w,λa _ _=>(l.length-a).toNat,
    ⟨[],c,T,by simp,by simp,λF i=>(by cases i),i,I,q,by simpa using p,by simpa using j,by simpa using O⟩,?_⟩
   rintro _ a e av ⟨d,c,T,rfl,rfl,V,i,I,q,p,j,x⟩;have hlen:=j.length_eq;have t:=V.length;have k:=i.length;rw[dd,dd,k,t]at hlen;have hmul:f*c.length<=l.length:=by omega
   have af:2*f*d.length<=l.length:=by omega
   rw[cP (n:=((2*f*d.length:Nat):Int)+f) bu bu];refine h6 (λhle=>?_) (λad=>?_)
   ·obtain⟨r,o,g,rfl⟩:∃r o g,c=r::o::g:=by
     match c,hlen with
     |[],hl=>simp at hl;omega
     |[F],hl=>simp at hl;omega
     |r::o::g,_=>exact⟨r,o,g,rfl⟩
    have f1:=i r (by simp);have f2:=i o (by simp);have y:=p;rw[jy]at y;have N:ff b r o:=(g7.1 y.2.1).1 o (by simp);have m:d.flatten++((r::o::g).flatten++T)=d.flatten++r++o++(g.flatten++T):=by simp
    have C:(d.flatten++r++o++(g.flatten++T)).length=l.length:=by rw[<- m];exact j.length_eq
    rw[m]at x;rw[<- hn];refine use (vf K bu hn Q _ (ek _) bu bu f1.2 f2.2 N C x (by rw[t]) (by rw[t,f1.1]) (by rw[t,f1.1,f2.1];omega)) ?_;rintro _ am ⟨rfl,Z,A,J,D⟩;have al:Z.length=2*f:=by rw[A.length_eq,dd,f1.1,f2.1];omega
    rw[cP bu bu];refine⟨rfl,⟨d++[Z],g,T,?_,?_,V.snoc al J,λF Y=>i F (by simp[Y]),I,q,?_,?_,?_⟩,?_⟩;·rw[dd,l3,nc,fR]
    ·rw[dd,l3,nc,fR];omega
    ·have:=ff.merge (Ps:=d) (Qs:=g++[T]) (by simpa using p) A;simpa using this
    ·refine List.Perm.trans ?_ j;rw[m];simp only[F0,tw,y2,hv];have:d.flatten++r++o++(g.flatten++T)=d.flatten++(r++o)++(g.flatten++T):=by simp
     rw[this];exact(A.append_left _).append_right _
    ·simpa using D
    ·dsimp only;omega
   ·have fin:∀ {T':bS} {w':bI},T'.length<2*f->T'.Pairwise R->T'.Perm (c.flatten++T)->(d++[T']).Pairwise (ff b)->Sep E (bw s 1 (bD (d.flatten++T'))::L) w'->
      ((∃(B:Nat) (c:bA (bS)) (T:bS),i64.wrap ((f:Int)*2)=B/\20<=B/\ft R B c/\T.length<B/\T.Pairwise R/\(c++[T]).Pairwise (ff b)/\(c.flatten++T).Perm l/\Sep E (bw s 1 (bD (c.flatten++T))::L) w')/\
       (l.length-i64.wrap ((f:Int)*2)).toNat<(l.length-(f:Int)).toNat):=by
     intro T' w' h1 h2 O x D;rw[cP bu bu];exact⟨⟨2*f,d,T',bu,bu,V,h1,h2,x,(O.append_left _).trans j,D⟩,bu⟩
    rcases c with _|⟨F,_|⟨o,g⟩⟩
    ·refine cU (λU=>?_) (λ_=>?_);·exfalso;simp at hlen;omega
     ·exact fin (T':=T) bu q (by simp) (by simpa using p) (by simpa using x)
    ·have f1:=i F (by simp);simp only[l3,fR]at hlen;refine cU (λU=>?_) (λU=>?_)
     ·have y:=p;rw[jy]at y;have N:ff b F T:=(g7.1 y.2.1).1 T (by simp);have m:d.flatten++([F].flatten++T)=d.flatten++F++T++[]:=by simp
      have C:(d.flatten++F++T++[]).length=l.length:=by rw[<- m];exact j.length_eq
      rw[m]at x;rw[<- hn];refine use (vf K bu hn Q _ (ek _) bu bu f1.2 q N C x (by rw[t]) (by rw[t,f1.1]) (by rw[t,f1.1];omega)) ?_;rintro _ am ⟨rfl,Z,A,J,D⟩;refine⟨rfl,?_⟩;rw[hn];refine fin (T':=Z) (by rw[A.length_eq,dd,f1.1];omega) J (by simpa using A) ?_ (by simpa using D);exact ff.merge (Ps:=d) (Qs:=[]) (by simpa using p) A
     ·have H:T= []:=by
       have:T.length=0:=by omega
       exact vU.1 this
      subst H;refine fin (T':=F) bu f1.2 (by simp) ?_ (by simpa using x);have:(d++F::[]::[]).Pairwise (ff b):=by simpa using p
      exact ff.merge (Ps:=d) (Qs:=[]) this (by simp)
    ·exfalso;simp only[hM,nc,fR]at hlen;omega
  ·have ai:l.length<=f:=by omega
   match c,i,k,hlen,p with
   |[],_,_,_,_=>simpa using q
   |[F],i,_,hlen,_=>
    have f1:=i F (by simp);have H:T= []:=by
     have:T.length=0:=by simp at hlen;omega
     exact vU.1 this
    subst H;simpa using f1.2
   |r::o::g,_,_,hlen,_=>
    exfalso;simp only[hM,nc,fR]at hlen;omega
def DT{l:bS}(K:lr R b lt)(c:l.Pairwise b)(hn:s.n=l.length)(a:l.length<288230376151711744)(d:gC E L s cmp lt l.length)(h:Sep E (bw s 1 (bD l)::L) w):
  Calls P Jf #[Sv s,cmp] w (cz λv w'=>v=.tuple #[]/\∃l',l'.Perm l/\l'.Pairwise R/\Sep E (bw s 1 (bD l')::L) w'):=by
 apply XG;unfold L4 qE;refine use (DS K c hn a d h) ?_;rintro _ e ⟨rfl,h1⟩;exact⟨rfl,rfl,h1⟩
end
end Go.Mp
namespace Go.Sp
open Go Go.Vc
def Sep.Eb{E:Env}{A A':Asn}{L:ct}{w:bI}(h:Sep E (A::L) w)(hw:∀F,A.holds w.heap F->∃F',A'.holds w.heap F'/\∀x,F' x->F x):Sep E (A'::L) w:=by
 obtain⟨he,F,h1,h2,c⟩:=h;obtain⟨F',d,a⟩:=hw F h1;exact⟨he,F',d,λb hb=>h2 b (a b hb),c.weaken (λb hb=>hb.imp id (a b))⟩
def aG7{P:cN}(w:bI)(ty:cc)(it c ck:Nat)(seen:cb Nat)(es:cb MapEntry)(hb:w.heap[c]?=some (.map es ck))(l:w.heap[it]?=some (.mapIter (some c) ck seen ck))(hold:∀x∈es.toList,x.born<ck):
  ((leftOf es seen).size=0/\(Instr.next (.pointer (some ⟨it,0,none⟩)) false ty).run P w=.ok (.tuple #[.bool false]) w)\/
  ∃e∈(leftOf es seen).toList,∃a:bI,World.env a=World.env w/\a.heap=w.heap.setIfInBounds it (.mapIter (some c) ck (seen.push e.born) ck)/\(Instr.next (.pointer (some ⟨it,0,none⟩)) false ty).run P w=.ok (.tuple #[.bool true,e.key,e.val]) a:=by
 simp only[Instr.next,getObj,Sem.run_bind,Sem.run,l,hb,Result.andThen,next_test_false seen es ck ck hold (ek _),l4,gR];unfold leftOf;have b:∀x∈(Array.filter (λe=> !seen.contains e.born) es).toList,x.born<ck:=λx hx=>hold x (by simp at hx ⊢;exact hx.1);generalize Array.filter (λe=> !seen.contains e.born) es=L at b ⊢;have o:L.filter (λx=>decide (x.born<ck))=L:=Array.filter_eq_self.2 (λx hx=>by simpa using b x (by simpa using hx));have p:L.filter (λx=>decide (x.born≥ck))= #[]:=by
  rw[Array.filter_eq_empty_iff];intro x hx;have:=b x (by simpa using hx);simp;omega
 simp only[o,p,Array.append_empty];by_cases h:L.size=0
 ·left;have:L= #[]:=Array.eq_empty_of_size_eq_zero h;subst this;refine⟨rfl,?_⟩;simp[choose,Sem.run,Question.forced]
 ·right;have n:L.isEmpty=false:=by simp[Array.isEmpty,h]
  simp only[n,l4,gR,Array.empty_append,Array.size_map];have k:∃(j:Nat) (a:bI),j<L.size/\World.env a=World.env w/\a.heap=w.heap/\(choose (Question.mapNext L.size)).run P w=.ok j a:=by
   by_cases hf:L.size<=1;·exact⟨0,w,bu,rfl,rfl,by simp[choose,Sem.run,Question.forced,hf]⟩
   ·exact⟨_,w.drew,kM _ bu,rfl,rfl,by
     simp only[choose,Sem.run,Question.forced,gw,hf,gR,Question.cut];rfl⟩
  obtain⟨j,a,q,i,d,f⟩:=k;have m:a.heap[it]?=some (.mapIter (some c) ck seen ck):=by rw[d];exact l
  have g:∀(o':Obj),(setObj it o').run P a=.ok () {a with heap:=a.heap.setIfInBounds it o'} :=λo'=>by
   simp only[setObj,Sem.run,m]
  refine⟨L[j],by simp, {a with heap:=a.heap.setIfInBounds it (.mapIter (some c) ck (seen.push L[j].born) ck)},i,by rw[<- d],?_⟩;simp only[f,Array.getElem?_map,oh q,gg,Sem.run_bind,g,Result.andThen];rfl
def aE9{P:cN}(w:bI)(it a ck:Nat)(seen:cb Nat)(es:cb MapEntry)(e:MapEntry)(hb:w.heap[a]?=some (.map es ck))(b:w.heap[it]?=some (.mapIter (some a) ck seen ck))(c:seen.back? =some e.born)(he:e∈es.toList)(hn:(es.toList.map (·.born)).Nodup):(Instr.entry (.pointer (some ⟨it,0,none⟩))).run P w=.ok (.tuple #[e.key,e.val]) w:=by
 have hf:es.find? (·.born==e.born)=some e:=by rw[<- Array.find?_toList];exact find_born e es.toList hn he
 simp only[Instr.entry,getObj,Sem.run_bind,Sem.run,b,hb,Result.andThen,c,bne_self_eq_false,l4,gR,hf];rfl
section
variable{E:Env}{L:ct}{w:bI}{P:cN}{κ:Type}[DecidableEq κ]{enc:κ->bE}{f:κ->bV bE}{done:κ->Prop}{cur:bV κ}{it b n:Nat}
structure vn{κ:Type}(enc:κ->bE)(f:κ->bV bE)(done:κ->Prop)(cur:bV κ)(n:Nat)(es:bA MapEntry)(ck:Nat)(seen:cb Nat):Prop where
 ok:iz enc f es ck
 dn:∀e∈es,∀k,e.key=enc k->(seen.contains e.born=true↔done k)
 cu:∀k,cur=some k->∃e∈es,e.key=enc k/\seen.back? =some e.born
 len:(leftOf es.toArray seen).size=n
def fz{κ:Type}(it b:Nat)(enc:κ->bE)(f:κ->bV bE)(done:κ->Prop)(cur:bV κ)(n:Nat):Asn:=
 ⟨λh F=>(∃es ck seen,h[b]?=some (.map es.toArray ck)/\h[it]?=some (.mapIter (some b) ck seen ck)/\vn enc f done cur n es ck seen)/\∀x,F x↔x=b\/x=it,
  λa hl=>⟨by rw[hl b ((a.2 b).2 (.inl rfl)),hl it ((a.2 it).2 (.inr rfl))];exact a.1,a.2⟩⟩
omit [DecidableEq κ] in
def fz.start{t kt:cc}{z:bE}(h:Sep E (cE b enc f::L) w)(j:mQ P t=some (kt,z)){G:ch->bf8}(g:∀it a n,Sep E (fz it b enc f (λ_=>False) none n::L) a->G (some ⟨it,0,none⟩) a):
  ∃x:ch,∃a,Sem.run P (Instr.range t (.map (some b))) w=.ok (.pointer x) a/\G x a:=by
 obtain⟨e,l,_⟩:=ug j;obtain⟨es,ck,hb,M⟩:=cE.at_ (i:=0) h rfl;have c:b<w.heap.size:=(o1.1 hb).1;refine⟨_,_,run_range_map w t kt e b es.toArray ck l hb,g w.heap.size _ (leftOf es.toArray #[]).size ?_⟩;refine h.change (A':=fz w.heap.size b enc f (λ_=>False) none _) rfl (by rw[size_alloc];omega) (λF d hl=>⟨λx hx _=>(Grow.alloc w _).heap x hx,λx=>x=b\/x=w.heap.size,⟨⟨es,ck,#[],?_,?_,M,?_,?_,rfl⟩,λ_=>l6⟩,λx hx=>⟨?_,?_⟩⟩);·rw[(Grow.alloc w _).heap b c];exact hb
 ·exact heap_alloc w _
 ·intro e _ k _;simp
 ·intro k hk;cases hk
 ·rw[size_alloc];rcases hx with rfl|rfl<;>omega
 ·rcases hx with rfl|rfl;·exact .inl ((d.2 _).2 rfl)
  ·exact .inr (ek _)
omit [DecidableEq κ] in
def fz.over(h:Sep E (fz it b enc f done cur n::L) w):Sep E (cE b enc f::L) w:=
 h.Eb (λF ⟨⟨es,ck,_,h1,_,a⟩,c⟩=>⟨λx=>x=b,⟨⟨es,ck,h1,a.ok⟩,λ_=>l6⟩,λx hx=>(c x).2 (.inl hx)⟩)
omit [DecidableEq κ] in
def fz.get(h:Sep E (fz it b enc f done cur n::L) w):∃es ck seen,w.heap[b]?=some (.map es.toArray ck)/\w.heap[it]?=some (.mapIter (some b) ck seen ck)/\vn enc f done cur n es ck seen:=by
 obtain⟨_,F,⟨h1,_⟩,_⟩:=h;exact h1
def yt(w:bI)(it b:Nat):Nat:=match w.heap[b]?,w.heap[it]? with
 |some (.map es _),some (.mapIter _ _ seen _)=>(leftOf es seen).size
 |_,_=>0
omit [DecidableEq κ] in
def fz.left(h:Sep E (fz it b enc f done cur n::L) w):yt w it b=n:=by
 obtain⟨es,ck,seen,hb,a,c⟩:=fz.get h;unfold yt;rw[hb,a];exact c.len
omit [DecidableEq κ] in
def fz.next{ty:cc}(N:∀a b,enc a=enc b->a=b)(h:Sep E (fz it b enc f done cur n::L) w){A:bf8}{B:bE->bE->bf8}(ag:(∀k v,f k=some v->done k)->∀w',Sep E (fz it b enc f done cur n::L) w'->A w')(ah:∀k v n',f k=some v->¬ done k->n=n'+1->∀w',Sep E (fz it b enc f (λx=>done x\/x=k) (some k) n'::L) w'->B (enc k) v w'):
  (∃w',Sem.run P (Instr.next (.pointer (some ⟨it,0,none⟩)) false ty) w=.ok (.tuple #[.bool false]) w'/\A w')\/
  (∃k v:bE,∃w',Sem.run P (Instr.next (.pointer (some ⟨it,0,none⟩)) false ty) w=.ok (.tuple #[.bool true,k,v]) w'/\B k v w'):=by
 obtain⟨es,ck,seen,hb,D,Q⟩:=fz.get h;have M:=Q.ok;have t:∀e,e∈(leftOf es.toArray seen).toList↔e∈es/\seen.contains e.born=false:=by
  intro e;unfold leftOf;simp
 rcases aG7 (P:=P) w ty it b ck seen es.toArray hb D (λx hx=>M.born x (by simpa using hx))with⟨aj,hr⟩|⟨e,he,Y,K,d,hr⟩
 ·refine .inl ⟨w,hr,ag (λk v hk=>?_) w h⟩;obtain⟨e,he,g,_⟩:=M.has k v hk;refine(Q.dn e he k g).1 ?_;cases J:seen.contains e.born with
  |true=>rfl
  |false=>
   have:e∈(leftOf es.toArray seen).toList:=(t e).2 ⟨he,J⟩;have:=List.length_pos_of_mem this;rw[tt]at this;omega
 ·obtain⟨o,C⟩:=(t e).1 he;obtain⟨k,g,T⟩:=M.key e o;have W:¬ done k:=λab=>by rw[(Q.dn e o k g).2 ab]at C;cases C
  have ai:=left_shrinks es.toArray seen e he;refine .inr ⟨e.key,e.val,Y,hr,?_⟩;rw[g];have O:(leftOf es.toArray (seen.push e.born)).size+1=(leftOf es.toArray seen).size:=by
   have go:∀(c:Nat->Bool) (l:bA MapEntry),c e.born=false->l.Pairwise (λa b=>a.born≠b.born)->e∈l->(l.filter λx=> !(c x.born||x.born==e.born)).length+1=(l.filter λx=> !c x.born).length:=by
    intro c l J;induction l with
    |nil=>intro _ h;cases h
    |cons x l af=>
     intro hp hm;obtain⟨I,X⟩:=g7.1 hp;rcases ew.1 hm with rfl|hm
     ·have G:l.filter (λx=> !(c x.born||x.born==e.born))=l.filter (λx=> !c x.born):=by
       apply v8;intro y ae;have:(y.born==e.born)=false:=by simpa using(I y ae).symm
       rw[this,o7]
      rw[jH,jH,J,G];simp
     ·have:=af X hm;have hx:(x.born==e.born)=false:=by simpa using I e hm
      rw[jH,jH,hx,o7];cases c x.born;·simp only[Bool.not_false,g3,hM];omega
      ·simpa using this
   have ad:=go (λy=>seen.contains y) es C M.lf o;have Z:(leftOf es.toArray (seen.push e.born)).size=(es.filter λx=> !(seen.contains x.born||x.born==e.born)).length:=by
    unfold leftOf;rw[<- tt,F1];congr 2;funext x;rw[contains_push]
   have aa:(leftOf es.toArray seen).size=(es.filter λx=> !seen.contains x.born).length:=by
    unfold leftOf;rw[<- tt,F1]
   rw[Z,aa];exact ad
  refine ah k e.val (leftOf es.toArray (seen.push e.born)).size T W (by rw[O];exact Q.len.symm) Y ?_;have U:it<w.heap.size:=(o1.1 D).1;refine h.change (A':=fz it b enc f (λx=>done x\/x=k) (some k) _) K (by rw[d];simp) (λF R hl=>⟨λx hx S=>?_,F,⟨⟨es,ck,seen.push e.born,?_,?_,M,?_,?_,rfl⟩,R.2⟩,λx hx=>⟨?_,.inl hx⟩⟩)
  ·have:it≠x:=λe=>S ((R.2 x).2 (.inr e.symm));rw[d,oe,bJ this]
  ·have:it≠b:=by
    intro e;rw[e]at D;rw[D]at hb;cases hb
   rw[d,oe,bJ this];exact hb
  ·rw[d,oe,bK rfl,bK U]
  ·intro e' z k' r;rw[contains_push,jI,Q.dn e' z k' r];refine or_congr l6 ⟨λu=>?_,λhk=>?_⟩
   ·have u:=tH.1 u;by_cases s:e'=e;·subst s;exact N _ _ (r.symm.trans g)
    ·exfalso;have:e'.born≠e.born:=by
      have hp:=M.lf;obtain⟨i,p,rfl⟩:=je.1 z;obtain⟨j,q,rfl⟩:=je.1 o;rcases F6 i j with m|rfl|m;·exact m8.1 hp i j p q m
      ·exact absurd rfl s
      ·exact(m8.1 hp j i q p m).symm
     exact this u
   ·have H:e'.key=e.key:=by rw[r,g,hk]
    have:e'=e:=by
     refine rD λs=>?_;have hp:=M.one;obtain⟨i,p,rfl⟩:=je.1 z;obtain⟨j,q,rfl⟩:=je.1 o;rcases F6 i j with m|rfl|m;·exact m8.1 hp i j p q m H
     ·exact s rfl
     ·exact m8.1 hp j i q p m H.symm
    rw[this];simp
  ·intro k' V;cases V;exact⟨e,o,g,by simp⟩
  ·rw[d];simpa using hl x hx
omit [DecidableEq κ] in
def fz.entry{k:κ}{v:bE}(h:Sep E (fz it b enc f done (some k) n::L) w)(g:∀a b,enc a=enc b->a=b)(hf:f k=some v):Sem.run P (Instr.entry (.pointer (some ⟨it,0,none⟩))) w=.ok (.tuple #[enc k,v]) w:=by
 obtain⟨es,ck,seen,hb,l,j⟩:=fz.get h;obtain⟨e,he,c,m⟩:=j.cu k rfl;obtain⟨k',i,d⟩:=j.ok.key e he;have:k'=k:=g _ _ (i.symm.trans c);subst this;rw[hf]at d;have o:e.val=v:=(cR d).symm;rw[<- c,<- o];refine aE9 w it b ck seen es.toArray e hb l m (by simpa using he) ?_;show(es.map (·.born)).Nodup;rw[og,kL];exact j.ok.lf
def fz.update{t kt:cc}{z v0:bE}(h:Sep E (fz it b enc f done cur n::L) w)(K:h5 P kt enc)(s:mQ P t=some (kt,z))(k:κ)(v:bE)(hf:f k=some v0){G:bf8}(g:∀p,Sep E (fz it b enc (cL f k (some v)) done cur n::L) p->G p):∃p,Sem.run P (Instr.mapUpdate t (.map (some b)) (enc k) v) w=.ok () p/\G p:=by
 obtain⟨e,U,Y⟩:=ug s;obtain⟨es,ck,seen,hb,m,Q⟩:=fz.get h;have M:=Q.ok;obtain⟨j,x,o,hk,X,r⟩:=M.gJ K hf w;obtain⟨N,u⟩:=cZ.1 o;have hm:es.modify j (λe=> {e with key:=enc k,val:=v})=es.set j {x with key:=enc k,val:=v} :=by
  apply hg;intro q;simp only[List.getElem?_modify,hd];by_cases s:j=q;·subst s;simp[N,u]
  ·simp[s]
 have D:b<w.heap.size:=(o1.1 hb).1;have W:({x with key:=enc k,val:=v} :MapEntry).born=x.born:=rfl;have O:x∈es:=eI o;have dZ:∀e∈es.set j ({x with key:=enc k,val:=v} :MapEntry),∃e0∈es,e.key=e0.key/\e.born=e0.born:=by
  intro e he;obtain⟨i,m,rfl⟩:=je.1 he;rw[Gc];split;·exact⟨x,O,hk.symm,rfl⟩
  ·exact⟨_,oq _,rfl,rfl⟩
 have new:∀e0∈es,∃e∈es.set j ({x with key:=enc k,val:=v} :MapEntry),e.key=e0.key/\e.born=e0.born:=by
  intro e0 he;obtain⟨i,m,rfl⟩:=je.1 he;refine⟨(es.set j ({x with key:=enc k,val:=v} :MapEntry))[i]'(by simpa using m),oq _,?_⟩;rw[Gc];split;·next I=>subst I;rw[u];exact⟨hk.symm,rfl⟩
  ·exact⟨rfl,rfl⟩
 refine⟨{w with heap:=w.heap.setIfInBounds b (.map (es.set j ({x with key:=enc k,val:=v} :MapEntry)).toArray ck)},?_,g _ ?_⟩;·simp[Instr.mapUpdate,run_underlying U,MapKept.run_getObj_map hb,K.pk,r,Instr.keyThatStays,o,hk,K.stay,hm,MapKept.run_setObj_map _ hb]
 ·refine h.change (A':=fz it b enc (cL f k (some v)) done cur n) rfl (by simp) (λF B hl=>⟨λy A C=>?_,F,⟨⟨_,ck,seen,?_,?_,M.put K o hk v,?_,?_,?_⟩,B.2⟩,λy A=>⟨?_,.inl A⟩⟩)
  ·have:b≠y:=λe=>C ((B.2 y).2 (.inl e.symm));show(w.heap.setIfInBounds b _)[y]?=_;rw[oe,bJ this]
  ·show(w.heap.setIfInBounds b _)[b]?=_;rw[oe,bK rfl,bK D]
  ·have:b≠it:=by
    intro e;rw[e]at hb;rw[m]at hb;cases hb
   show(w.heap.setIfInBounds b _)[it]?=_;rw[oe,bJ this];exact m
  ·intro e he k' H;obtain⟨e0,d,h1,h2⟩:=dZ e he;rw[h2];exact Q.dn e0 d k' (h1.symm.trans H)
  ·intro k' J;obtain⟨e0,d,h1,h2⟩:=Q.cu k' J;obtain⟨e,he,R,S⟩:=new e0 d;exact⟨e,he,R.trans h1,by rw[S];exact h2⟩
  ·rw[<- Q.len];unfold leftOf;have go:∀(c:Nat->Bool) (l:bA MapEntry) (j:Nat) (x y:MapEntry),l[j]?=some x->y.born=x.born->((l.set j y).filter λe=> !c e.born).length=(l.filter λe=> !c e.born).length:=by
    intro c l;induction l with
    |nil=>intro j x y h;simp at h
    |cons a l V=>
     intro j x y h1 h2;cases j with
     |zero=>
      simp only[lH,fS]at h1;subst h1;rw[y0,jH,jH,h2];cases c a.born<;>simp
     |succ j=>
      rw[S6,jH,jH];have:=V j x y (by simpa using h1) h2;cases c a.born;·simp only[Bool.not_false,g3,hM];omega
      ·simpa using this
   have T:=go (λy=>seen.contains y) es j x {x with key:=enc k,val:=v} o rfl;rw[<- tt,F1,<- tt,F1];exact T
  ·simpa using hl y A
end
end Go.Sp
namespace Go.Mp.Gp
open Go Go.Vc Go.Sp Go.Kc Go.Mp
abbrev encI:Int->bE:=Value.int .i64
def fg(g a:Int):bE:=.agg #[Iv g,Iv a]
def gm(R:bA dw):Int->bV bE:=λk=>(fc R k).map λe=>fg e.group e.dt
def yu(a b:Int)(h:encI a=encI b):a=b:=by simpa using h
def mA:h5 P lS encI:=h5.int cS
variable{R R':bA dw}
def fl(l:Nat)(R:bA dw):Asn:=fa λm:Nat=>star (bC l [.map (some m)]) (cE m encI (gm R))
variable{E:Env}{L:ct}{w:bI}{l:Nat}
def fl.open(h:Sep E (fl l R::L) w):∃m,Sep E (bC l [.map (some m)]::cE m encI (gm R)::L) w:=by
 obtain⟨m,h⟩:=Sep.ex.1 h;exact⟨m,Sep.star.1 h⟩
def fl.shut{m:Nat}(h:Sep E (bC l [.map (some m)]::cE m encI (gm R)::L) w):Sep E (fl l R::L) w:=Sep.ex.2 ⟨m,Sep.star.2 h⟩
def mq:mQ P Bh=some (lS,fg 0 0):=by kernel_rfl
def vk(h:Sep E L w):Calls P Bq #[] w (cz λv w'=>∃l,v=Pb l/\Sep E (fl l []::L) w'):=by
 apply Vp;unfold Ka;exact cE.new (enc:=encI) h (λm a h1=>Al.i h1 (λp w2 h2=>⟨p,rfl,fl.shut h2⟩))
def look{m i:Nat}(h:Sep E L w)(a:L[i]?=some (cE m encI (gm R)))(k:Int):
  gp P Bh (.map (some m)) (Iv k) true w (.tuple #[fg ((fc R k).elim 0 (·.group)) ((fc R k).elim 0 (·.dt)),.bool (fc R k).isSome]):=by
 have:=gp.i true i h a mA mq k;unfold gm at this;cases hf:fc R k<;>simpa[hf]using this
def Ec{m i:Nat}(h:Sep E L w)(a:L[i]?=some (cE m encI (gm R)))(k:Int):
  gp P Bh (.map (some m)) (Iv k) false w (fg ((fc R k).elim 0 (·.group)) ((fc R k).elim 0 (·.dt))):=by
 have:=gp.i false i h a mA mq k;unfold gm at this;cases hf:fc R k<;>simpa[hf]using this
def aJO(G:Kc.Good R){x:dw}(hn:∀e∈R,e.id≠x.id)(a:Kc.Good (iK R x)):cL (gm R) x.id (some (fg x.group x.dt))=gm (iK R x):=by
 funext k;unfold cL gm;by_cases hk:k=x.id;·rw[bK hk,(kP a.cX).2 ⟨(wS hn).2 (.inl rfl),hk.symm⟩];rfl
 ·rw[bJ hk,AQ G.cX a.cX (λe he=>?_)];rw[wS hn];exact⟨λh=>h.resolve_left (λe'=>hk (by rw[<- he,e'])),.inr⟩
def DC(G:Kc.Good R)(id g:Int)(dZ:Bool)(h:Sep E (fl l R::L) w):Calls P Ju #[Pb l,Iv id,Iv g,.bool dZ] w (cW E (Iv (jM R id g dZ).2) (fl l (jM R id g dZ).1::L)):=by
 apply Yb;unfold Mw qL qM qU qg qw zZ;unfold jM;have bad:ih id g->(Value.int .i64 1=Iv (if ih id g then(R,(1:Int))else if(fc R id).isSome then(R,4)else(iK R ⟨id,g,if dZ then 1 else 0⟩,0)).2/\Sep E (fl l (if ih id g then(R,(1:Int))else if(fc R id).isSome then(R,4)else(iK R ⟨id,g,if dZ then 1 else 0⟩,0)).1::L) w):=by
  intro hb;rw[bK hb];exact⟨rfl,h⟩
 refine⟨λw=>¬ ih id g/\Sep E (fl l R::L) w,?_,?_⟩
 ·refine cU (λc=>bad (.inl c)) (λz=>fZ (λc=>bad (.inr (.inl c))) (λA=>cU (λc=>bad (.inr (.inr (.inl c)))) (λB=>fZ (λc=>bad (.inr (.inr (.inr c)))) (λC=>⟨?_,h⟩))));unfold ih;omega
 rintro _ D ⟨hb,h1⟩;rw[bJ hb];obtain⟨m,h2⟩:=fl.open h1;refine⟨_,rfl,ld h2 0 rfl rfl rfl ⟨_,_,_,look (i:=1) h2 rfl id,Al.i h2 (λp F o=>et _ (vs:=[Iv _,Iv _]) o rfl (λH j=>?_))⟩⟩;cases hf:fc R id with
 |some e=>exact eA ⟨rfl,fl.shut j.tail⟩
 |none=>
  refine dH (Al.i j (λq I r=>et _ (vs:=[Iv g,Iv 0]) r rfl (λJ f=>?_)));refine⟨λw=>Sep E (bC q [Iv g,Iv (if dZ then 1 else 0)]::bC l [.map (some m)]::cE m encI (gm R)::L) w,?_,?_⟩
  ·refine cv (λho=>?_) (λho=>?_)
   ·refine ld f 0 rfl rfl rfl (St.i f (show 0+1<2 by decide) (λt a=>?_));rw[cP (n:=0+1) bN bN]at a;rw[bK ho];exact(a.fr 1 rfl).tail.fr 0 rfl |> λx=>(a.ro 4 [0,2,3] rfl)
   ·rw[bJ (by simp[ho])];exact f.ro 4 [0,2,3] rfl
  ·rintro _ t a;refine Dr.i a (λK b=>⟨_,rfl,ld b 1 rfl rfl rfl (ld b 0 rfl rfl rfl (ld b 0 rfl rfl rfl ?_))⟩);refine mapUpdate.i (b.ro 3 [2,0,1] rfl) mA mq id _ (λu s=>⟨rfl,?_⟩);have hn:=(r2 G.cX).1 hf;have y:¬ (id<0\/16777216<id\/g<0\/16777216<g):=hb;have k:Kc.Good (iK R ⟨id,g,if dZ then 1 else 0⟩):=G.ins (x:=⟨id,g,if dZ then 1 else 0⟩) hn ⟨⟨by simp only;omega,by simp only;omega⟩,⟨by simp only;omega,by simp only;omega⟩,by simp only;split<;>omega⟩;have e:=aJO G (x:=⟨id,g,if dZ then 1 else 0⟩) hn k;have d:Sep E (cE m encI (cL (gm R) id (some (fg g (if dZ then 1 else 0))))::bC q [Iv g,Iv (if dZ then 1 else 0)]::bC l [.map (some m)]::L) u:=s;rw[show cL (gm R) id (some (fg g (if dZ then 1 else 0)))=gm (iK R ⟨id,g,if dZ then 1 else 0⟩)from e]at d;exact fl.shut (d.ro 3 [2,0] rfl)
def Ed(G:Kc.Good R)(id:Int)(h:Sep E (fl l R::L) w):Calls P xE #[Pb l,Iv id] w (cW E (Iv (hj R id).2) (fl l (hj R id).1::L)):=by
 apply Wl;unfold KW qL qM qU qw;obtain⟨m,h2⟩:=fl.open h;refine⟨_,rfl,ld h2 0 rfl rfl rfl ⟨_,_,_,look (i:=1) h2 rfl id,Al.i h2 (λp t o=>et _ (vs:=[Iv _,Iv _]) o rfl (λu d=>?_))⟩⟩;have c:=G.cm id;unfold hj at c ⊢;cases hf:fc R id with
 |none=>exact eA ⟨rfl,fl.shut d.tail⟩
 |some e=>
  rw[hf]at d c;have g:Kc.Good (R.map (λe=>if e.id=id then {e with dt:=0} else e)):=c;refine dH (Dr.i d (λz f=>⟨_,rfl,ld f 1 rfl rfl rfl (ld f 0 rfl rfl rfl ?_)⟩));refine mapUpdate.i (f.ro 3 [2,0,1] rfl) mA mq id _ (λs q=>⟨rfl,?_⟩);have he:=(kP G.cX).1 hf;have n:cL (gm R) id (some (fg e.group 0))=gm (R.map (λe=>if e.id=id then {e with dt:=0} else e)):=by
   funext k;unfold cL gm;by_cases hk:k=id;·rw[bK hk,(kP g.cX (e:={e with dt:=0})).2 ⟨fA.2 ⟨e,he.1,bK he.2⟩,by simp only;omega⟩];rfl
   ·rw[bJ hk,AQ G.cX g.cX (λx hx=>?_)];simp only[g3,F4,fA];constructor
    ·rintro⟨y,r,rfl⟩;by_cases a:y.id=id;·rw[bK a]at hx;simp only at hx;omega
     ·rw[bJ a];exact r
    ·intro j;exact⟨x,j,cD⟩
  have b:Sep E (cE m encI (cL (gm R) id (some (fg e.group 0)))::bC p _::bC l [.map (some m)]::L) s:=q;rw[n]at b;exact fl.shut (b.ro 3 [2,0] rfl)
def vm(G:Kc.Good R)(id:Int)(h:Sep E (fl l R::L) w):Calls P BT #[Pb l,Iv id] w (cW E (Iv (jl R id).2) (fl l (jl R id).1::L)):=by
 apply Wu;unfold K6 qM qU qw;obtain⟨m,h2⟩:=fl.open h;refine⟨_,rfl,ld h2 0 rfl rfl rfl ⟨_,_,_,look (i:=1) h2 rfl id,Al.i h2 (λp j g=>et _ (vs:=[Iv _,Iv _]) g rfl (λn b=>?_))⟩⟩;have a:=G.drop id;unfold jl at a ⊢;cases hf:fc R id with
 |none=>exact eA ⟨rfl,fl.shut b.tail⟩
 |some e=>
  rw[hf]at a;have c:Kc.Good (R.filter (λe=>e.id !=id)):=a;refine dH ⟨_,rfl,ld b 1 rfl rfl rfl ?_⟩;refine gK.i (b.ro 3 [2,0,1] rfl) mA mq id (λo d=>⟨rfl,?_⟩);have f:cL (gm R) id none=gm (R.filter (λe=>e.id !=id)):=by
   funext k;unfold cL gm;by_cases hk:k=id
   ·have:fc (R.filter (λe=>e.id !=id)) k=none:=(r2 c.cX).2 (λe he=>by have:=(gG.1 he).2;simp at this;omega);rw[bK hk,this];rfl
   ·rw[bJ hk,AQ G.cX c.cX (λx hx=>?_)];simp only[g3,F4,gG];exact⟨λh=>h.1,λh=>⟨h,by simp;omega⟩⟩
  rw[f]at d;exact fl.shut (d.ro 3 [2,0] rfl)
end Go.Mp.Gp
namespace Go.Mp.Gp
open Go Go.Vc Go.Sp Go.Kc Go.Mp
variable{R:bA dw}{E:Env}{L:ct}{w:bI}{l:Nat}
def jt(R:bA dw)(d:Int->Bool)(p:dw->Bool):Nat:=(R.filter (λe=>d e.id&&p e)).length
def plus(d:Int->Bool)(k:Int):Int->Bool:=λx=>d x||x==k
def Qu(p:dw->Bool):jt R (λ_=>false) p=0:=by unfold jt;simp
def Qv{d:Int->Bool}(p:dw->Bool)(h:∀e∈R,d e.id=true):jt R d p=(R.filter p).length:=by
 unfold jt;congr 1;apply v8;intro e he;rw[h e he,l5]
def Qw(d:Int->Bool)(p:dw->Bool):jt R d p<=R.length:=l2 _ _
def Qx(G:R.Pairwise (λa b:dw=>a.id<b.id)){d:Int->Bool}(p:dw->Bool){k:Int}{e:dw}(he:fc R k=some e)(h:d k=false):jt R (plus d k) p=jt R d p+(if p e then 1 else 0):=by
 obtain⟨h1,h2⟩:=(kP G).1 he;clear he;unfold jt plus;induction R with
 |nil=>cases h1
 |cons x R j=>
  obtain⟨f,g⟩:=g7.1 G;rw[jH,jH];rcases ew.1 h1 with rfl|h1
  ·have c:R.filter (λy=>(d y.id||y.id==k)&&p y)=R.filter (λy=>d y.id&&p y):=by
    apply v8;intro y i;have:(y.id==k)=false:=by have:=f y i;simp;omega
    rw[this,o7]
   rw[c,h2,h];cases p e<;>simp
  ·have:=j g h1;have hx:(x.id==k)=false:=by have:=f e h1;simp;omega
   rw[hx,o7];cases(d x.id&&p x);·simpa using this
   ·simp only[g3,hM];omega
def gd(R:bA dw)(d:Int->Bool)(F:dw->dw):Int->bV bE:=λk=>(fc R k).map λe=>if d k then fg (F e).group (F e).dt else fg e.group e.dt
def aII(F:dw->dw):gd R (λ_=>false) F=gm R:=by
 funext k;unfold gd gm;cases fc R k<;>simp
def aIH(F:dw->dw)(a:∀e,(F e).id=e.id)(k:Int):fc (R.map F) k=(fc R k).map F:=by
 unfold fc;rw[List.find?_map];congr 2;funext e;simp[a]
def aJM(G:R.Pairwise (λa b:dw=>a.id<b.id)){d:Int->Bool}{F:dw->dw}(c:∀e,(F e).id=e.id)(h:∀e∈R,d e.id=true):gd R d F=gm (R.map F):=by
 funext k;unfold gd gm;rw[aIH F c];cases hf:fc R k with
 |none=>rfl
 |some e=>
  obtain⟨h1,h2⟩:=(kP G).1 hf;have:=h e h1;rw[h2]at this;simp[this]
def aIJ{d:Int->Bool}{F:dw->dw}{k:Int}{e:dw}(he:fc R k=some e)(a:F e=e):gd R (plus d k) F=gd R d F:=by
 funext x;unfold gd plus;by_cases hx:x=k;·subst hx;rw[he];simp[a]
 ·have:(x==k)=false:=by simpa using hx
  rw[this,o7]
def aJN{d:Int->Bool}{F:dw->dw}{k:Int}{e:dw}(he:fc R k=some e):cL (gd R d F) k (some (fg (F e).group (F e).dt))=gd R (plus d k) F:=by
 funext x;unfold cL gd plus;by_cases hx:x=k;·subst hx;rw[bK rfl,he];simp
 ·have:(x==k)=false:=by simpa using hx
  rw[bJ hx,this,o7]
def Qy(d:Int->Bool)(k:Int):(λx=>d x=true\/x=k)= λx=>plus d k x=true:=by
 funext x;unfold plus;simp
def aH9(G:Kc.Good R)(g:Int)(hb:R.length<4611686018427387904)(h:Sep E (fl l R::L) w):Calls P IE #[Pb l,Iv g] w (cW E (Iv (oH R g)) (fl l R::L)):=by
 apply Wd;unfold KO qL qM qO qU qw;obtain⟨m,h2⟩:=fl.open h;refine⟨_,rfl,ld h2 0 rfl rfl rfl (fz.start h2.swap mq (λit A n h1=>?_))⟩;refine⟨λc w=>∃d cur n,c=jt R d (λe=>e.group==g)/\Sep E (fz it m encI (gm R) (λx=>d x=true) cur n::bC l [.map (some m)]::L) w,λ_ w=>yt w it m,⟨λ_=>false,none,n,by rw[Qu];rfl,?_⟩,?_⟩
 ·have e:(λx:Int=>((λ_=>false:Int->Bool) x)=true)= λ_=>False:=by funext x;simp
  rw[e];exact h1
 rintro _ c w2 ⟨d,cur,n,rfl,q⟩;have hle:=Qw (R:=R) d (λe=>e.group==g);refine fz.next yu q (λi u a=>?_) (λk v n' hk r hn u a=>?_)
 ·refine⟨?_,fl.shut (fz.over a).swap⟩;unfold oH;rw[Qv];intro e he;exact i e.id (fg e.group e.dt) (by unfold gm;rw[(kP G.cX).2 ⟨he,rfl⟩];rfl)
 ·have j:=fz.entry (P:=P) a yu hk;obtain⟨e,he,t⟩:∃e,fc R k=some e/\fg e.group e.dt=v:=by
   unfold gm at hk;cases hf:fc R k with
   |none=>rw[hf]at hk;cases hk
   |some e=>rw[hf]at hk;exact⟨e,rfl,by simpa using hk⟩
  subst t;rw[Qy]at a;have y:=fz.left q;refine⟨_,_,_,_,j,Al.i a (λp B s=>et _ (vs:=[Iv e.group,Iv e.dt]) s rfl (λC b=>?_))⟩;have z:=fz.left b.tail;have f:=Qx G.cX (λe=>e.group==g) he (tx.2 r);refine ld b 0 rfl rfl rfl (eQ (λo=>?_) (λo=>?_))
  ·rw[cP bu bu];refine⟨⟨plus d k,_,_,?_,b.tail⟩,by dsimp only;omega⟩;rw[f];simp[o]
  ·refine⟨⟨plus d k,_,_,?_,b.tail⟩,by dsimp only;omega⟩;rw[f];simp[o]
def aIP(a b:Int×Int):∃q,kl P .neq xb (fg a.1 a.2) (fg b.1 b.2) q/\(q=false↔a=b):=by
 have c:∀p:Int×Int,Typed P xb [.int .i64,.int .i64] (fg p.1 p.2):=λp=>by
  unfold Typed;rw[show ej P xb=some true by kernel_rfl];exact⟨_,rfl,⟨_,rfl⟩,⟨_,rfl⟩,trivial⟩
 obtain⟨q,h1,h2⟩:=kl.neq (d:=4) (by kernel_rfl:ku P 4 xb=_) bN cS cS (c a) (c b);refine⟨q,h1,h2.trans ⟨λe=>?_,λe=>by rw[e]⟩⟩;simp[fg]at e;exact Prod.ext e.1 e.2
def Qz(G:Kc.Good R)(g:Int)(b:Int->Int->Int×Int){change:bE}(U:∀(A:Asn) (x a:Int) (w:bI),Sep E (A::L) w->e1 P change #[fg x a] w λe w'=>e=.returned (fg (b x a).1 (b x a).2)/\Sep E (A::L) w')(hb:R.length<4611686018427387904)(h:Sep E (fl l R::L) w):Calls P B2 #[Pb l,Iv g,change] w (cW E (Iv (iA R g b).2) (fl l (iA R g b).1::L)):=by
 apply WK;unfold Lg qL qM qO qU qh qw zZ;obtain⟨m,h2⟩:=fl.open h;refine⟨_,rfl,ld h2 0 rfl rfl rfl (fz.start h2.swap mq (λit ak n h1=>?_))⟩;refine⟨λc w=>∃d cur n,c=jt R d (nV g b)/\Sep E (fz it m encI (gd R d (jN g b)) (λx=>d x=true) cur n::bC l [.map (some m)]::L) w,λ_ w=>yt w it m,⟨λ_=>false,none,n,by rw[Qu];rfl,?_⟩,?_⟩
 ·have e:(λx:Int=>((λ_=>false:Int->Bool) x)=true)= λ_=>False:=by funext x;simp
  rw[e,aII];exact h1
 rintro _ c w2 ⟨d,cur,n,rfl,Q⟩;have hle:=Qw (R:=R) d (nV g b);refine fz.next yu Q (λM af u=>?_) (λk v n' hk W hn af u=>?_)
 ·have t:∀e∈R,d e.id=true:=λe he=>by
   have hf:=(kP G.cX).2 ⟨he,rfl⟩;exact M e.id _ (by unfold gd;rw[hf];rfl)
  refine⟨by unfold iA;rw[Qv _ t],?_⟩;rw[aJM G.cX (r3 g b) t]at u;exact fl.shut (fz.over u).swap
 ·have N:=fz.entry (P:=P) u yu hk;have B:=tx.2 W;obtain⟨e,he,ae⟩:∃e,fc R k=some e/\fg e.group e.dt=v:=by
   unfold gd at hk;cases hf:fc R k with
   |none=>rw[hf]at hk;cases hk
   |some e=>rw[hf]at hk;exact⟨e,rfl,by simpa[B]using hk⟩
  subst ae;rw[Qy]at u;have ai:=fz.left Q;have D:=Qx G.cX (nV g b) he B;refine⟨_,_,_,_,N,Al.i u (λp al aa=>et _ (vs:=[Iv e.group,Iv e.dt]) aa rfl (λZ I=>?_))⟩;refine ld I 0 rfl rfl rfl (ld I 0 rfl rfl rfl ?_);have ab:Sep E (cy [bC p [Iv e.group,Iv e.dt],fz it m encI (gd R d (jN g b)) (λx=>plus d k x=true) (some k) n',bC l [.map (some m)]]::L) Z:=Sep.cy.2 I;refine e1.use (U _ e.group e.dt Z ab) ?_;rintro _ ag ⟨rfl,J⟩;have J:Sep E (bC p [Iv e.group,Iv e.dt]::fz it m encI (gd R d (jN g b)) (λx=>plus d k x=true) (some k) n'::bC l [.map (some m)]::L) ag:=Sep.cy.1 J;refine⟨_,_,rfl,Al.i J (λq am ad=>et _ (vs:=[Iv (b e.group e.dt).1,Iv (b e.group e.dt).2]) ad rfl (λan i=>?_))⟩;refine⟨λc w=>c=nV g b e/\Sep E (bC q [Iv (b e.group e.dt).1,Iv (b e.group e.dt).2]::bC p [Iv e.group,Iv e.dt]::fz it m encI (gd R d (jN g b)) (λx=>plus d k x=true) (some k) n'::bC l [.map (some m)]::L) w,?_,?_⟩
  ·refine ld i 1 rfl rfl rfl (eQ (λs=>?_) (λs=>⟨by unfold nV;simp[s],i⟩));refine ld i 1 rfl rfl rfl (ld i 1 rfl rfl rfl (ld i 0 rfl rfl rfl (ld i 0 rfl rfl rfl ?_)));obtain⟨r,X,C⟩:=aIP (e.group,e.dt) (b e.group e.dt);refine⟨r,X,?_,i⟩;unfold nV;cases r with
   |false=>
    have H:=C.1 rfl;rw[<- H];simp
   |true=>
    have H:¬ b e.group e.dt=(e.group,e.dt):=λe'=>by have:=C.2 e'.symm;cases this
    have y:(b e.group e.dt==(e.group,e.dt))=false:=by simpa using H
    rw[y];simp[s]
  rintro _ c ah ⟨rfl,z⟩;refine cv (λo=>?_) (λo=>?_)
  ·have S:e.group=g/\b e.group e.dt≠(e.group,e.dt):=by unfold nV at o;simpa using o
   have K:jN g b e=⟨e.id,(b e.group e.dt).1,(b e.group e.dt).2⟩:=by unfold jN;rw[bK S.1]
   refine Dr.i z (λaj f=>⟨_,rfl,ld f 3 rfl rfl rfl (ld f 0 rfl rfl rfl (ld f 0 rfl rfl rfl ?_))⟩);refine fz.update (f.ro 4 [2,0,1,3] rfl) mA mq k _ hk (λY O=>?_);have y:=aJN (d:=d) (F:=jN g b) he;rw[K]at y;have j:Sep E (fz it m encI (cL (gd R d (jN g b)) k (some (fg (b e.group e.dt).1 (b e.group e.dt).2))) (λx=>plus d k x=true) (some k) n'::bC q _::bC p _::bC l [.map (some m)]::L) Y:=O;rw[y]at j;have V:=fz.left j;rw[cP bu bu];refine⟨⟨plus d k,_,_,?_,j.ro 4 [0,3] rfl⟩,by dsimp only;omega⟩;rw[D,bK o];simp
  ·have K:jN g b e=e:=by
    unfold nV at o;unfold jN;by_cases s:e.group=g
    ·have T:b e.group e.dt=(e.group,e.dt):=by simpa[s]using o
     rw[bK s,T]
    ·rw[bJ s]
   have f:Sep E (fz it m encI (gd R d (jN g b)) (λx=>plus d k x=true) (some k) n'::bC l [.map (some m)]::L) ah:=z.tail.tail;rw[<- aIJ (d:=d) he K]at f;have V:=fz.left f;refine⟨⟨plus d k,_,_,?_,f⟩,by dsimp only;omega⟩;rw[D,bJ (by simp[o])];simp
def aKf(G:Kc.Good R)(g:Int)(hb:R.length<4611686018427387904)(h:Sep E (fl l R::L) w):Calls P ID #[Pb l,Iv g] w (cW E (Iv (iA R g jO).2) (fl l (iA R g jO).1::L)):=by
 apply V9;unfold KM qQ;refine use (Qz G g jO (λA x a f h1=>⟨IX,_,rfl,by kernel_rfl,?_⟩) hb h) ?_
 ·refine use (K:=λv w'=>v=fg (jO x a).1 (jO x a).2/\Sep E (A::L) w') (WT x a ?_) (λv w' ⟨e,d⟩=>⟨by rw[e],d⟩);unfold Lo qU qw zZ;refine Al.i h1 (λp w2 h2=>Al.i h2 (λq i b=>ld b 1 rfl rfl rfl (ld b 1 rfl rfl rfl (et _ (vs:=[Iv x,Iv _]) b rfl (λj c=>?_)))));exact ld c 0 rfl rfl rfl (ld c 0 rfl rfl rfl ⟨rfl,c.tail.tail⟩)
 ·rintro _ f ⟨rfl,h1⟩;exact⟨_,rfl,rfl,h1⟩
def aJs(G:Kc.Good R)(f t:Int)(hb:R.length<4611686018427387904)(h:Sep E (fl l R::L) w):Calls P IC #[Pb l,Iv f,Iv t] w (cW E (Iv (mV R f t).2) (fl l (mV R f t).1::L)):=by
 apply V5;unfold KI qC qD qQ qg;unfold mV;have bad:∀ {d:bI} {g:Nat},(t<0\/16777216<t)->Sep E (bC g [Iv t]::fl l R::L) d->(Value.int .i64 0=Iv (if t<0\/16777216<t then(R,(0:Int))else iA R f (λ_ a=>(t,a))).2/\Sep E (fl l (if t<0\/16777216<t then(R,(0:Int))else iA R f (λ_ a=>(t,a))).1::L) d):=by
  intro d g hb h;rw[bK hb];exact⟨rfl,h.tail⟩
 refine Al.i h (λp d h1=>⟨λw=>¬ (t<0\/16777216<t)/\Sep E (bC p [Iv t]::fl l R::L) w,?_,?_⟩);·exact ld h1 0 rfl rfl rfl (cU (λc=>bad (.inl c) h1) (λn=>ld h1 0 rfl rfl rfl (fZ (λc=>bad (.inr c) h1) (λo=>⟨bu,h1⟩))))
 rintro _ w2 ⟨i,h2⟩;rw[bJ i];refine use (Qz (L:=bC p [Iv t]::L) G f (λ_ a=>(t,a)) (λA x a d h1=>⟨IW,_,rfl,by kernel_rfl,?_⟩) hb h2.swap) ?_
 ·refine use (K:=λv w'=>v=fg t a/\Sep E (A::bC p [Iv t]::L) w') (WL x a ⟨p,0,none⟩ ?_) (λv w' ⟨k,j⟩=>⟨by rw[k],j⟩);unfold Lh qD qL qU qw zZ;refine Al.i h1 (λg w2 h2=>Al.i h2 (λq m b=>ld b 3 rfl rfl rfl (ld b 1 rfl rfl rfl (et _ (vs:=[Iv t,Iv a]) b rfl (λr e=>?_)))));exact ld e 0 rfl rfl rfl (ld e 0 rfl rfl rfl ⟨rfl,e.tail.tail⟩)
 ·rintro _ m ⟨rfl,b⟩;exact⟨_,rfl,rfl,(b.fr 1 rfl).tail⟩
end Go.Mp.Gp
namespace Go.Sp
open Go
variable{E:Env}{L:ct}{w:bI}
def Sep.put{A A':Asn}{q:Nat}(a:L[q]?=some A)(h:Sep E (A'::L.eraseIdx q) w):Sep E (L.set q A') w:=by
 refine h.perm ?_;obtain⟨hl,_⟩:=cZ.1 a;rw[bc5,bb8,bK hl];exact jf.symm
def Sep.ir{A A' B:Asn}{q:Nat}(a:L[q]?=some A)(h:Sep E (B::A'::L.eraseIdx q) w):Sep E (B::L.set q A') w:=by
 refine h.perm (List.Perm.cons _ ?_);obtain⟨hl,_⟩:=cZ.1 a;rw[bc5,bb8,bK hl];exact jf.symm
end Go.Sp
namespace Go.Mp
open Go Go.Vc Go.Sp Go.Proofs Go.Kc
variable{E:Env}{L:ct}{w:bI}
structure At where
 c:Nat
 t:Nat
 fp:Nat
 fb:Nat
 fu:Nat
 sp:Nat
 sb:Nat
 su:Nat
 fi:Nat
 ge:Nat
 lg:Nat
 pg:Nat
 m:Nat
 gs:Sl
 us:Sl
 o:cb Obj
def eD.vs(x:eD):bA bE:=[Iv x.min,Iv x.low,.bool x.whole]
def eD.mx(x:eD):(eD.vs x).length=3:=rfl
def At.row(A:At):bA bE:=[Pb A.t,Pb A.fp,Pb A.fb,Pb A.fu,Pb A.sp,Pb A.sb,Pb A.su,
 Pb A.fi,Pb A.ge,Pb A.lg,Pb A.pg,.map (some A.m),.slice A.gs.p A.gs.n A.gs.c,.slice A.us.p A.us.n A.us.c]
def nK(m:Nat)(f:Int->bV Int):Asn:=cG (∀k x,f k=some x->0<=x/\x<18446744073709551616) (cE m (Value.int .i64) (λk=>(f k).map (Value.int .u64)))
def iN(s:Sl)(l:bA eD):Asn:=cG (s.n=l.length) (bw s 3 (bQ eD.vs l))
def ju(s:Sl)(l:bA Kt.G):Asn:=cG (s.n=l.length) (bw s 1 (bD (l.map Kt.G.up)))
def dY(H:cb Obj):Asn:=cG (∃o,H[2]?=some o/\pD o) (dZ H)
def cd(A:At)(S:Cs):ct:=
 [bC A.c A.row,dT A.t S.tree,gA A.fp S.fr.bY,gb A.fb S.fr.bY.length S.fr.c9,c7 A.fu S.fr.used,gA A.sp S.sl.bY,gb A.sb S.sl.bY.length S.sl.c9,c7 A.su S.sl.used,
  iC A.fi S.files,Gp.fl A.ge S.bP,fH A.lg S.log,Tp.c2 A.pg S.bt,nK A.m S.kept,iN A.gs S.guards,ju A.us S.tree,dY A.o]
variable{A:At}{S:Cs}
def QA(g:Int)(h:Sep E (cd A S++L) w):Calls P Bj #[Pb A.c,Iv g] w (cW E (Iv (S.memory g)) (cd A S++L)):=by
 apply Vd;unfold JZ qQ qZ;refine⟨_,rfl,ld h 0 rfl rfl rfl (use (yn h (q:=4) rfl g) ?_)⟩;rintro _ a ⟨rfl,h1⟩;exact⟨_,rfl,rfl,h1⟩
def aJv(g:Int)(h:Sep E (cd A S++L) w):Calls P H0 #[Pb A.c,Iv g] w (cW E (Iv (S.swap g)) (cd A S++L)):=by
 apply Ve;unfold J0 qQ qZ;refine⟨_,rfl,ld h 0 rfl rfl rfl (use (yn h (q:=7) rfl g) ?_)⟩;rintro _ a ⟨rfl,h1⟩;exact⟨_,rfl,rfl,h1⟩
def yv(p:Pg)(h:Sep E (cd A S++L) w):Calls P uJ #[Pb A.c,.agg p.vs.toArray] w (cW E (hD (S.text p)) (cd A S++L)):=by
 apply Xf;unfold LC qL qZ zQ zZ;refine Al.i h (λb g h1=>?_);have h1:Sep E (bC b p.vs::(cd A S++L)) g:=h1;refine ld h1 0 rfl rfl rfl (eQ (λc=>?_) (λe=>eQ (λd=>?_) (λf=>?_)))
 ·refine Dr.i h1 (λw2 h2=>⟨_,rfl,ld h2 1 rfl rfl rfl (ld h2 0 rfl rfl rfl (use (Qj p.at_ (h2.fr 4 rfl)) ?_))⟩);rintro _ _ ⟨rfl,rfl⟩;refine⟨_,_,rfl,?_,h2.tail⟩;unfold Cs.text;rw[bK c];rfl
 ·refine Dr.i h1 (λw2 h2=>⟨_,rfl,ld h2 1 rfl rfl rfl (ld h2 0 rfl rfl rfl (use (Qj p.at_ (h2.fr 7 rfl)) ?_))⟩);rintro _ _ ⟨rfl,rfl⟩;refine⟨_,_,rfl,?_,h2.tail⟩;unfold Cs.text;rw[cD,bK d];rfl
 ·refine Dr.i h1 (λw2 h2=>⟨_,rfl,ld h2 1 rfl rfl rfl (ld h2 0 rfl rfl rfl (ld h2 0 rfl rfl rfl (use (OG (p.kf,p.ki) (h2.fr 9 rfl)) ?_)))⟩);rintro _ i ⟨rfl,a⟩;have a:Sep E (bC b p.vs::(cd A S++L)) i:=a.put (q:=9) rfl;refine⟨_,_,rfl,?_,a.tail⟩;unfold Cs.text;rw[bJ e,bJ f];rfl
def QB{p b u:Nat}{s:eY}{d:Sl}{l:bS}(at_:Int)(f:Ints E L d l)(hb:l.length<=64)(h:Sep E (gA p s.bY::gb b s.bY.length s.c9::c7 u s.used::L) w):
  Calls P ra #[.agg #[Pb p,Pb b,Pb u],Iv at_,Sv d] w
  (cW E (.tuple #[]) (gA p (s.du at_ l).bY::gb b (s.du at_ l).bY.length (s.du at_ l).c9::c7 u (s.du at_ l).used::L)):=by
 apply Wt;unfold K5 qQ qZ;refine Al.i h (λq g h1=>?_);have h1:Sep E (bC q [Pb p,Pb b,Pb u]::gA p s.bY::gb b s.bY.length s.c9::c7 u s.used::L) g:=h1;refine ld h1 0 rfl rfl rfl (use (aze at_ (h1.fr 2 rfl)) ?_);rintro _ w2 ⟨rfl,h2⟩;have h2:Sep E (bC q [Pb p,Pb b,Pb u]::gA p s.bY::gb b s.bY.length (By.cl s.bY.length s.c9 at_).1::c7 u s.used::L) w2:=h2.put (q:=2) rfl;refine⟨_,rfl,ld h2 0 rfl rfl rfl (use (YS (h2.fr 1 rfl) at_) ?_)⟩;rintro _ i ⟨rfl,a⟩;have a:Sep E (bC q [Pb p,Pb b,Pb u]::gA p (np s.bY at_).1::gb b s.bY.length (By.cl s.bY.length s.c9 at_).1::c7 u s.used::L) i:=a.put (q:=1) rfl;refine⟨_,rfl,ld a 0 rfl rfl rfl (use (yo f.cons.cons.cons bu 1 (a.fr 3 rfl)) ?_)⟩;rintro _ j ⟨rfl,c⟩;have c:Sep E (bC q [Pb p,Pb b,Pb u]::gA p (np s.bY at_).1::gb b s.bY.length (By.cl s.bY.length s.c9 at_).1::c7 u (gj s.used l 1).1::L) j:=c.ro 4 [1,2,3,0] rfl;refine⟨_,rfl,rfl,?_⟩;have e:(s.du at_ l).bY.length=s.bY.length:=AJ _ _;rw[e];exact c.tail
end Go.Mp
namespace Go.Sp
open Go
variable{E:Env}{L Q:ct}{X:Asn}{w:bI}
def Sep.e9(h:Sep E (X::(Q++L)) w):Sep E (Q++X::L) w:=h.perm jf.symm
def Sep.mB(h:Sep E (Q++X::L) w):Sep E (X::(Q++L)) w:=h.perm jf
def Sep.cut(h:Sep E (Q++X::L) w):Sep E (Q++L) w:=h.mB.tail
def Sep.right(h:Sep E (Q++L) w):Sep E L w:=(h.perm l1).left
end Go.Sp
namespace Go.Mp
open Go Go.Vc Go.Sp Go.Proofs Go.Kc
variable{E:Env}{L:ct}{w:bI}{A:At}{S:Cs}
def _root_.Go.Sp.Ints.er{s:Sl}{gs:bS}{q:Nat}(a:Ints E L s gs)(b:q<16):Ints E ((cd A S++L).eraseIdx q) s gs:=
 a.of (λ_ h=>by
  rw[List.eraseIdx_append_of_lt_length (show q<(cd A S).length from b)]at h;exact h.right)
def _root_.Go.Sp.Ints.pre{s:Sl}{gs:bS}(a:Ints E L s gs):Ints E (cd A S++L) s gs:=a.of (λ_ h=>h.right)
def QC(id:Int)(p:Pg)(h:Sep E (cd A S++L) w):Calls P BS #[Pb A.c,Iv id,.agg p.vs.toArray] w (cW E (.tuple #[]) (cd A (S.clean id p)++L)):=by
 apply Ws;unfold K4 qG qL qQ qY qZ qh qy zJ zZ;refine Al.i h (λb m h1=>?_);have h1:Sep E (cd A S++bC b p.vs::L) m:=Sep.e9 h1;have i:(0<=p.kf/\p.e7=true)=False->∀w',Sep E (cd A S++bC b p.vs::L) w'->Sep E (cd A (S.clean id p)++L) w':=by
  intro hf w' h';have:S.clean id p=S:=by unfold Cs.clean;rw[bJ (by rw[hf];exact not_false)]
  rw[this];exact h'.cut
 refine⟨λx w'=>(x=true↔(0<=p.kf/\p.e7=true))/\Sep E (cd A S++bC b p.vs::L) w',ld h1 16 rfl rfl rfl (hs (λg=>ld h1 16 rfl rfl rfl ⟨⟨λc=>⟨g,c⟩,λc=>c.2⟩,h1⟩) (λr=>⟨⟨λc=>(by cases c),λc=>bu⟩,h1⟩)),?_⟩;rintro _ x w2 ⟨hx,h2⟩;refine cv (λk=>?_) (λj=>⟨rfl,i (by rw[<- hx,j];simp) _ h2⟩);have l:=hx.1 k;refine Dr.i h2 (λs f=>⟨_,rfl,ld f 0 rfl rfl rfl ?_⟩)
 iterate 11 refine ld f 16 rfl rfl rfl ?_
 refine use (yv p f) ?_;rintro _ t ⟨rfl,e⟩;refine⟨_,rfl,ld e 16 rfl rfl rfl (ld e 16 rfl rfl rfl ⟨rfl,ld e 0 rfl rfl rfl ⟨rfl,use (aAb (p.kf,p.ki) (S.text p) (e.fr 8 rfl)) ?_⟩⟩)⟩;rintro _ n ⟨rfl,a⟩;have a:=a.put (q:=8) rfl;have a:Sep E (cd A {S with files:=(ns S.files (p.kf,p.ki) (S.text p)).1} ++bC b p.vs::L) n:=a;refine⟨_,rfl,_,rfl,ld a 0 rfl rfl rfl (use (Tp.Qr id false (a.fr 11 rfl)) ?_)⟩;rintro _ o ⟨rfl,d⟩;have d:=d.put (q:=11) rfl;have d:Sep E (cd A {S with files:=(ns S.files (p.kf,p.ki) (S.text p)).1,bt:=(S.bt.mark id false).1} ++bC b p.vs::L) o:=d;refine⟨_,rfl,rfl,?_⟩;have:S.clean id p= {S with files:=(ns S.files (p.kf,p.ki) (S.text p)).1,bt:=(S.bt.mark id false).1} :=by unfold Cs.clean;rw[bK l]
 rw[this];exact d.cut
def dY.open{H:cb Obj}(h:Sep E (dY H::L) w):(∃o,w.heap[2]?=some o/\pD o)/\Sep E (dZ H::L) w:=by
 obtain⟨⟨o,ho,a⟩,h⟩:=Sep.cG.1 h;exact⟨⟨o,by rw[h.kq 2 (o1.1 ho).1];exact ho,a⟩,h⟩
def QD{p:Nat}{T:bA Bool}{H:cb Obj}{M:ct}{q:Nat}(a:M[q]?=some (dY H))(h:Sep E (gA p T::M) w):Calls P sw #[Pb p] w
  (cW E (.tuple #[Iv (fT T).2.1,Iv (fT T).2.2]) (gA p (fT T).1::M)):=by
 obtain⟨⟨o,ho,b⟩,_⟩:=dY.open (h.fr (q+1) (by simpa using a));exact YR b h ho
def aJx(id:Int)(p:Pg){u:Sl}{l:bS}(r:Ints E L u l)(hb:l.length<=64)(h:Sep E (cd A S++L) w):Calls P Ji #[Pb A.c,Iv id,.agg p.vs.toArray,Sv u] w
  (cW E (.bool (S.fo id p l).2) (cd A (S.fo id p l).1++L)):=by
 apply XJ;unfold L7 qD qG qO qQ qW qY qZ qj zJ;refine Al.i h (λb F h1=>?_);have h1:Sep E (cd A S++bC b p.vs::L) F:=Sep.e9 h1;have hn:=r.1;refine⟨λi w'=>(∃k:Nat,i=k/\k<=l.length/\(l.take k).any (λg=>decide (g8 S.sl.used g<=cT S.sl.used g))=false)/\Sep E (cd A S++bC b p.vs::L) w',λi _=>(l.length-i).toNat,⟨⟨0,rfl,fj _,rfl⟩,h1⟩,?_⟩;rintro _ i w2 ⟨⟨k,rfl,hk,d⟩,h2⟩;refine cU (λJ=>?_) (λI=>?_)
 ·have m:k<l.length:=by omega
  obtain⟨g,s⟩:∃g,l[k]?=some g:=⟨_,dO m⟩
  refine r.cons.pre.el h2 k rfl s ?_;refine Dr.i h2 (λt a=>⟨_,rfl,ld a 0 rfl rfl rfl ?_⟩);refine use (aJv g a) ?_;rintro _ B ⟨rfl,c⟩;refine⟨_,rfl,ld c 0 rfl rfl rfl ⟨rfl,use (aIc c (q:=7) rfl g) ?_⟩⟩;rintro _ G ⟨rfl,f⟩;refine⟨_,rfl,hs (λy=>?_) (λy=>?_)⟩
  ·have:S.fo id p l=(S,false):=by
    unfold Cs.fo;rw[bK (tA.2 ⟨g,eI s,dF y⟩)]
   rw[this];exact⟨rfl,f.cut⟩
  ·rw[dc];refine⟨⟨⟨k+1,rfl,m,?_⟩,f⟩,by show(((l.length:Nat):Int)-((k+1:Nat):Int)).toNat<(((l.length:Nat):Int)-(k:Int)).toNat;omega⟩;have z:¬ g8 S.sl.used g<=cT S.sl.used g:=by have K:S.swap g=cT S.sl.used g:=rfl;omega
   rw[fL s,Gh,d];simp[z]
 ·have:k=l.length:=by omega
  subst this;rw[gf]at d;refine⟨_,rfl,ld h2 0 rfl rfl rfl (use (QD (q:=14) rfl (h2.fr 5 rfl)) ?_)⟩;rintro _ t ⟨rfl,a⟩;have a:=a.put (q:=5) rfl;refine⟨_,_,rfl,hJ (λhf=>?_) (λhe=>?_)⟩
  ·have e:S.fo id p l=(S,false):=by
    unfold Cs.fo;rw[bJ (by rw[d];decide)];simp only;rw[bK hf]
   have C:=(AV hf).2;rw[C]at a;rw[e];have a:Sep E (cd A S++bC b p.vs::L) t:=a;exact⟨rfl,a.cut⟩
  ·have e:S.fo id p l=({S with sl:=⟨(fT S.sl.bY).1,(By.wr (fT S.sl.bY).1.length S.sl.c9 (fT S.sl.bY).2.1 (S.text p)).1,(df S.sl.used l 1).1⟩,bt:=(S.bt.put id 2 (fT S.sl.bY).2.1).1},true):=by
    unfold Cs.fo;rw[bJ (by rw[d];decide)];simp only;rw[cD]
   have n:=AI S.sl.bY;have a:Sep E (cd A {S with sl:=⟨(fT S.sl.bY).1,S.sl.c9,S.sl.used⟩} ++bC b p.vs::L) t:=by
    unfold cd;simp only;rw[n];exact a
   rw[e];refine⟨_,rfl,ld a 0 rfl rfl rfl (use (Qc (r.cons.er bN) bu 1 (a.fr 7 rfl)) ?_)⟩;rintro _ B ⟨rfl,c⟩;have c:=c.put (q:=7) rfl;have c:Sep E (cd A {S with sl:=⟨(fT S.sl.bY).1,S.sl.c9,(df S.sl.used l 1).1⟩} ++bC b p.vs::L) B:=c;refine⟨_,_,rfl,Dr.i c (λG f=>⟨_,rfl,ld f 0 rfl rfl rfl ?_⟩)⟩
   iterate 9 refine ld f 16 rfl rfl rfl ?_
   have D:({S with sl:=⟨(fT S.sl.bY).1,S.sl.c9,(df S.sl.used l 1).1⟩} :Cs).text p=S.text p:=by
    unfold Cs.text;simp only;rw[n]
   refine use (yv p f) ?_;rintro _ M ⟨rfl,x⟩;rw[D];refine⟨_,rfl,ld x 0 rfl rfl rfl ⟨rfl,use (Qk (fT S.sl.bY).2.1 _ (x.fr 6 rfl)) ?_⟩⟩;rintro _ H ⟨rfl,j⟩;have j:=j.put (q:=6) rfl;have j:Sep E (cd A {S with sl:=⟨(fT S.sl.bY).1,(By.wr (fT S.sl.bY).1.length S.sl.c9 (fT S.sl.bY).2.1 (S.text p)).1,(df S.sl.used l 1).1⟩} ++bC b p.vs::L) H:=j;refine⟨_,rfl,_,rfl,ld j 0 rfl rfl rfl (use (Tp.s8 id 2 _ (j.fr 11 rfl)) ?_)⟩;rintro _ N ⟨rfl,o⟩;have o:=o.put (q:=11) rfl;refine⟨_,rfl,rfl,?_⟩;exact Sep.cut (Q:=cd A {S with sl:=⟨(fT S.sl.bY).1,(By.wr (fT S.sl.bY).1.length S.sl.c9 (fT S.sl.bY).2.1 (S.text p)).1,(df S.sl.used l 1).1⟩,bt:=(S.bt.put id 2 (fT S.sl.bY).2.1).1}) o
def QE{a:Sl}{l:bS}(at_:Int)(b:Ints E L a l)(hb:l.length<=64)(h:Sep E (cd A S++L) w):
  Calls P ra #[.agg #[Pb A.fp,Pb A.fb,Pb A.fu],Iv at_,Sv a] w
  (cW E (.tuple #[]) (cd A {S with fr:=S.fr.du at_ l} ++L)):=by
 have h1:=h.ro 16 [2,3,4,0,1,5,6,7,8,9,10,11,12,13,14,15] rfl;refine use (QB (s:=S.fr) at_ b.cons.cons.cons.cons.cons.cons.cons.cons.cons.cons.cons.cons.cons hb h1) ?_;rintro _ c ⟨rfl,h2⟩;exact⟨_,rfl,rfl,h2.ro 16 [3,4,0,1,2,5,6,7,8,9,10,11,12,13,14,15] rfl⟩
def QF{a:Sl}{l:bS}(at_:Int)(b:Ints E L a l)(hb:l.length<=64)(h:Sep E (cd A S++L) w):
  Calls P ra #[.agg #[Pb A.sp,Pb A.sb,Pb A.su],Iv at_,Sv a] w
  (cW E (.tuple #[]) (cd A {S with sl:=S.sl.du at_ l} ++L)):=by
 have h1:=h.ro 16 [5,6,7,0,1,2,3,4,8,9,10,11,12,13,14,15] rfl;refine use (QB (s:=S.sl) at_ b.cons.cons.cons.cons.cons.cons.cons.cons.cons.cons.cons.cons.cons hb h1) ?_;rintro _ c ⟨rfl,h2⟩;exact⟨_,rfl,rfl,h2.ro 16 [3,4,5,6,7,0,1,2,8,9,10,11,12,13,14,15] rfl⟩
def aFM{g c:Int}(a:fU g=true):0<=rX g c/\rX g c<18446744073709551616:=by
 have d:0<=g/\g<64:=by simpa[fU]using a
 unfold rX;have h1:top=1099511627776:=rfl;have h2:=Gi c (b:=top) bu;have e:=Int.emod_lt_of_pos c (b:=top) bu;omega
def aJe(l:bS)(g:Int):0<=(dM l g).2/\(dM l g).2<18446744073709551616:=by
 unfold dM;split;·exact⟨by simp,by simp⟩
 ·next h=>
  simp only;split;·exact⟨bu,bu⟩
  ·exact aFM (by simpa using h)
def QG:mQ P Bf=some (lS,.int .u64 0):=by kernel_rfl
def nK.Ee{m:Nat}{f:Int->bV Int}(h:Sep E (nK m f::L) w){id x:Int}(hx:0<=x/\x<18446744073709551616){G:bf8}(g:∀a,Sep E (nK m (cL f id (some x))::L) a->G a):
  ∃a,Sem.run P (Instr.mapUpdate Bf (.map (some m)) (Iv id) (.int .u64 x)) w=.ok () a/\G a:=by
 obtain⟨hk,h1⟩:=Sep.cG.1 h;refine mapUpdate.i h1 Tp.mA QG id _ (λa h2=>g a (Sep.cG.2 ⟨λk y b=>?_,?_⟩))
 ·unfold cL at b;split at b;·cases b;exact hx
  ·exact hk k y b
 ·have e:cL (λk=>(f k).map (Value.int .u64)) id (some (.int .u64 x))= λk=>(cL f id (some x) k).map (Value.int .u64):=by
   funext k;unfold cL;split<;>rfl
  rw[e]at h2;exact h2
def aKh(id:Int)(hw:Kt.WF S.tree)(G:Kc.Good S.bP)(h:Sep E (cd A S++L) w):Calls P I0 #[Pb A.c,Iv id] w
  (cW E (.bool (S.out id).2) (cd A (S.out id).1++L)):=by
 apply W5;unfold Lu qE qF qJ qL qM qP qQ qU qV qX qY qZ qg zS zU;refine⟨_,rfl,ld h 0 rfl rfl rfl (use (Tp.oT id (h.fr 11 rfl)) ?_)⟩;rintro _ H ⟨rfl,h1⟩;have h1:Sep E (cd A S++L) H:=h1.put (q:=11) rfl;obtain⟨p,hp⟩:∃p,(S.bt.get id).1=p:=⟨_,rfl⟩
 rw[hp];refine⟨_,_,_,_,_,_,_,_,_,_,rfl,Al.i h1 (λb w2 h2=>et (vs:=p.vs) _ h2 rfl (λI n=>?_))⟩;have n:Sep E (cd A S++bC b p.vs::L) I:=Sep.e9 n;refine Dr.i n (λV o=>⟨_,rfl,ld o 0 rfl rfl rfl (ld o 16 rfl rfl rfl (use (sS hw (o.fr 1 rfl)) ?_))⟩);rintro _ J ⟨j,rfl,y,d⟩;have d:=d.ir (q:=1) rfl;have d:Sep E (cd A S++bw j 1 (bD (S.chain p.owner))::bC b p.vs::L) J:=Sep.e9 (Q:=cd A S) d;have s:Ints E (bw j 1 (bD (S.chain p.owner))::bC b p.vs::L) j (S.chain p.owner):=Ints.row y;have m:(S.chain p.owner).length<=64:=pG hw _;let O:Cs×Bool:=if 0<=p.kf then({S.clean id p with bt:=((S.clean id p).bt.put id 0 0).1},true)else S.fo id p (S.chain p.owner)
 have t:S.out id=if O.2=true then(O.1.leave id p (S.chain p.owner),true)else(S,false):=by
  unfold Cs.out;rw[hp];simp only[O];split;·rfl
  ·rfl
 have l:O.1.bP=S.bP:=by
  simp only[O];split;·unfold Cs.clean;split<;>rfl
  ·unfold Cs.fo;split;·rfl
   ·simp only;split<;>rfl
 refine⟨_,rfl,λw'=>O.2=true/\Sep E (cd A O.1++bw j 1 (bD (S.chain p.owner))::bC b p.vs::L) w',ld d 17 rfl rfl rfl (hs (λz=>?_) (λN=>?_)),?_⟩
 ·iterate 9 refine ld d 17 rfl rfl rfl ?_
  refine use (QC id p d) ?_;rintro _ C ⟨rfl,f⟩;refine⟨rfl,_,rfl,ld f 0 rfl rfl rfl (use (Tp.s8 id 0 0 (f.fr 11 rfl)) ?_)⟩;rintro _ K ⟨rfl,g⟩;have g:=g.put (q:=11) rfl;have e:O=({S.clean id p with bt:=((S.clean id p).bt.put id 0 0).1},true):=bK z;rw[e];exact⟨_,rfl,rfl,g⟩
 ·iterate 9 refine ld d 17 rfl rfl rfl ?_
  refine use (aJx id p s m d) ?_;rintro _ C ⟨rfl,f⟩;have e:O=S.fo id p (S.chain p.owner):=cD;refine⟨_,rfl,cv (λhf=>?_) (λF=>⟨by rw[e];simpa using F,by rw[e];exact f⟩)⟩;have hf:(S.fo id p (S.chain p.owner)).2=false:=by simpa using hf
  rw[t,e,bJ (by rw[hf];decide)];have D:(S.fo id p (S.chain p.owner)).1=S:=by
   unfold Cs.fo at hf ⊢;split;·rfl
   ·next i=>
    rw[bJ i]at hf;simp only at hf ⊢;split;·rfl
    ·next a=>rw[bJ a]at hf;cases hf
  rw[D]at f;exact⟨rfl,f.cut.cut⟩
 rintro _ C ⟨u,f⟩;rw[t,bK u];obtain⟨T,x⟩:∃T,O.1=T:=⟨_,rfl⟩
 rw[x]at f ⊢;rw[x]at l;refine Dr.i f (λK g=>⟨_,rfl,ld g 0 rfl rfl rfl (ld g 0 rfl rfl rfl (ld g 0 rfl rfl rfl (ld g 17 rfl rfl rfl ?_)))⟩);refine use (QE p.at_ s m g) ?_;rintro _ W ⟨rfl,r⟩;refine⟨rfl,_,rfl,ld r 0 rfl rfl rfl (use (Gp.vm (by show Kc.Good T.bP;rw[l];exact G) id (r.fr 9 rfl)) ?_)⟩;rintro _ M ⟨rfl,i⟩;have i:=i.put (q:=9) rfl;have i:Sep E (cd A {T with fr:=T.fr.du p.at_ (S.chain p.owner),bP:=(jl T.bP id).1} ++bw j 1 (bD (S.chain p.owner))::bC b p.vs::L) M:=i;refine⟨_,rfl,Dr.i i (λR a=>⟨_,rfl,ld a 0 rfl rfl rfl ⟨_,rfl,ld a 0 rfl rfl rfl (ld a 17 rfl rfl rfl (use (aJw (a.fr 10 rfl) p.owner) ?_))⟩⟩)⟩;rintro _ B ⟨rfl,c⟩;have c:=c.put (q:=10) rfl;have c:Sep E (cd A {T with fr:=T.fr.du p.at_ (S.chain p.owner),bP:=(jl T.bP id).1,log:=(dM T.log p.owner).1} ++bw j 1 (bD (S.chain p.owner))::bC b p.vs::L) B:=c;refine⟨_,rfl,ld c 0 rfl rfl rfl ⟨rfl,nK.Ee (c.fr 12 rfl) (aJe _ _) (λU k=>?_)⟩⟩;have k:=k.put (q:=12) rfl;exact⟨rfl,Sep.cut (Sep.cut (Q:=cd A (T.leave id p (S.chain p.owner))) k)⟩
def QH(id:Int)(h:Sep E (cd A S++L) w):Calls P BO #[Pb A.c,Iv id] w
  (cW E (.tuple #[Iv (S.here id).1,.bool (S.here id).2]) (cd A S++L)):=by
 apply Wj;unfold KU qL qU qV qX qZ;refine⟨_,rfl,ld h 0 rfl rfl rfl (use (Tp.oT id (h.fr 11 rfl)) ?_)⟩;rintro _ g ⟨rfl,h1⟩;have h1:Sep E (cd A S++L) g:=h1.put (q:=11) rfl;obtain⟨p,hp⟩:∃p,(S.bt.get id)=p:=⟨_,rfl⟩
 have f:S.here id=(p.1.at_,p.2==0&&p.1.place==1):=by unfold Cs.here;rw[hp]
 rw[hp,f];refine⟨_,_,_,_,_,_,_,_,_,_,rfl,Al.i h1 (λb w2 h2=>et (vs:=p.1.vs) _ h2 rfl (λi c=>?_))⟩;have c:Sep E (cd A S++bC b p.1.vs::L) i:=Sep.e9 c;refine Dr.i c (λj a=>ld a 16 rfl rfl rfl (eQ (λe=>ld a 16 rfl rfl rfl ⟨?_,a.cut⟩) (λd=>⟨?_,a.cut⟩)));·rw[e];simp
 ·rw[show(p.2==0)=false by simpa using d];simp
def QI(id at_ g:Int)(t:bA UInt8)(dZ:Bool)(G:Kc.Good S.bP)(h:Sep E (cd A S++L) w):Calls P Cz #[Pb A.c,Iv id,Iv at_,Iv g,hD t,.bool dZ] w
  (cW E (.tuple #[]) (cd A (S.place id at_ g t dZ)++L)):=by
 apply XN;unfold Mb qQ qZ;refine⟨_,rfl,ld h 0 rfl rfl rfl (use (Qk at_ _ (h.fr 3 rfl)) ?_)⟩;rintro _ c ⟨rfl,h1⟩;have h1:=h1.put (q:=3) rfl;have h1:Sep E (cd A {S with fr:={S.fr with c9:=(By.wr S.fr.bY.length S.fr.c9 at_ t).1}} ++L) c:=h1;refine⟨_,rfl,_,rfl,ld h1 0 rfl rfl rfl (use (Tp.Qq id g (h1.fr 11 rfl)) ?_)⟩;rintro _ w2 ⟨rfl,h2⟩;have h2:=h2.put (q:=11) rfl;have h2:Sep E (cd A {S with fr:={S.fr with c9:=(By.wr S.fr.bY.length S.fr.c9 at_ t).1},bt:=(S.bt.own id g).1} ++L) w2:=h2;refine⟨_,rfl,_,rfl,ld h2 0 rfl rfl rfl (use (Tp.s8 id 1 at_ (h2.fr 11 rfl)) ?_)⟩;rintro _ d ⟨rfl,a⟩;have a:=a.put (q:=11) rfl;have a:Sep E (cd A {S with fr:={S.fr with c9:=(By.wr S.fr.bY.length S.fr.c9 at_ t).1},bt:=((S.bt.own id g).1.put id 1 at_).1} ++L) d:=a;refine⟨_,rfl,_,rfl,ld a 0 rfl rfl rfl (use (Gp.DC G id g dZ (a.fr 9 rfl)) ?_)⟩;rintro _ e ⟨rfl,b⟩;have b:=b.put (q:=9) rfl;exact⟨_,rfl,rfl,b⟩
def ea(l:bA Bool):bA bE:=l.map Value.bool
@[simp] theorem aJl(l:bA Bool):(ea l).length=l.length:=by simp[ea]
@[simp] theorem QJ(l:bA Bool)(i:Nat):(ea l)[i]?=l[i]?.map Value.bool:=by simp[ea]
def aJ8(n:Nat):((List.range (((n:Nat):Int).toNat*1)).map λi=>(([Value.bool false]:bA bE).toArray)[i%([Value.bool false]:bA bE).length]!)=ea (List.replicate n false):=by
 rw[dA,fR];apply hg;intro i;rw[eC,QJ,om];by_cases a:i<n
 ·rw[na a,bK a];simp[Nat.mod_one]
 ·rw[gQ (by simpa using a),bJ a];rfl
def aFq{n:Nat}(hb:n<1000000)(h:Sep E L w){G:Sl->bf8}(k:∀s a,s.n=n->Sep E (bw s 1 (ea (List.replicate n false))::L) a->G s a):
  ∃x:Sl,∃a,Sem.run P (Instr.makeSlice lT (Iv ((n:Nat):Int)) (Iv ((n:Nat):Int))) w=.ok (Sv x) a/\G x a:=by
 refine makeSlice.i h (by kernel_rfl:hi P lT=some (1,1,[.bool false])) bu (g2 _) bu bu (λb a h1=>k _ a (by simp) ?_);rw[aJ8]at h1;exact bw.make (spare:=[]) (by simpa using h1) (by simp) (by simp) (ek _)
def aKl{s:Sl}{l:bA Bool}{i:Int}{x:Bool}{F:bf8}(h:Sep E (bw s 1 (ea l)::L) w)(hn:s.n=l.length)(d:0<=i)(h1:i<l.length)(k:∀c,Sep E (bw s 1 (ea (l.set i.toNat x))::L) c->F c):cK s.p s.n i 1 λa=>St a (.bool x) F w:=by
 refine bw.el 0 h rfl d bu (λb hb _=>?_);rw[fR];refine bw.st h hb (by simp;omega) (λc h1=>k c ?_);have:ea (l.set i.toNat x)=(ea l).set i.toNat (.bool x):=by simp[ea,hG]
 rw[this];exact h1
def vo{s:Sl}{l:bA Bool}{i:Int}{F:Bool->Prop}(q:Nat)(h:Sep E L w)(e:L[q]?=some (bw s 1 (ea l)))(hn:s.n=l.length)(c:0<=i)(h1:i<l.length)(k:F (hA l i)):cK s.p s.n i 1 λa=>∃x:Bool,w.cell? a=some (.bool x)/\F x:=by
 refine bw.el q h e c bu (λb _ d=>⟨_,?_,k⟩);have:=d 0 bu;rw[lK]at this;rw[this,QJ,fR,dO (show i.toNat<l.length by omega)];unfold hA;rw[dJ,dO (show i.toNat<l.length by omega)];rfl
def QK:hi P xc=some (24,3,[Iv 0,Iv 0,Iv 0]):=by kernel_rfl
def aFu{s:Sl}{q:Nat}{l:bA ez}{x:ez}(hn:s.n=l.length)(hb:l.length<1000000)(h:Sep E (bC q x.vs::en s l::L) w){G:Sl->bf8}(g:∀s' a,s'.n=l.length+1->Sep E (en s' (l++[x])::L) a->G s' a):
  ∃d:Sl,∃a,Sem.run P (Builtin.append_ #[xc,xc] xc #[Sv s,.slice (some ⟨q,0,none⟩) 1 1]) w=.ok (Sv d) a/\G d a:=by
 have e:=Src.bC (n:=1) (c:=1) h (i:=0) rfl QK rfl (λu hu=>by simp[ez.vs]at hu;rcases hu with rfl|rfl|rfl<;>rfl);refine bw.append h.swap QK rfl e bu (by rw[hn];omega) (λs' a b h1=>?_);refine g s' a (by rw[b,hn]) ?_;unfold en;rw[m6,oM];exact(h1.fr 0 rfl).ro 2 [0] rfl
def Cs.s9(S:Cs)(own:eD->Int)(g:Nat):ez:=if S.live g then⟨((S.tree[g]?).map Kt.G.up).getD (-1),S.memory g,own (S.mW g)⟩else⟨((S.tree[g]?).map Kt.G.up).getD (-1),0,0⟩
def QL(own:eD->Int){k:Nat}(hk:k<S.guards.length):(S.nodes own)[k]?=some (Cs.s9 S own k):=by
 unfold Cs.nodes Cs.s9;rw[eC,na hk];rfl
def Ef(own:eD->Int):(S.nodes own).length=S.guards.length:=by simp[Cs.nodes]
def vp(t:Int)(own:eD->Int):(S.held t own).length=S.guards.length:=by simp[Cs.held,Ef]
def aGY(t:Int)(own:eD->Int){k:Nat}(hk:k<S.guards.length):(S.held t own)[k]?=some (nu (S.nodes own) (mT (S.nodes own) t) t k):=by
 unfold Cs.held;simp only;rw[eC,na (by rw[Ef];exact hk)];rfl
def iN.open{s:Sl}{l:bA eD}(h:Sep E (iN s l::L) w):s.n=l.length/\Sep E (bw s 3 (bQ eD.vs l)::L) w:=Sep.cG.1 h
def ju.open{s:Sl}{l:bA Kt.G}(h:Sep E (ju s l::L) w):s.n=l.length/\Sep E (bw s 1 (bD (l.map Kt.G.up))::L) w:=Sep.cG.1 h
def Eg(E:Env)(own:bE)(ee:eD->Int):Prop:=∀(L:ct) (x:eD) (w:bI),Sep E L w->e1 P own #[.agg #[Iv x.min,Iv x.low,.bool x.whole]] w λe w'=>e=.returned (Iv (ee x))/\Sep E L w'
def QM:Eg E (.func (.func uD) #[] #[]) eD.min:=by
 intro L x w h;refine⟨uD,_,rfl,by kernel_rfl,?_⟩;refine use (K:=λv w'=>v=Iv x.min/\Sep E L w') (Wb _ _ _ (Al.i h (λb d h1=>⟨_,h1.cell 0,rfl,h1.tail⟩))) (λv w' ⟨c,a⟩=>⟨by rw[c],a⟩)
def QN:Eg E (.func (.func uE) #[] #[]) eD.low:=by
 intro L x w h;refine⟨uE,_,rfl,by kernel_rfl,?_⟩;refine use (K:=λv w'=>v=Iv x.low/\Sep E L w') (Wc _ _ _ (Al.i h (λb d h1=>⟨_,h1.cell 1,rfl,h1.tail⟩))) (λv w' ⟨c,a⟩=>⟨by rw[c],a⟩)
def yw{t:Int}{own:bE}{ee:eD->Int}(K:Eg E own ee)(an:S.guards.length=S.tree.length)(aj:S.guards.length<=64)(hu:∀g,S.memory g<2147483648)(h:Sep E (cd A S++L) w):
  Calls P q8 #[Pb A.c,Iv t,own] w (cz λv w'=>∃e:Sl,v=Sv e/\e.n=(S.held t ee).length/\Sep E (cd A S++bw e 1 (ea (S.held t ee))::L) w'):=by
 apply Wa;unfold KN qD qF qJ qK qO qQ qU qW qZ qa qf qg qi ql qx;have R:=(iN.open (h.fr 13 rfl)).1;have Z:=(ju.open (h.fr 14 rfl)).1;have B:=Ef (S:=S) ee;refine⟨_,rfl,A.gs,h.cellAt 0 rfl 12,?_⟩;refine⟨λs i w'=>∃k:Nat,i=k/\k<=S.guards.length/\s.n=k/\Sep E (cd A S++en s ((S.nodes ee).take k)::L) w',λ_ i _=>(S.guards.length-i).toNat,⟨0,rfl,fj _,rfl,Sep.e9 (bw.none_ h)⟩,?_⟩;rintro _ s _ al ⟨k,rfl,hk,ao,h1⟩;refine cU (λW=>?_) (λO=>?_)
 ·have c:k<S.guards.length:=by omega
  obtain⟨x,hx⟩:∃x,S.guards[k]?=some x:=⟨_,dO c⟩
  obtain⟨y,M⟩:∃y,S.tree[k]?=some y:=⟨_,dP⟩
  have ak:S.mW (k:Int)=x:=by unfold Cs.mW;rw[dA,dJ,hx];rfl
  obtain⟨m,z⟩:∃m,Cs.s9 S ee k=m:=⟨_,rfl⟩
  refine lV eD.mx 0 (iN.open (h1.fr 13 rfl)).2 rfl R rfl hx (λb _ H=>⟨x.min,by rw[cf];exact H 0 _ rfl,x.low,by rw[cf];exact H 1 _ rfl,x.whole,by rw[cf];exact H 2 _ rfl,?_⟩);refine Al.i h1 (λl w2 h2=>et (vs:=eD.vs x) _ h2 rfl (λad d=>?_));have d:Sep E (cd A S++bC l (eD.vs x)::en s ((S.nodes ee).take k)::L) ad:=Sep.e9 d;refine⟨_,rfl,A.us,d.cellAt 0 rfl 13,?_⟩;refine(Ints.at_ (q:=0) rfl (by simpa using Z)).el (ju.open (d.fr 14 rfl)).2 k rfl (by rw[eC,M];rfl) ?_;refine Al.i d (λp am u=>et (vs:=[Iv y.up,Iv 0,Iv 0]) _ u rfl (λae f=>?_));have f:Sep E (cd A S++bC p [Iv y.up,Iv 0,Iv 0]::bC l (eD.vs x)::en s ((S.nodes ee).take k)::L) ae:=Sep.e9 f;refine⟨λw'=>Sep E (cd A S++bC p m.vs::bC l (eD.vs x)::en s ((S.nodes ee).take k)::L) w',⟨_,rfl,ld f 0 rfl rfl rfl (use (kC f (q:=1) rfl) ?_)⟩,?_⟩
  ·rintro _ _ ⟨rfl,rfl⟩;refine⟨_,rfl,cv (λhl=>?_) (λhl=>?_)⟩
   ·refine Dr.i f (λaf a=>ld a 17 rfl rfl rfl (ld a 17 rfl rfl rfl (ld a 17 rfl rfl rfl (use (QA _ a) ?_))));rintro _ ag ⟨rfl,j⟩;refine⟨_,rfl,ld j 17 rfl rfl rfl (ld j 17 rfl rfl rfl (ld j 17 rfl rfl rfl ⟨rfl,e1.use (K _ x _ j) ?_⟩))⟩;rintro e ah ⟨rfl,r⟩;have r:Sep E (bC p [Iv y.up,Iv 0,Iv 0]::(cd A S++bC l (eD.vs x)::en s ((S.nodes ee).take k)::L)) ah:=r.mB;refine⟨_,rfl,St.i r (by simp) (λaq ai=>St.i ai (by simp) (λap N=>?_))⟩;have e:m=⟨y.up,S.memory k,ee x⟩:=by
     rw[<- z];unfold Cs.s9;rw[bK (show S.live k=true from hl),M,ak];rfl
    rw[e];exact Sep.e9 N
   ·have e:m=⟨y.up,0,0⟩:=by
     rw[<- z];unfold Cs.s9;rw[bJ (by rw[show S.live k=false from hl];decide),M];rfl
    rw[e];exact f
  ·intro _ af a;refine ld a 16 rfl rfl rfl (ld a 16 rfl rfl rfl (ld a 16 rfl rfl rfl (Al.i a (λab ag j=>?_))));have j:Sep E (bC ab m.vs::en s ((S.nodes ee).take k)::(cd A S++bC p m.vs::bC l (eD.vs x)::L)) ag:=(j.fr 19 rfl).swap;refine aFu (by rw[hF,B];omega) (by rw[hF,B];omega) j (λs' ah Y r=>?_);have F:=QL (S:=S) ee c;rw[z]at F;rw[<- fL F]at r;rw[dc];refine⟨⟨k+1,rfl,c,by rw[Y,hF,B];omega,Sep.e9 (Sep.cut (Q:=en s' ((S.nodes ee).take (k+1))::cd A S) (Sep.cut (Q:=en s' ((S.nodes ee).take (k+1))::cd A S) r))⟩,?_⟩;show(((S.guards.length:Nat):Int)-((k+1:Nat):Int)).toNat<(((S.guards.length:Nat):Int)-(k:Int)).toNat;omega
 ·have V:k=(S.nodes ee).length:=by omega
  rw[V,gf]at h1;have h1:Sep E (en s (S.nodes ee)::(cd A S++L)) al:=h1.mB;have I:=bw.cap h1;refine use (aBI bu bu I (λx hx=>?_) h1) ?_
  ·obtain⟨i,J⟩:=pW.1 hx;have U:i<S.guards.length:=by have:=(cZ.1 J).1;omega
   rw[QL ee U]at J;cases J;unfold Cs.s9;split;·exact hu _
   ·show(0:Int)<2147483648;decide
  rintro _ w2 ⟨e,rfl,he,h2⟩;refine⟨e,rfl,?_⟩;refine aFq (n:=s.n) bu h2 (λaa ad C d=>?_);have X:s.n=S.guards.length:=by omega
  rw[X]at d C;have o:=vp (S:=S) t ee;refine⟨λx w'=>∃k:Nat,x=k/\k<=S.guards.length/\Sep E (en s (S.nodes ee)::bw e 1 (bD (mT (S.nodes ee) t))::bw aa 1 (ea ((S.held t ee).take k++List.replicate (S.guards.length-k) false))::(cd A S++L)) w',
   λx _=>(S.guards.length-x).toNat,⟨0,rfl,fj _,d.ro 3 [2,1,0] rfl⟩,?_⟩
  rintro _ _ am ⟨k,rfl,hk,u⟩;refine cU (λW=>?_) (λO=>?_)
  ·have c:k<S.guards.length:=by omega
   refine use (aJq bu he bu u) ?_;rintro _ ae ⟨rfl,f⟩;have T:=aGY (S:=S) t ee c;have D:((S.held t ee).take k++List.replicate (S.guards.length-k) false).length=S.guards.length:=by simp[o];omega
   refine⟨_,rfl,aKl (f.fr 2 rfl) (by rw[D];exact C) bu (by rw[D];omega) (λaf a=>?_)⟩;have G:((S.held t ee).take k++List.replicate (S.guards.length-k) false).set ((k:Nat):Int).toNat (nu (S.nodes ee) (mT (S.nodes ee) t) t k)=(S.held t ee).take (k+1)++List.replicate (S.guards.length-(k+1)) false:=by
    rw[dA,fL T,jx k _ (by simp;omega),dj];congr 1;rw[hF,o,o6 hk,iV,show S.guards.length-k=(S.guards.length-(k+1))+1 by omega,oo];rfl
   rw[G]at a;rw[dc];refine⟨⟨k+1,rfl,c,a.ro 3 [1,2,0] rfl⟩,?_⟩;show(((S.guards.length:Nat):Int)-((k+1:Nat):Int)).toNat<(((S.guards.length:Nat):Int)-(k:Int)).toNat;omega
  ·have:k=S.guards.length:=by omega
   subst this;rw[iV,<- o,gf,FV,hv]at u;exact⟨aa,rfl,by rw[o];exact C,Sep.e9 u.tail.tail⟩
end Go.Mp
namespace Go.Mp
open Go Go.Vc
def vq(id:Nat):Code->bV (cb Oper)
 |.region i ops _=>bif Nat.beq i id then some ops else none
 |.seq x y=>match vq id x with
  |some o=>some o
  |none=>vq id y
 |_=>none
def vr:dQ:={fork:=λr=>[3].contains r,join:=λr=>(bif r==4 then some [(9,.ptr),(10,.ptr)]else none)}
noncomputable def yx:cb Oper:=((f128.body.bind (vq 3)).getD #[])
def QO(c:ch)(target:Int)(a:Sl)(all:Bool)(K:bf9)(w:bI):Prop:=
 Al (.cells #[(Pv c)] 28) (λf w2=>∃o,w2.cell? f=some (Pv o)/\NN o λa4=>∃p,w2.cell? (a4.add 0)=some (Pv p)/\
  Calls P kb #[(Pv p),(Iv target)] w2 λD B=>∃i,D=.returned (.bool i)/\bif(!i)then(K aN2 B)else(∃q:bV
  Addr->ch->bf8,(Dr (λv=>gS P fG gM cx vr yx (mP (nh [(9,.ptr),(10,.ptr)] q) (oB P fG [.tmp 8] K
  (λ_ _=>False))) yx.size (Array.replicate yx.size false) ((((((((((ji [(Pv c),(Iv target),(.slice a.p a.n
  a.c),(.bool all)] 0 .nil).put (some 4) (Pv (some f))).put (some 8) (.bool false)).put (some 13) (Pv o)).put (some 14) (Pv (some a4))).put (some 15)
  (Pv (some (a4.add 0)))).put (some 16) (Pv p)).put (some 17) (Iv target)).put (some 18) (.bool i)).put (some 19) (.bool (!i))) v) B)/\(∀C:Nat->
  bE,∀b:ch,∀d:ch,∀e:bI,q b d e->∃j,e.cell? f=some (Pv j)/\NN j λr=>∃k:
  ch,e.cell? (r.add 8)=some (Pv k)/\Calls P IZ #[(Pv k),(Sv a)] e λs x=>∃l:Sl,s
  =.returned (Sv l)/\Al (.cells #[(aN8)] 22) (λg y=>St g (Sv l) (λz=>Calls P Cb #[(.func
  (.func I1) #[] #[(Pv b),(Pv d)]),(Pv (some g)),(Pv (some f))] z λt h=>∃m:Bool,t=.returned (.bool
  m)/\bif m then(K aN3 h)else(bif all then(Calls P Cb #[(.func (.func I2) #[] #[(Pv b)]),(Pv (some g)),
  (Pv (some f))] h λu A=>∃n,u=.returned (.bool n)/\K (.bool n) A)else(K aN2 h))) y) x))) w
def asZ(c:ch)(target:Int)(a:Sl)(all:Bool)(K:bf9)(w:bI):kp P fG gM cx vr f128 #[(.pointer c),(.int .i64 target),(.slice a.p a.n a.c),(.bool all)] K (λ_ _=>False) w=QO c target a all K w:=by kernel_rfl
def asr:k7 P vr f128 4=true:=by kernel_rfl
def arM(c:ch)(target:Int)(a:Sl)(all:Bool){K:bf9}{w:bI}(h:QO c target a all K w):Calls P xC #[(Pv c),(Iv target),(Sv a),(.bool all)] w (cz K):=AG mixed func128 asr (by rw[asZ];exact h)
end Go.Mp
namespace Go.Vc
open Go
section
variable{P:cN}{τ:cc->K1}{ρ:cc->Kd}{cx:bg5->Bool}{A:dQ}
def QP{f:Nat->Prop}:∀ {l:bA Nat},(∀i∈l,f i)->tV f l
 |[],_=>trivial
 |_::_,h=>⟨h _ (fE ..),QP (λi a=>h i (fY _ a))⟩
def yy{ops:cb Oper}{listed:cb Bool}{i:Nat}(h:i∈Region.ready .any ops listed):i<ops.size/\listed.getD i true=false/\
  ∀o,ops[i]?=some o->∀e∈o.after.toList,Region.binds .any e=true->listed.getD e.on false=true:=by
 unfold Region.ready at h;rw[gG,gn]at h;obtain⟨h1,h2⟩:=h;simp only[dy,ib]at h2;refine⟨h1,h2.1,λo ho e he hb=>?_⟩;have a:=h2.2;rw[ho]at a;simp only[gg,mI]at a;rw[<- Array.all_toList]at a;have:=fQ.1 a e he;rw[hb]at this;simpa using this
def ta(ops:cb Oper):Bool:=(List.range ops.size).all λi=>match ops[i]? with
 |some o=>o.after.toList.all λe=>Nat.blt e.on i
 |none=>true
def QQ{ops:cb Oper}{listed:cb Bool}(hb:ta ops=true)(hr:Region.ready .any ops listed= []):∀i,i<ops.size->listed.getD i true=true:=by
 intro i;induction i using Nat.strongRecOn with
 |_ i f=>
  intro a;cases hl:listed.getD i true with
  |true=>rfl
  |false=>
   exfalso;have ho:ops[i]?=some ops[i]:=oh a;have hm:i∈Region.ready .any ops listed:=by
    unfold Region.ready;rw[gG,gn];refine⟨a,?_⟩;rw[hl,ho];simp only[Bool.not_false,l5,gg,mI];rw[<- Array.all_toList,fQ];intro e he;have d:e.on<i:=by
     unfold ta at hb;have:=fQ.1 hb i (gn.2 a);rw[ho]at this;exact SX (fQ.1 this e he)
    have h1:=f e.on d bu;have h2:listed.getD e.on false=true:=by
     rw[iU]at h1 ⊢;cases c:listed[e.on]? with
     |some b=>rw[c]at h1;simpa using h1
     |none=>
      exfalso;have g:listed.size<=e.on:=Array.getElem?_eq_none_iff.1 c;rw[iU,vV bu]at hl;cases hl
    rw[h2];simp
   rw[hr]at hm;cases hm
def mC(n:Nat)(listed:cb Bool):Nat:=((List.range n).filter λj=> !listed.getD j true).length
def filter_lt{p q:Nat->Bool}:∀ {l:bA Nat} {i:Nat},(∀x,q x=true->p x=true)->i∈l->p i=true->q i=false->(l.filter q).length<(l.filter p).length
 |[],_,_,h,_,_=>by cases h
 |x::l,i,a,c,hp,d=>by
  have hle:∀l:bA Nat,(l.filter q).length<=(l.filter p).length:=by
   intro l;induction l with
   |nil=>simp
   |cons y l b=>
    rw[jH,jH];split;·next h=>rw[bK (a _ h)];simpa using b
    ·split;·simp;omega
     ·exact b
  rw[jH,jH];rcases ew.1 c with rfl|c
  ·rw[bJ (by rw[d];simp),bK hp];have:=hle l;simp;omega
  ·have b:=filter_lt a c hp d;split;·next h=>rw[bK (a _ h)];simpa using b
   ·split;·simp;omega
    ·exact b
def QR{n i:Nat}{listed:cb Bool}(a:i<n)(b:listed.size=n)(h:listed.getD i true=false):mC n (listed.setIfInBounds i true)<mC n listed:=by
 unfold mC;refine filter_lt (p:=λj=> !listed.getD j true) (q:=λj=> !(listed.setIfInBounds i true).getD j true) (i:=i) (λx hx=>?_) (gn.2 a) (by simp only[h];rfl) ?_
 ·by_cases e:x=i;·subst e;simp only[h];rfl
  ·have:(listed.setIfInBounds i true).getD x true=listed.getD x true:=by
    rw[iU,iU,SR (nd e)]
   simp only[this]at hx;exact hx
 ·have:(listed.setIfInBounds i true).getD i true=true:=by
   rw[iU,SQ bu];rfl
  simp only[this];rfl
def QS{ops:cb Oper}{Q:Exit->Tr->bf8}(J:cb Bool->Tr->bf8)(step:∀listed T w i o,listed.size=ops.size->J listed T w->i∈Region.ready .any ops listed->ops[i]?=some o->∀next:Tr->bf8,(∀T' w',J (listed.setIfInBounds i true) T' w'->next T' w')->
   km ops o T (λT=>ng P τ ρ cx A o T w next Q) (λT=>next (T.put o.dst undef) w))(fin:∀listed T w,J listed T w->Region.ready .any ops listed= []->Q .normal T w):
  ∀(fuel:Nat) (listed:cb Bool) (T:Tr) (w:bI),listed.size=ops.size->mC ops.size listed<=fuel->J listed T w->gS P τ ρ cx A ops Q fuel listed T w:=by
 intro fuel;induction fuel with
 |zero=>
  intro listed T w a hu b;unfold gS;split;·next e=>exact fin _ _ _ b e
  ·next e=>
   cases hr:Region.ready .any ops listed with
   |nil=>exact absurd hr e
   |cons i l=>
    have hm:i∈Region.ready .any ops listed:=by rw[hr];exact fE ..
    obtain⟨h1,h2,_⟩:=yy hm;have:=QR h1 a h2;omega
 |succ fuel g=>
  intro listed T w a hu b;unfold gS;split;·next e=>exact fin _ _ _ b e
  ·next i0 h e=>
   refine QP (λi c=>?_);rw[<- e]at c;obtain⟨h1,h2,_⟩:=yy c;have ho:ops[i]?=some ops[i]:=oh h1;rw[ho];have f:=QR h1 a h2;exact step listed T w i ops[i] a b c ho _ (λT' w' d=>g _ _ _ (by simpa using a) bu d)
end
end Go.Vc
namespace Go.Vc
open Go Go.Sp
section
variable{P:cN}{τ:cc->K1}{ρ:cc->Kd}{cx:bg5->Bool}{A:dQ}
def e5(ops:cb Oper)(i:Nat):Nat:=match ops[i]? with|some o=>o.dst.getD 0|none=>0
def ee(ops:cb Oper):Bool:=
 ta ops&&((List.range ops.size).all λi=>match ops[i]? with
  |some o=>o.guard.isNone&&o.dst.isSome&&Nat.blt (o.dst.getD 0) 8000&&(List.range i).all λj=> !(Nat.beq (e5 ops j) (e5 ops i))
  |none=>false)
def oU{ops:cb Oper}(h:ee ops=true):ta ops=true/\(∀i o,ops[i]?=some o->o.guard=none/\o.dst=some (e5 ops i)/\e5 ops i<8000)/\∀i j,i<ops.size->j<ops.size->i≠j->e5 ops i≠e5 ops j:=by
 unfold ee at h;rw[dy]at h;obtain⟨h1,h2⟩:=h;have g:∀i o,ops[i]?=some o->o.guard=none/\o.dst=some (e5 ops i)/\e5 ops i<8000/\∀j,j<i->e5 ops j≠e5 ops i:=by
  intro i o ho;have k:i<ops.size:=(o1.1 ho).1;have:=fQ.1 h2 i (gn.2 k);rw[ho]at this;simp only[dy,fQ,ib]at this;obtain⟨⟨⟨a,b⟩,c⟩,d⟩:=this;obtain⟨n,f⟩:=kX.1 b;have e:e5 ops i=n:=by unfold e5;rw[ho];simp[f]
  refine⟨SV.1 a,by rw[f,e],?_,λj l p=>?_⟩;·rw[f]at c;rw[e];simpa using c
  ·have:=d j (gn.2 l);rw[p]at this;simp at this
 refine⟨h1,λi o ho=>let ⟨a,b,c,_⟩:=g i o ho;⟨a,b,c⟩,λi j k l m=>?_⟩;rcases Nat.lt_or_gt_of_ne m with h' | h';·exact(g j ops[j] (oh l)).2.2.2 i h'
 ·exact λe=>(g i ops[i] (oh k)).2.2.2 j h' e.symm
def h7{α:Type}{f f':Nat->bA α}{i:Nat}{X:bA α}:∀ {l:bA Nat},l.Nodup->i∈l->f i= []->f' i=X->(∀j∈l,j≠i->f' j=f j)->(X++l.flatMap f).Perm (l.flatMap f')
 |[],_,d,_,_,_=>by cases d
 |a::l,r,d,n,o,hr=>by
  rw[nQ,nQ];obtain⟨q,g⟩:=rH.1 r;by_cases e:a=i
  ·subst e;rw[n,o,lJ];have:l.flatMap f'=l.flatMap f:=by
    have:∀ {m:bA Nat},(∀j∈m,f' j=f j)->m.flatMap f'=m.flatMap f:=by
     intro m hm;induction m with
     |nil=>rfl
     |cons b m k=>rw[nQ,nQ,hm b (fE ..),k (λj c=>hm j (fY _ c))]
    exact this (λj c=>hr j (fY _ c) (λe=>q (e▸c)))
   rw[this]
  ·rw[hr a (fE ..) e];have p:i∈l:=by
    rcases ew.1 d with h|h;·exact absurd h.symm e
    ·exact h
   have k:=h7 g p n o (λj c=>hr j (fY _ c));refine List.Perm.trans ?_ (pV (f a) k);rw[<- dj,<- dj];exact rE _ l1
def pieces(ops:cb Oper)(a:Nat->Tr->ct)(listed:cb Bool)(T:Tr):ct:=
 (List.range ops.size).flatMap λi=>if listed.getD i true=true then a i T else[]
def waits(ops:cb Oper)(i j:Nat):Prop:=∃o,ops[i]?=some o/\∃e∈o.after.toList,Region.binds .any e=true/\e.on=j
def aHy{ops:cb Oper}{Q:Exit->Tr->bf8}{E:Env}{L:ct}(p:Tr->Prop)(F:Nat->Tr->Prop)(g:Nat->Tr->ct)(J:ee ops=true)(D:∀T i v,i<ops.size->p T->p (T.put (some (e5 ops i)) v))(V:∀i j T v,i<ops.size->j<ops.size->i≠j->¬ waits ops i j->F i T->F i (T.put (some (e5 ops j)) v))(G:∀i j T v,i<ops.size->j<ops.size->i≠j->¬ waits ops i j->g i (T.put (some (e5 ops j)) v)=g i T)(step:∀T w i o R,p T->ops[i]?=some o->(∀e∈o.after.toList,Region.binds .any e=true->F e.on T)->Sep E (R++L) w->
   ∀next:Tr->bf8,(∀v w',F i (T.put (some (e5 ops i)) v)->Sep E (g i (T.put (some (e5 ops i)) v)++(R++L)) w'->next (T.put (some (e5 ops i)) v) w')->ng P τ ρ cx A o T w next Q)(fin:∀T w M,p T->(∀i,i<ops.size->F i T)->Sep E (M++L) w->M.Perm ((List.range ops.size).flatMap λi=>g i T)->Q .normal T w){T:Tr}{w:bI}(S:p T)(W:Sep E L w):gS P τ ρ cx A ops Q ops.size (Array.replicate ops.size false) T w:=by
 obtain⟨hb,I,ab⟩:=oU J;have z:∀ {i:Nat} {o:Oper} {e},i<ops.size->ops[i]?=some o->e∈o.after.toList->e.on<i:=by
  intro i o e c ho he;unfold ta at hb;have:=fQ.1 hb i (gn.2 c);rw[ho]at this;exact SX (fQ.1 this e he)
 have O:∀ {listed:cb Bool} {j:Nat},listed.getD j false=true->listed.getD j true=true:=by
  intro listed j h;rw[iU]at h ⊢;cases U:listed[j]? with
  |some b=>rw[U]at h;simpa using h
  |none=>rfl
 refine QS (λlisted T w=>listed.size=ops.size/\p T/\(∀i,i<ops.size->listed.getD i true=true->F i T)/\(∀i j,i<ops.size->listed.getD i true=true->waits ops i j->listed.getD j true=true)/\
  ∃M,Sep E (M++L) w/\M.Perm (pieces ops g listed T)) ?_ ?_ ops.size _ T w (by simp) ?_ ?_
 ·rintro listed T w i o K ⟨_,hx,n,s,M,B,hp⟩ f ho next hn
  obtain⟨c,x,t⟩:=yy f;obtain⟨X,ad,Z⟩:=I i o ho;unfold km;rw[X];dsimp only;refine step T w i o M hx ho (λe he r=>?_) B next (λv w' Y H=>?_)
  ·have aa:=z c ho he;exact n e.on bu (O (t o ho e he r))
  ·have d:∀j,j<ops.size->(listed.setIfInBounds i true).getD j true=if j=i then true else listed.getD j true:=by
    intro j a;rw[iU,iU];by_cases e:j=i;·subst e;rw[bK rfl,SQ bu];rfl
    ·rw[bJ e,SR (nd e)]
   have N:∀j k,waits ops j k->k<ops.size:=by
    rintro j k ⟨o',l,e,he,_,rfl⟩;have a:=(o1.1 l).1;have:=z a l he;omega
   refine hn _ _ ⟨by simpa using K,D _ _ _ c hx,λj a hl=>?_,λj k a hl hw=>?_,g i (T.put (some (e5 ops i)) v)++M,by rw[dj];exact H,?_⟩
   ·by_cases e:j=i;·subst e;exact Y
    ·rw[d j a,bJ e]at hl;refine V j i T v a c e (λhw=>?_) (n j a hl);have:=s j i a hl hw;rw[x]at this;cases this
   ·have hk:=N j k hw;rw[d k hk];by_cases e:j=i
    ·subst e;obtain⟨o',l,e,he,r,rfl⟩:=hw;rw[ho]at l;cases l;split;·rfl
     ·exact O (t o ho e he r)
    ·rw[d j a,bJ e]at hl;split;·rfl
     ·exact s j k a hl hw
   ·refine(pV _ hp).trans ?_;unfold pieces;refine h7 List.nodup_range (gn.2 c) ?_ ?_ (λj a y=>?_);·rw[x];rfl
    ·rw[d i c,bK rfl,bK rfl]
    ·have u:=gn.1 a;rw[d j u,bJ y];split;·next hl=>exact G j i T v u c y (λhw=>by have:=s j i u hl hw;rw[x]at this;cases this)
     ·rfl
 ·rintro listed T w ⟨K,hx,n,_,M,B,hp⟩ hr;have q:=QQ hb hr;refine fin T w M hx (λi f=>n i f (q i f)) B (hp.trans ?_);unfold pieces;have:∀ {m:bA Nat},(∀j∈m,j<ops.size)->(m.flatMap λi=>if listed.getD i true=true then g i T else[])=m.flatMap λi=>g i T:=by
   intro m hm;induction m with
   |nil=>rfl
   |cons b m C=>rw[nQ,nQ,C (λj a=>hm j (fY _ a)),bK (q b (hm b (fE ..)))]
  rw[this (λj a=>gn.1 a)]
 ·unfold mC;exact mK (l2 _ _) (by rw[F8];exact ek _)
 ·have no:∀i,i<ops.size->(Array.replicate ops.size false).getD i true=false:=by
   intro i f;rw[iU,SW,bK f];rfl
  refine⟨by simp,S,λi f hl=>?_,λi j f hl=>?_,[],W,?_⟩;·rw[no i f]at hl;cases hl
  ·rw[no i f]at hl;cases hl
  ·unfold pieces;have:∀ {m:bA Nat},(∀j∈m,j<ops.size)->(m.flatMap λi=>if(Array.replicate ops.size false).getD i true=true then g i T else[])= []:=by
    intro m hm;induction m with
    |nil=>rfl
    |cons b m C=>
     rw[nQ,C (λj a=>hm j (fY _ a)),no b (hm b (fE ..))];rfl
   rw[this (λj a=>gn.1 a)]
end
end Go.Vc
namespace Go.Mp
open Go Go.Vc Go.Sp Go.Proofs Go.Kc
variable{E:Env}{L:ct}{w:bI}{A:At}{S:Cs}
noncomputable abbrev kH:cb Oper:=yx
def aKw:Oper:={dst:=none,op:=.assign (.const (.pointer none)),type:=0,pos:= "",after:= #[],guard:=none}
noncomputable def yz(i:Nat):Oper:=(kH[i]?).getD aKw
def yA:kH.size=10:=by kernel_rfl
def aJi:ta kH=true:=by decide+kernel
def aIK:((List.range 10).all λi=>(yz i).guard.isNone)=true:=by decide+kernel
section
variable(T:Tr)(next:Tr->bf8)(Q:Exit->Tr->bf8)
abbrev jv(i:Nat):=ng P fG gM cx vr (yz i) T w next Q
def Eh:jv (w:=w) T next Q 0=pc P (fG sd) sd (T.get 4) w (λv=>next (T.put (some 20) v) w):=by kernel_rfl
def Ei:jv (w:=w) T next Q 1=next (T.put (some 21) (T.get 1)) w:=by kernel_rfl
def Ej:jv (w:=w) T next Q 2=Calls P q8 #[T.get 20,T.get 21,.func (.func uD) #[] #[]] w λe w'=>∃x:Sl,e=.returned (Sv x)/\next (T.put (some 22) (Sv x)) w':=by kernel_rfl
def Ek:jv (w:=w) T next Q 3=pc P (fG sd) sd (T.get 4) w (λv=>next (T.put (some 23) v) w):=by kernel_rfl
def El:jv (w:=w) T next Q 4=next (T.put (some 24) (T.get 1)) w:=by kernel_rfl
def Em:jv (w:=w) T next Q 5=Calls P q8 #[T.get 23,T.get 24,.func (.func uE) #[] #[]] w λe w'=>∃x:Sl,e=.returned (Sv x)/\next (T.put (some 25) (Sv x)) w':=by kernel_rfl
def Eo:jv (w:=w) T next Q 6=Al (.cells #[aN8] lT) (λq=>next (T.put (some 9) (.pointer (some q)))) w:=by kernel_rfl
def Ep:jv (w:=w) T next Q 7=Al (.cells #[aN8] lT) (λq=>next (T.put (some 10) (.pointer (some q)))) w:=by kernel_rfl
def Er:jv (w:=w) T next Q 8=rQ P (fG lT) lT (T.get 9) (T.get 22) w (λw'=>next T w'):=by kernel_rfl
def Es:jv (w:=w) T next Q 9=rQ P (fG lT) lT (T.get 10) (T.get 25) w (λw'=>next T w'):=by kernel_rfl
end
def QT(a:Addr)(f:bE->Prop):pc P (fG sd) sd (.pointer (some a)) w f=∃x:ch,w.cell? a=some (.pointer x)/\f (.pointer x):=by kernel_rfl
def QU(a:Addr)(s:Sl)(f:bf8):rQ P (fG lT) lT (.pointer (some a)) (Sv s) w f=St a (Sv s) f w:=by kernel_rfl
noncomputable def QV(i j:Nat):Bool:=match kH[i]? with
 |some o=>o.after.toList.any λe=>Region.binds .any e&&Nat.beq e.on j
 |none=>false
def PA(f:Bool)(v:bE)(l:bA Bool):Asn:=bif f then(fa λs:Sl=>cG (v=Sv s/\s.n=l.length) (bw s 1 (ea l)))else emp
def PB(f g:Bool)(v u:bE):Asn:=bif f then(fa λp:Nat=>cG (v=Pb p) (bC p [bif g then u else aN8]))else emp
structure JE(E:Env)(M:ct)(c bx:Nat)(t:Int)(mn lw:bA Bool)(b0 b1 b2 b3 b4 b5 b6 b7 b8 b9:Bool)(T:Tr)(w:bI):Prop where
 s1:T.get 1=Iv t
 s4:T.get 4=Pb bx
 QW:b0=true->T.get 20=Pb c
 QX:b1=true->T.get 21=Iv t
 QY:b3=true->T.get 23=Pb c
 QZ:b4=true->T.get 24=Iv t
 d8:b8=true->b2=true/\b6=true
 d9:b9=true->b5=true/\b7=true
 sep:Sep E (PA b2 (T.get 22) mn::PA b5 (T.get 25) lw::PB b6 b8 (T.get 9) (T.get 22)::PB b7 b9 (T.get 10) (T.get 25)::M) w
def aKk{M:ct}{c bx:Nat}{t:Int}{mn lw:bA Bool}{J:ch->ch->bf8}{aj:Exit->Tr->bf8}{T:Tr}(V:∀ {R:ct} {w:bI},Sep E (R++M) w->w.cell? ⟨bx,0,none⟩=some (Pb c))(ah:∀ {R:ct} {w:bI},Sep E (R++M) w->Calls P q8 #[Pb c,Iv t,.func (.func uD) #[] #[]] w (cz λv w'=>∃e:Sl,v=Sv e/\e.n=mn.length/\Sep E (bw e 1 (ea mn)::(R++M)) w'))(ag:∀ {R:ct} {w:bI},Sep E (R++M) w->Calls P q8 #[Pb c,Iv t,.func (.func uE) #[] #[]] w (cz λv w'=>∃e:Sl,v=Sv e/\e.n=lw.length/\Sep E (bw e 1 (ea lw)::(R++M)) w'))(h1:T.get 1=Iv t)(B:T.get 4=Pb bx)(h:Sep E M w)(k:∀(s1 s2:Sl) (p q:Nat) (w':bI),s1.n=mn.length->s2.n=lw.length->Sep E (bw s1 1 (ea mn)::bw s2 1 (ea lw)::bC p [Sv s1]::bC q [Sv s2]::M) w'->J (some ⟨p,0,none⟩) (some ⟨q,0,none⟩) w'):
  gS P fG gM cx vr kH (mP (nh [(9,.ptr),(10,.ptr)] J) aj) kH.size (Array.replicate kH.size false) T w:=by
 have g:∀(T:Tr) (d s:Nat) (v:bE),d<8000->(T.put (some d) v).get s=if s=d then v else T.get s:=λT d s v al=>Tr.dK _ _ _ _ al
 refine QS (λli T w=>li.size=10/\JE E M c bx t mn lw (li.getD 0 true) (li.getD 1 true) (li.getD 2 true) (li.getD 3 true) (li.getD 4 true) (li.getD 5 true) (li.getD 6 true) (li.getD 7 true) (li.getD 8 true) (li.getD 9 true) T w) ?_ ?_ _ _ _ _ (by simp) ?_ ?_
 ·rintro li T w i o f ⟨K,j⟩ F ho next hn
  obtain⟨I,x,H⟩:=yy F;rw[yA]at I;have W:yz i=o:=by unfold yz;rw[ho];rfl
  have am:o.guard=none:=by
   have:=fQ.1 aIK i (gn.2 I);rw[W]at this;exact SV.1 this
  have an:∀ {j:Nat},li.getD j false=true->li.getD j true=true:=by
   intro j h;rw[iU]at h ⊢;cases y:li[j]? with
   |some b=>rw[y]at h;simpa using h
   |none=>rfl
  have hw:∀j,QV i j=true->li.getD j true=true:=by
   intro j G;unfold QV at G;rw[ho]at G;obtain⟨e,he,hb⟩:=tA.1 G;rw[dy]at hb;have:=H o ho e he hb.1;rw[m9 hb.2]at this;exact an this
  have a:∀j,j<10->(li.setIfInBounds i true).getD j true=if j=i then true else li.getD j true:=by
   intro j G;rw[iU,iU];by_cases e:j=i;·subst e;rw[bK rfl,SQ bu];rfl
   ·rw[bJ e,SR (nd e)]
  unfold km;rw[am];dsimp only;have m:∀T' w',JE E M c bx t mn lw (if 0=i then true else li.getD 0 true) (if 1=i then true else li.getD 1 true) (if 2=i then true else li.getD 2 true) (if 3=i then true else li.getD 3 true) (if 4=i then true else li.getD 4 true)
    (if 5=i then true else li.getD 5 true) (if 6=i then true else li.getD 6 true) (if 7=i then true else li.getD 7 true) (if 8=i then true else li.getD 8 true) (if 9=i then true else li.getD 9 true) T' w'->next T' w':=by
   intro T' w' G;refine hn T' w' ⟨by simpa using K,?_⟩;rw[a 0 bN,a 1 bN,a 2 bN,a 3 bN,a 4 bN,a 5 bN,a 6 bN,a 7 bN,a 8 bN,a 9 bN];exact G
  clear hn a H F;subst W;generalize X:li.getD 0 true=b0 at*
  generalize Y:li.getD 1 true=b1 at*
  generalize O:li.getD 2 true=b2 at*
  generalize Z:li.getD 3 true=b3 at*
  generalize aa:li.getD 4 true=b4 at*
  generalize Q:li.getD 5 true=b5 at*
  generalize S:li.getD 6 true=b6 at*
  generalize U:li.getD 7 true=b7 at*
  generalize ab:li.getD 8 true=b8 at*
  generalize ad:li.getD 9 true=b9 at*
  obtain⟨s1,s4,QW,QX,QY,QZ,d8,d9,l⟩:=j
  match i,I with
  |0,_=>
   refine(Eh T next _).mpr ?_;rw[s4,QT];refine⟨_,V (R:=[_,_,_,_]) l,m _ _ ?_⟩;constructor<;>simp only[g _ _ _ _ (show(20:Nat)<8000 by decide),Nat.reduceEqDiff,o8,reduceCtorEq,g3,gR]<;>first|assumption|(intro _;rfl)|(intro _;trivial)|skip
  |1,_=>
   refine(Ei T next _).mpr ?_;rw[s1];refine m _ _ ?_;constructor<;>simp only[g _ _ _ _ (show(21:Nat)<8000 by decide),Nat.reduceEqDiff,o8,reduceCtorEq,g3,gR]<;>first|assumption|(intro _;rfl)|(intro _;trivial)|skip
  |2,_=>
   refine(Ej T next _).mpr ?_;have t0:b0=true:=X.symm.trans (hw 0 (by decide+kernel));have t1:b1=true:=Y.symm.trans (hw 1 (by decide+kernel));have f2:b2=false:=O.symm.trans x;rw[QW t0,QX t1];subst f2;have f8:b8=false:=by cases b8 with|false=>rfl|true=>exact absurd (d8 rfl).1 bN
   subst f8;refine use (ah (R:=[_,_,_,_]) l) ?_;rintro _ r ⟨e,rfl,he,h1⟩;refine⟨e,rfl,m _ _ ?_⟩;constructor<;>simp only[g _ _ _ _ (show(22:Nat)<8000 by decide),Nat.reduceEqDiff,o8,reduceCtorEq,g3,gR]<;>first|assumption|(intro C;cases C;done)|skip
   exact Sep.ex.2 ⟨e,Sep.cG.2 ⟨⟨rfl,he⟩,h1.ro 2 [0] rfl⟩⟩
  |3,_=>
   refine(Ek T next _).mpr ?_;rw[s4,QT];refine⟨_,V (R:=[_,_,_,_]) l,m _ _ ?_⟩;constructor<;>simp only[g _ _ _ _ (show(23:Nat)<8000 by decide),Nat.reduceEqDiff,o8,reduceCtorEq,g3,gR]<;>first|assumption|(intro _;rfl)|(intro _;trivial)|skip
  |4,_=>
   refine(El T next _).mpr ?_;rw[s1];refine m _ _ ?_;constructor<;>simp only[g _ _ _ _ (show(24:Nat)<8000 by decide),Nat.reduceEqDiff,o8,reduceCtorEq,g3,gR]<;>first|assumption|(intro _;rfl)|(intro _;trivial)|skip
  |5,_=>
   refine(Em T next _).mpr ?_;have t3:b3=true:=Z.symm.trans (hw 3 (by decide+kernel));have t4:b4=true:=aa.symm.trans (hw 4 (by decide+kernel));have f5:b5=false:=Q.symm.trans x;rw[QY t3,QZ t4];subst f5;have f9:b9=false:=by cases b9 with|false=>rfl|true=>exact absurd (d9 rfl).1 bN
   subst f9;refine use (ag (R:=[_,_,_,_]) l) ?_;rintro _ r ⟨e,rfl,he,h1⟩;refine⟨e,rfl,m _ _ ?_⟩;constructor<;>simp only[g _ _ _ _ (show(25:Nat)<8000 by decide),Nat.reduceEqDiff,o8,reduceCtorEq,g3,gR]<;>first|assumption|(intro C;cases C;done)|skip
   exact Sep.swap (Sep.ex.2 ⟨e,Sep.cG.2 ⟨⟨rfl,he⟩,h1.ro 3 [0,1] rfl⟩⟩)
  |6,_=>
   refine(Eo T next _).mpr ?_;have f6:b6=false:=S.symm.trans x;subst f6;have f8:b8=false:=by cases b8 with|false=>rfl|true=>exact absurd (d8 rfl).2 bN
   subst f8;refine Al.i l (λp r h1=>m _ _ ?_);constructor<;>simp only[g _ _ _ _ (show(9:Nat)<8000 by decide),Nat.reduceEqDiff,o8,reduceCtorEq,g3,gR]<;>first|assumption|(intro C;cases C;done)|skip
   have h2:Sep E (PB true false (Pb p) (T.get 22)::PA b2 (T.get 22) mn::PA b5 (T.get 25) lw::PB b7 b9 (T.get 10) (T.get 25)::M) r:=Sep.ex.2 ⟨p,Sep.cG.2 ⟨rfl,h1.ro 4 [0,1,2] rfl⟩⟩;exact h2.ro 3 [1,2,0] rfl
  |7,_=>
   refine(Ep T next _).mpr ?_;have f7:b7=false:=U.symm.trans x;subst f7;have f9:b9=false:=by cases b9 with|false=>rfl|true=>exact absurd (d9 rfl).2 bN
   subst f9;refine Al.i l (λp r h1=>m _ _ ?_);constructor<;>simp only[g _ _ _ _ (show(10:Nat)<8000 by decide),Nat.reduceEqDiff,o8,reduceCtorEq,g3,gR]<;>first|assumption|(intro C;cases C;done)|skip
   have h2:Sep E (PB true false (Pb p) (T.get 25)::PA b2 (T.get 22) mn::PA b5 (T.get 25) lw::PB b6 b8 (T.get 9) (T.get 22)::M) r:=Sep.ex.2 ⟨p,Sep.cG.2 ⟨rfl,h1.ro 5 [0,1,2,3] rfl⟩⟩;exact h2.ro 4 [1,2,3,0] rfl
  |8,_=>
   refine(Er T next _).mpr ?_;have t2:b2=true:=O.symm.trans (hw 2 (by decide+kernel));have t6:b6=true:=S.symm.trans (hw 6 (by decide+kernel));have f8:b8=false:=ab.symm.trans x;subst t2 t6 f8;obtain⟨s,f⟩:=Sep.ex.1 l;obtain⟨⟨z,L⟩,f⟩:=Sep.cG.1 f;have f:Sep E (PB true false (T.get 9) (T.get 22)::bw s 1 (ea mn)::PA b5 (T.get 25) lw::PB b7 b9 (T.get 10) (T.get 25)::M) w:=f.fr 2 rfl;obtain⟨p,f⟩:=Sep.ex.1 f;obtain⟨N,f⟩:=Sep.cG.1 f;rw[N,z,QU];refine St.i f (by simp) (λr h1=>m _ _ ?_);have h1:Sep E (bC p [Sv s]::bw s 1 (ea mn)::PA b5 (T.get 25) lw::PB b7 b9 (T.get 10) (T.get 25)::M) r:=h1;rw[<- z]at h1;have h2:Sep E (PB true true (T.get 9) (T.get 22)::bw s 1 (ea mn)::PA b5 (T.get 25) lw::PB b7 b9 (T.get 10) (T.get 25)::M) r:=Sep.ex.2 ⟨p,Sep.cG.2 ⟨N,h1⟩⟩;have y:Sep E (PA true (T.get 22) mn::PB true true (T.get 9) (T.get 22)::PA b5 (T.get 25) lw::PB b7 b9 (T.get 10) (T.get 25)::M) r:=Sep.ex.2 ⟨s,Sep.cG.2 ⟨⟨z,L⟩,h2.swap⟩⟩;constructor<;>(try simp only[Nat.reduceEqDiff,o8,reduceCtorEq,g3,gR])<;>first|assumption|(intro _;exact⟨trivial,trivial⟩)|skip
   exact y.ro 3 [0,2,1] rfl
  |9,_=>
   refine(Es T next _).mpr ?_;have t5:b5=true:=Q.symm.trans (hw 5 (by decide+kernel));have t7:b7=true:=U.symm.trans (hw 7 (by decide+kernel));have f9:b9=false:=ad.symm.trans x;subst t5 t7 f9;have ai:Sep E (PA true (T.get 25) lw::PA b2 (T.get 22) mn::PB b6 b8 (T.get 9) (T.get 22)::PB true false (T.get 10) (T.get 25)::M) w:=l.swap;obtain⟨s,f⟩:=Sep.ex.1 ai;obtain⟨⟨A,L⟩,f⟩:=Sep.cG.1 f;have f:Sep E (PB true false (T.get 10) (T.get 25)::bw s 1 (ea lw)::PA b2 (T.get 22) mn::PB b6 b8 (T.get 9) (T.get 22)::M) w:=f.fr 3 rfl;obtain⟨p,f⟩:=Sep.ex.1 f;obtain⟨D,f⟩:=Sep.cG.1 f;rw[D,A,QU];refine St.i f (by simp) (λr h1=>m _ _ ?_);have h1:Sep E (bC p [Sv s]::bw s 1 (ea lw)::PA b2 (T.get 22) mn::PB b6 b8 (T.get 9) (T.get 22)::M) r:=h1;rw[<- A]at h1;have h2:Sep E (PB true true (T.get 10) (T.get 25)::bw s 1 (ea lw)::PA b2 (T.get 22) mn::PB b6 b8 (T.get 9) (T.get 22)::M) r:=Sep.ex.2 ⟨p,Sep.cG.2 ⟨D,h1⟩⟩;have y:Sep E (PA true (T.get 25) lw::PB true true (T.get 10) (T.get 25)::PA b2 (T.get 22) mn::PB b6 b8 (T.get 9) (T.get 22)::M) r:=Sep.ex.2 ⟨s,Sep.cG.2 ⟨⟨A,L⟩,h2.swap⟩⟩;constructor<;>(try simp only[Nat.reduceEqDiff,o8,reduceCtorEq,g3,gR])<;>first|assumption|(intro _;exact⟨trivial,trivial⟩)|skip
   exact y.ro 4 [2,0,3,1] rfl
  |n+10,F=>exact absurd F bu
 ·rintro li T w ⟨K,j⟩ hr;have u:=QQ aJi hr;rw[yA]at u;rw[u 0 bN,u 1 bN,u 2 bN,u 3 bN,u 4 bN,u 5 bN,u 6 bN,u 7 bN,u 8 bN,u 9 bN]at j;have ak:=j.sep;obtain⟨s1,h1⟩:=Sep.ex.1 ak;obtain⟨⟨z,ae⟩,h1⟩:=Sep.cG.1 h1;obtain⟨s2,h2⟩:=Sep.ex.1 h1.swap;obtain⟨⟨A,af⟩,h2⟩:=Sep.cG.1 h2;obtain⟨p,y⟩:=Sep.ex.1 (h2.fr 2 rfl);obtain⟨N,y⟩:=Sep.cG.1 y;obtain⟨q,B⟩:=Sep.ex.1 (y.fr 3 rfl);obtain⟨D,B⟩:=Sep.cG.1 B;have B:Sep E (bC q [T.get 25]::bC p [T.get 22]::bw s2 1 (ea lw)::bw s1 1 (ea mn)::M) w:=B;rw[z,A]at B;show nh [(9,.ptr),(10,.ptr)] J T w;simp only[nh,N,D,C1.un];exact k s1 s2 p q w ae af (B.ro 4 [3,2,1,0] rfl)
 ·unfold mC;exact mK (l2 _ _) (by rw[F8];exact ek _)
 ·have no:∀i,i<10->(Array.replicate kH.size false).getD i true=false:=by
   intro i F;rw[iU,SW,bK (by rw[yA];exact F)];rfl
  refine⟨by rw[Array.size_replicate,yA],?_⟩;rw[no 0 bN,no 1 bN,no 2 bN,no 3 bN,no 4 bN,no 5 bN,no 6 bN,no 7 bN,no 8 bN,no 9 bN];exact⟨h1,B,λh=>(by cases h),λh=>(by cases h),λh=>(by cases h),λh=>(by cases h),λh=>(by cases h),λh=>(by cases h),Sep.emp.2 (Sep.emp.2 (Sep.emp.2 (Sep.emp.2 h)))⟩
end Go.Mp
namespace Go.Mp.Gp
open Go Go.Vc Go.Sp Go.Proofs Go.Shelf Go.Stab Go.Kc Go.Mp
variable{E:Env}{L:ct}{w:bI}{R:bA dw}{l:Nat}
def DB{s:Sl}{gs:bS}(a:Ints E L s gs)(hb:gs.length<4611686018427387904)(v:Int)(h:Sep E L w):Calls P py #[Sv s,Iv v] w (cW E (.bool (gs.contains v)) L):=by
 apply C0;unfold xZ qQ;have d:Calls P uK #[Sv s,Iv v] w (cz λr w'=>∃i:Int,r=Iv i/\(decide (i≥0)=gs.contains v)/\Sep E L w'):=by
  apply C6;unfold x0 qD qO qW;refine⟨λi w=>∃k:Nat,i=k/\k<=gs.length/\(∀j,j<k->gs[j]? ≠some v)/\Sep E L w,λi _=>(gs.length-i).toNat,⟨0,rfl,fj _,λj b=>absurd b (Nat.not_lt_zero _),h⟩,?_⟩;rintro _ i n ⟨k,rfl,hk,c,h1⟩;have q:=a.1;rw[a.1];refine cU (λp=>?_) (λo=>⟨-1,rfl,?_,h1⟩)
  ·have hx:gs[k]?=some (gs[k]'bu):=dP;generalize gs[k]'(bu)=x at hx;rw[<- a.1];refine a.el h1 k rfl hx (eQ (λe=>⟨_,rfl,?_,h1⟩) (λg=>?_))
   ·have:v∈gs:=by rw[e];exact eI hx
    rw[kZ.2 this];simp
   ·rw[cP bu bu];refine⟨⟨k+1,bu,bu,λj b=>?_,h1⟩,by dsimp only;omega⟩;by_cases f:j=k;·subst f;rw[hx];intro e;exact g (cR e).symm
    ·exact c j bu
  ·have:¬ v∈gs:=by
    intro hm;obtain⟨j,b,e⟩:=je.1 hm;exact c j bu (by rw[dO b,e])
   have h2:gs.contains v=false:=by rw[tx];intro l;exact this (kZ.1 l)
   rw[h2];rfl
 refine use d ?_;rintro _ n ⟨i,rfl,m,h1⟩;exact⟨_,rfl,by rw[m],h1⟩
def kI(R:bA dw)(k:Int):Int:=(fc R k).elim 0 (·.dt)
def td(R:bA dw)(a b:Int):Prop:=kI R b<kI R a\/(kI R a=kI R b/\a<b)
def Et(R:bA dw)(a b:Int):Bool:=decide (kI R b<kI R a)
def yB(R:bA dw):lr (td R) (· < ·) (Et R):=by
 refine⟨⟨λx y z h1 h2=>?_,λx h=>?_,λx y h=>?_⟩,λx y h=>bu,λx y h=>?_⟩;·unfold td at *;omega
 ·unfold td at h;omega
 ·unfold td;omega
 ·unfold Et td;rw[decide_eq_true_iff];constructor;·exact .inl
  ·rintro(h1|⟨h1,h2⟩);·exact h1
   ·exact absurd h2 (by have:x<y:=h;omega)
def Q0(x:Int)(w:bI):Calls P CD #[Iv x] w (cz λv w'=>v=.bool false/\w'=w):=by
 apply XT;exact⟨by simp,rfl⟩
def aEt(x y:Int)(w:bI):Calls P Jh #[Iv x,Iv y] w (cz λv w'=>∃r:Int,v=Iv r/\decide (r<0)=decide (x<y)/\w'=w):=by
 apply XI;unfold L6 qF;refine use (Q0 x w) ?_;rintro _ _ ⟨rfl,rfl⟩;refine⟨_,rfl,use (Q0 y _) ?_⟩;rintro _ _ ⟨rfl,rfl⟩;refine⟨_,rfl,dH (dH (cU (λh=>⟨-1,rfl,by simp[h],rfl⟩) (λh=>fZ (λh2=>⟨1,rfl,?_,rfl⟩) (λh2=>⟨0,rfl,?_,rfl⟩))))⟩;·rw[dg (show ¬ x<y by omega)];rfl
 ·rw[dg (show ¬ x<y by omega)];rfl
structure kJ(R:bA dw)(gs:bS)(o:bS):Prop where
 ord:o.Pairwise (td R)
 mem:∀k,k∈o↔∃e,fc R k=some e/\e.group∈gs
def Eu{α:Type}{r:α->α->Prop}(c:∀x,¬ r x x)(g:∀x y z,r x y->r y z->r x z):∀ {a b:bA α},a.Pairwise r->b.Pairwise r->(∀k,k∈a↔k∈b)->a=b
 |[],[],_,_,_=>rfl
 |[],y::b,_,_,h=>by have:=(h y).2 (by simp);cases this
 |x::a,[],_,_,h=>by have:=(h x).1 (by simp);cases this
 |x::a,y::b,j,hb,h=>by
  have d:=g7.1 j;have f:=g7.1 hb;have i:x=y:=by
   rcases ew.1 ((h x).1 (by simp))with e|e;·exact e
   ·rcases ew.1 ((h y).2 (by simp))with e' | e';·exact e'.symm
    ·exact absurd (g _ _ _ (f.1 x e) (d.1 y e')) (c _)
  subst i;rw[Eu c g d.2 f.2 (λk=>⟨λhk=>?_,λhk=>?_⟩)]
  ·rcases ew.1 ((h k).1 (fY _ hk))with e|e;·rw[e]at hk;exact absurd (d.1 _ hk) (c _)
   ·exact e
  ·rcases ew.1 ((h k).2 (fY _ hk))with e|e;·rw[e]at hk;exact absurd (f.1 _ hk) (c _)
   ·exact e
def kJ.eq{gs o o':bS}(h:kJ R gs o)(h':kJ R gs o'):o=o':=
 Eu (yB R).ord.uh (yB R).ord.trans h.ord h'.ord (λk=>by rw[h.mem,h'.mem])
def aIe(G:Kc.Good R){s:Sl}{gs:bS}(T:Ints E L s gs)(hb:gs.length<4611686018427387904)(h:Sep E (fl l R::L) w):
  Calls P IZ #[Pb l,Sv s] w (cz λv w'=>∃(t:Sl) (o:bS),v=Sv t/\t.n=o.length/\kJ R gs o/\Sep E (bw t 1 (bD o)::fl l R::L) w'):=by
 apply W3;unfold Lt qE qJ qM qN qb;refine Al.i h (λp W h1=>Al.i h1 (λB w2 h2=>?_));have h2:Sep E (bC B [Sv s]::bC p [Pb l]::fl l R::L) w2:=h2;refine ld h2 1 rfl rfl rfl ⟨_,rfl,?_⟩;obtain⟨m,A⟩:=fl.open (h2.fr 2 rfl);have A:Sep E (cE m encI (gm R)::bC l [.map (some m)]::bC B [Sv s]::bC p [Pb l]::L) w2:=A.ro 4 [1,0,2,3] rfl;refine ld A 1 rfl rfl rfl (azg (N:=16777217) A (q:=0) rfl (λk v hk=>?_) bN (λt ks X hn j S=>?_))
 ·unfold gm at hk;cases hf:fc R k with
  |none=>rw[hf]at hk;cases hk
  |some e=>
   obtain⟨h1,h2⟩:=(kP G.cX).1 hf;have:=(G.ok e h1).1;omega
 have n:∀k,k∈ks↔(fc R k).isSome=true:=λk=>by
  rw[j.mem];unfold gm;cases fc R k<;>rfl
 have U:ks.length<=16777217:=by
  refine sH 16777217 ks (og.2 (j.cX.imp (λV he=>bu))) (λx hx=>?_);obtain⟨e,he⟩:=kX.1 ((n x).1 hx);obtain⟨h1,h2⟩:=(kP G.cX).1 he;have:=(G.ok e h1).1;omega
 obtain⟨M,g⟩:∃M,M=cE m encI (gm R)::bC l [.map (some m)]::bC B [Sv s]::bC p [Pb l]::L:=⟨_,rfl⟩
 have O:Ints E M s gs:=by rw[g];exact T.cons.cons.cons.cons
 let q:Int->Bool:=λid=> !(gs.contains ((fc R id).elim 0 (·.group)));refine use (PI (L:=M) (q:=q) ?_ hn bu (by rw[g];exact S)) ?_
 ·intro r _ x J _ C;refine⟨Je,_,rfl,by kernel_rfl,?_⟩;refine use (K:=λv w'=>v=.bool (q x)/\Sep E (bw t 1 (bD r)::M) w') (XF x ⟨B,0,none⟩ ⟨p,0,none⟩ ?_) (λv w' ⟨H,F⟩=>⟨by rw[H],F⟩);unfold L3 qF qM qb qc;refine Dr.i C (λZ c=>?_);have b:=c;rw[g]at b;refine ld (x:=s) b 3 rfl rfl rfl (ld b 4 rfl rfl rfl ⟨_,rfl,ld b 2 rfl rfl rfl ⟨_,_,Ec (i:=1) b rfl x,use (DB O.cons hb _ c) ?_⟩⟩);rintro _ Q ⟨rfl,f⟩;exact⟨_,rfl,rfl,f⟩
 rintro _ Y ⟨u,rfl,hu,C⟩;have hlen:(ks.filter λx=> !q x).length<=ks.length:=l2 _ _;refine⟨u,rfl,use (DT (yB R) (j.cX.filter _) hu bu ?_ C) ?_⟩
 ·intro r x y J _ c;refine⟨Jg,_,rfl,by kernel_rfl,?_⟩;refine use (K:=λv w'=>∃z:Int,v=Iv z/\decide (z<0)=Et R x y/\Sep E (bw u 1 (bD r)::M) w') (XH x y ⟨p,0,none⟩ ?_) (λv w' ⟨z,H,I,F⟩=>⟨z,by rw[H],I,F⟩);unfold L5 qM qQ qb;refine Dr.i c (λQ f=>?_);have a:=f;rw[g]at a;refine ld a 4 rfl rfl rfl ⟨_,rfl,ld a 2 rfl rfl rfl ⟨_,_,Ec (i:=1) a rfl y,?_⟩⟩;refine ld a 4 rfl rfl rfl ⟨_,rfl,ld a 2 rfl rfl rfl ⟨_,_,Ec (i:=1) a rfl x,use (aEt _ _ Q) ?_⟩⟩;rintro _ _ ⟨z,rfl,I,rfl⟩;exact⟨_,rfl,z,rfl,I,f⟩
 ·rintro _ J ⟨rfl,o,d,D,c⟩;refine⟨rfl,u,o,rfl,by rw[hu,d.length_eq],⟨D,λk=>?_⟩,?_⟩
  ·rw[d.mem_iff,gG,n];cases hf:fc R k with
   |none=>simp
   |some e=>simp[q,hf]
  ·rw[g]at c;have f:Sep E (bC l [.map (some m)]::cE m encI (gm R)::bw u 1 (bD o)::L) J:=c.ro 5 [2,1,0] rfl;exact(fl.shut f).swap
end Go.Mp.Gp
namespace Go.Kc
open Go Go.Kt
def Q1{R:bA dw}(G:Good R)(gs:bS):Go.Mp.Gp.kJ R gs (jm R gs):=by
 have c:∀e∈R,Go.Mp.Gp.kI R e.id=e.dt:=λe he=>by
  unfold Go.Mp.Gp.kI;rw[(kP G.cX).2 ⟨he,rfl⟩];rfl
 refine⟨?_,λk=>⟨λhk=>?_,?_⟩⟩
 ·unfold jm;rw[List.pairwise_flatMap];refine⟨λa _=>?_,?_⟩
  ·rw[kL];refine FL (λ{x y} hx d j=>?_) (G.cX.filter _);rw[gG,dy]at hx d;have h1:x.dt=a:=by simpa using hx.2.2
   have h2:y.dt=a:=by simpa using d.2.2
   right;rw[c x hx.1,c y d.1];exact⟨by rw[h1,h2],j⟩
  ·have h:([3,2,1,0]:bS).Pairwise (λa b=>b<a):=by decide
   refine h.imp (λ{a b} i x hx y d=>?_);obtain⟨e,he,rfl⟩:=fA.1 hx;obtain⟨f,hf,rfl⟩:=fA.1 d;rw[gG,dy]at he hf;have h1:e.dt=a:=by simpa using he.2.2
   have h2:f.dt=b:=by simpa using hf.2.2
   left;rw[c e he.1,c f hf.1,h1,h2];exact i
 ·obtain⟨e,he,rfl,g⟩:=wX hk;exact⟨e,(kP G.cX).2 ⟨he,rfl⟩,g⟩
 ·rintro⟨e,he,g⟩;obtain⟨h1,rfl⟩:=(kP G.cX).1 he;have h2:=(G.ok e h1).2.2;unfold jm;refine y3.2 ⟨e.dt,?_,fA.2 ⟨e,gG.2 ⟨h1,by simpa using g⟩,rfl⟩⟩;have:e.dt=0\/e.dt=1\/e.dt=2\/e.dt=3:=by omega
  rcases this with h|h|h|h<;>simp[h]
variable{S:Cs}
def Inv0.jW(h:Inv0 S)(g:Int):S.memory g<2147483648:=by
 unfold Cs.memory;by_cases b:0<=g/\g<64
 ·rw[h.fr.use g b.1 b.2];have h1:jn S.bt 1 (below S.tree g)<=jn S.bt 1 (λ_=>true):=by
   unfold jn;refine Uu (λi _ c=>?_);unfold m0 at c ⊢;revert c;cases S.bt.pg (i:Int)with
   |none=>exact id
   |some p=>simp only[pB,dy,Bool.and_true];exact λh=>h.1
  rw[<- h.fr.all]at h1;have h2:=List.count_le_length (a:=true) (l:=S.fr.bY);have d:=h.fr.fk;omega
 ·have:fU g=false:=by unfold fU;rw[Bool.and_eq_false_iff];simp;omega
  unfold cT hy;rw[this];show(0:Int)<2147483648;decide
end Go.Kc
namespace Go.Mp
open Go Go.Vc Go.Sp Go.Proofs Go.Kc
variable{E:Env}{L:ct}{w:bI}{A:At}{S:Cs}
def Q2{y:bE}{hB:Int->Bool}{o:bS}{a:Sl}{f d:Nat}(hw:Kt.WF S.tree)(G:Kc.Good S.bP)(u:a.n=o.length)(hb:o.length<100000000)(B:∀(x:Int) (X:Asn) (w:bI),(∃id∈o,x=(S.bt.get id).1.owner)->Sep E (cd A S++X::bC f [Sv a]::bw a 1 (bD o)::bC d [Pb A.c]::L) w->
   e1 P y #[Iv x] w λe w'=>e=.returned (.bool (hB x))/\Sep E (cd A S++X::bC f [Sv a]::bw a 1 (bD o)::bC d [Pb A.c]::L) w')(h:Sep E (cd A S++bC f [Sv a]::bw a 1 (bD o)::bC d [Pb A.c]::L) w):
  Calls P Cb #[y,Pb f,Pb d] w (cz λv w'=>v=.bool (pass hB o S).2/\
   Sep E (cd A (pass hB o S).1++bC f [Sv a]::bw a 1 (bD o)::bC d [Pb A.c]::L) w'):=by
 apply W4;unfold aig qD qF qL qO qU qV qW qX qZ qb qc;refine⟨a,h.cellAt 16 rfl 0,?_⟩;refine⟨λx w'=>∃k:Nat,x=k/\k<=o.length/\pass hB o S=pass hB (o.drop k) S/\Sep E (cd A S++bC f [Sv a]::bw a 1 (bD o)::bC d [Pb A.c]::L) w',λx _=>(o.length-x).toNat,⟨0,rfl,fj _,rfl,h⟩,?_⟩;rintro _ _ H ⟨k,rfl,hk,hp,h1⟩;refine cU (λF=>?_) (λD=>?_)
 ·have g:k<o.length:=by omega
  obtain⟨id,eS⟩:∃id,o[k]?=some id:=⟨_,dO g⟩
  have n:o.drop k=id::o.drop (k+1):=by rw[lG g];rw[dO g]at eS;rw[cR eS]
  have j:(((o.length:Nat):Int)-((k+1:Nat):Int)).toNat<(((o.length:Nat):Int)-(k:Int)).toNat:=by omega
  refine(Ints.at_ (q:=17) rfl u).el h1 k rfl eS ?_;refine ld h1 18 rfl rfl rfl ⟨_,rfl,ld h1 0 rfl rfl rfl (use (Tp.oT id (h1.fr 11 rfl)) ?_)⟩;rintro _ w2 ⟨rfl,h2⟩;have h2:=h2.put (q:=11) rfl;have h2:Sep E (cd A S++bC f [Sv a]::bw a 1 (bD o)::bC d [Pb A.c]::L) w2:=h2;obtain⟨p,i⟩:∃p,(S.bt.get id).1=p:=⟨_,rfl⟩
  rw[i];refine⟨_,_,_,_,_,_,_,_,_,_,rfl,Al.i h2 (λb I z=>et (vs:=p.vs) _ z rfl (λC m=>?_))⟩;have m:Sep E (cd A S++bC b p.vs::bC f [Sv a]::bw a 1 (bD o)::bC d [Pb A.c]::L) C:=Sep.e9 m;refine ld m 16 rfl rfl rfl (e1.use (B p.owner _ _ ⟨id,eI eS,by rw[i]⟩ m) ?_);rintro e J ⟨rfl,r⟩;refine⟨_,rfl,cv (λl=>?_) (λc=>?_)⟩
  ·have l:hB p.owner=false:=by simpa using l
   refine ld r 19 rfl rfl rfl (use (aKh id hw G r) ?_);rintro _ K ⟨rfl,s⟩;have t:pass hB (o.drop k) S=if(S.out id).2 then((S.out id).1,true)else pass hB (o.drop (k+1)) (S.out id).1:=by
    rw[n,pass,i,l];rfl
   refine⟨_,rfl,cv (λho=>?_) (λho=>?_)⟩
   ·rw[hp,t,bK ho];exact⟨rfl,s.cut⟩
   ·rw[dc];rw[r7 ho]at s;exact⟨⟨k+1,rfl,g,by rw[hp,t,bJ (by rw[ho];decide),r7 ho],s.cut⟩,j⟩
  ·have c:hB p.owner=true:=by simpa using c
   rw[dc];refine⟨⟨k+1,rfl,g,?_,r.cut⟩,j⟩;rw[hp,n,pass,i,c];rfl
 ·have:k=o.length:=by omega
  rw[this,wc]at hp;rw[hp];exact⟨rfl,h1⟩
end Go.Mp
namespace Go.Sp
open Go
variable{E:Env}{L Q:ct}{w:bI}
def Sep.vt(a:ct)(h:Sep E (a++(Q++L)) w):Sep E (Q++(a++L)) w:=h.perm (by
 rw[<- dj,<- dj];exact rE _ l1)
end Go.Sp
namespace Go.Mp
open Go Go.Vc Go.Sp Go.Proofs Go.Kc
variable{E:Env}{L:ct}{w:bI}{A:At}{S:Cs}
def Ev{l:bA Kt.G}{g:Int}(h:Kt.ds l g=true):0<=g/\g<l.length:=by
 obtain⟨n,rfl,x,hx,_⟩:=Kt.iW.1 h;have:=(cZ.1 hx).1;omega
def Q3(j:Inv S){t:Int}{all:Bool}{sg:Sl}{gs:bS}(ai:Ints E L sg gs)(al:gs.length<=64)(h:Sep E (cd A S++L) w):
  Calls P xC #[Pb A.c,Iv t,Sv sg,.bool all] w (cW E (.bool (S.cM t gs all).2) (cd A (S.cM t gs all).1++L)):=by
 have C:S.guards.length<=64:=by rw[j.gl];exact j.wf.fk
 apply arM;refine Al.i h (λf aj h1=>?_);have h1:Sep E (cd A S++bC f [Pb A.c]::L) aj:=Sep.e9 h1;refine⟨some ⟨A.c,0,none⟩,h1.cellAt 16 rfl 0,_,rfl,ld h1 0 rfl rfl rfl (use (kC h1 (q:=1) rfl) ?_)⟩;rintro _ _ ⟨rfl,rfl⟩;refine⟨_,rfl,cv (λW=>?_) (λhl=>?_)⟩
 ·have W:S.live t=false:=by
   have:Kt.ds S.tree t=false:=by simpa using W
   exact this
  have e:S.cM t gs all=(S,false):=by unfold Cs.cM;rw[bK W]
  rw[e];exact⟨rfl,h1.cut⟩
 have hl:S.live t=true:=by
  have:Kt.ds S.tree t=true:=by simpa using hl
  exact this
 obtain⟨mn,F⟩:∃mn,S.held t eD.min=mn:=⟨_,rfl⟩
 obtain⟨lw,D⟩:∃lw,S.held t eD.low=lw:=⟨_,rfl⟩
 have an:mn.length=S.guards.length:=by rw[<- F];exact vp _ _
 have am:lw.length=S.guards.length:=by rw[<- D];exact vp _ _
 obtain⟨M,B⟩:∃M,M=cd A S++bC f [Pb A.c]::L:=⟨_,rfl⟩
 refine⟨λa b w'=>∃(s1 s2:Sl) (p q:Nat),a=some ⟨p,0,none⟩/\b=some ⟨q,0,none⟩/\s1.n=mn.length/\s2.n=lw.length/\
  Sep E (bw s1 1 (ea mn)::bw s2 1 (ea lw)::bC p [Sv s1]::bC q [Sv s2]::M) w',Dr.i h1 (λw2 h2=>?_),?_⟩
 ·have G:∀ {R:ct} {w:bI},Sep E (R++M) w->Sep E (cd A S++(bC f [Pb A.c]::L++R)) w:=by
   intro R w d;have:=d.perm l1;rw[B,dj]at this;exact this
  have n:∀ {R:ct} {w:bI} {X:Asn},Sep E (cd A S++X::(bC f [Pb A.c]::L++R)) w->Sep E (X::(R++M)) w:=by
   intro R w X d;refine(Sep.mB d).perm (List.Perm.cons _ ?_);rw[<- dj,<- B];exact l1
  refine aKk (M:=M) (c:=A.c) (bx:=f) (t:=t) (mn:=mn) (lw:=lw) ?_ ?_ ?_ cS cS (by rw[B];exact h2) ?_
  ·intro R w d;have:=d.right;rw[B]at this;exact this.cellAt 16 rfl 0
  ·intro R w d;refine use (yw QM j.gl C j.jW (G d)) ?_;rintro _ w' ⟨e,rfl,he,k⟩;rw[F]at he k;exact⟨_,rfl,e,rfl,he,n k⟩
  ·intro R w d;refine use (yw QN j.gl C j.jW (G d)) ?_;rintro _ w' ⟨e,rfl,he,k⟩;rw[D]at he k;exact⟨_,rfl,e,rfl,he,n k⟩
  ·intro s1 s2 p q w' af ag d;exact⟨s1,s2,p,q,rfl,rfl,af,ag,d⟩
 rintro _ _ _ w2 ⟨s1,s2,p,q,rfl,rfl,O,ad,h2⟩;rw[B]at h2;have h2:=Sep.vt [bw s1 1 (ea mn),bw s2 1 (ea lw),bC p [Sv s1],bC q [Sv s2]] (Q:=cd A S) h2;have h2:Sep E (cd A S++bw s1 1 (ea mn)::bw s2 1 (ea lw)::bC p [Sv s1]::bC q [Sv s2]::bC f [Pb A.c]::L) w2:=h2;refine⟨_,h2.cellAt 20 rfl 0,_,rfl,ld h2 0 rfl rfl rfl (use (Gp.aIe j.ep (ai.cons.cons.cons.cons.cons.er (A:=A) (S:=S) (q:=9) bN) bu (h2.fr 9 rfl)) ?_)⟩;rintro _ ao ⟨i,o,rfl,U,ho,V⟩;have ho:=ho.eq (Q1 j.ep gs);subst ho;have V:=V.ir (q:=9) rfl;refine⟨i,rfl,Al.i V (λy ap ah=>St.i ah (by simp) (λak z=>?_))⟩;have z:=Sep.vt [bC y [Sv i],bw i 1 (bD (jm S.bP gs))] (Q:=cd A S) (L:=bw s1 1 (ea mn)::bw s2 1 (ea lw)::bC p [Sv s1]::bC q [Sv s2]::bC f [Pb A.c]::L) z;have z:Sep E (cd A S++bC y [Sv i]::bw i 1 (bD (jm S.bP gs))::bC f [Pb A.c]::bw s1 1 (ea mn)::bw s2 1 (ea lw)::bC p [Sv s1]::bC q [Sv s2]::L) ak:=
  z.ro 23 [0,1,2,3,4,5,6,7,8,9,10,11,12,13,14,15,16,17,22,18,19,20,21] rfl
 have hx:∀x:Int,(∃id∈jm S.bP gs,x=(S.bt.get id).1.owner)->0<=x/\x<S.guards.length:=by
  rintro x ⟨id,eS,rfl⟩;obtain⟨pg,N,_,_⟩:=j.jS eS;have Y:=j.own id pg N;have:=Ev (show Kt.ds S.tree pg.owner=true from Y);rw[j.toInv0.bL N,j.gl];exact this
 have J:(jm S.bP gs).length<100000000:=by
  have u:=Q1 j.ep gs;have aa:=sH 16777217 (jm S.bP gs) (og.2 (u.ord.imp (λ{a b} ab e=>by subst e;exact(Gp.yB S.bP).ord.uh a ab))) (λx hx=>by
   obtain⟨e,he,rfl,_⟩:=wX hx;have:=(j.ep.ok e he).1;omega)
  omega
 have l:∀ {T:Cs} {w:bI},Sep E (cd A T++bC y [Sv i]::bw i 1 (bD (jm S.bP gs))::bC f [Pb A.c]::bw s1 1 (ea mn)::bw s2 1 (ea lw)::bC p [Sv s1]::bC q [Sv s2]::L) w->Sep E (cd A T++L) w:=
  λd=>d.cut.cut.cut.cut.cut.cut.cut
 refine use (Q2 (hB:=λg=>hA mn g||hA lw g) j.wf j.ep U J ?_ z) ?_
 ·intro x X w' H d;obtain⟨s,ae⟩:=hx x H;refine⟨I1,_,rfl,by kernel_rfl,?_⟩;refine use (K:=λv w'=>v=.bool (hA mn x||hA lw x)/\Sep E (cd A S++X::bC y [Sv i]::bw i 1 (bD (jm S.bP gs))::bC f [Pb A.c]::bw s1 1 (ea mn)::bw s2 1 (ea lw)::bC p [Sv s1]::bC q [Sv s2]::L) w')
   (W6 x ⟨p,0,none⟩ ⟨q,0,none⟩ ?_) (λv w' ⟨Z,d⟩=>⟨by rw[Z],d⟩)
  refine⟨s1,d.cellAt 22 rfl 0,vo 20 d rfl O s bu (cv (λhb=>⟨by rw[hb];rfl,d⟩) (λhb=>⟨s2,d.cellAt 23 rfl 0,vo 21 d rfl ad s bu ⟨by rw[hb];rfl,d⟩⟩))⟩
 rintro _ aq ⟨rfl,u⟩;have I:S.cM t gs all=if(pass (λg=>hA mn g||hA lw g) (jm S.bP gs) S).2 then((pass (λg=>hA mn g||hA lw g) (jm S.bP gs) S).1,true)else if all then pass (λg=>hA mn g) (jm S.bP gs) (pass (λg=>hA mn g||hA lw g) (jm S.bP gs) S).1 else((pass (λg=>hA mn g||hA lw g) (jm S.bP gs) S).1,false):=by
  unfold Cs.cM;rw[bJ (by rw[hl];decide),F,D]
 refine⟨_,rfl,cv (λhb=>?_) (λhb=>?_)⟩
 ·rw[I,bK hb];exact⟨rfl,l u⟩
 have r:=r8 _ hb;rw[I,bJ (by rw[hb];decide),r];rw[r]at u;refine cv (λm=>?_) (λm=>?_)
 ·rw[bK m];refine use (Q2 (hB:=λg=>hA mn g) j.wf j.ep U J ?_ u) ?_
  ·intro x X w' H d;obtain⟨s,ae⟩:=hx x H;refine⟨I2,_,rfl,by kernel_rfl,?_⟩;refine use (K:=λv w'=>v=.bool (hA mn x)/\Sep E (cd A S++X::bC y [Sv i]::bw i 1 (bD (jm S.bP gs))::bC f [Pb A.c]::bw s1 1 (ea mn)::bw s2 1 (ea lw)::bC p [Sv s1]::bC q [Sv s2]::L) w')
    (W7 x ⟨p,0,none⟩ ?_) (λv w' ⟨Z,d⟩=>⟨by rw[Z],d⟩)
   exact⟨s1,d.cellAt 22 rfl 0,vo 20 d rfl O s bu ⟨rfl,d⟩⟩
  rintro _ ar ⟨rfl,aa⟩;exact⟨_,rfl,rfl,l aa⟩
 ·rw[bJ (by rw[m];decide)];exact⟨rfl,l u⟩
end Go.Mp
