/- Vm: What is counted is c5 there is: for every script, and behind each operation, each group's memory, and swap, is the number of bN, and bR, of the bz whose owner is at it, or below: the law answers true and lets its arguments be; for every input. -/
import Derived.Test.YtafigbgagbolgaaGreatDoorC15
import Derived.Test.YtafigbgagbolgaaGreatDoorProg
import Derived.Test.YtafigbgagbolgaaGreatDoorChecked
import Derived.Lib.TrailingZeros
import Derived.ProofKit
import Derived.OpenVars
import Derived.LaidMore
import Derived.Lay
import Derived.OpenShut
import Derived.Stop.LaidErr
import Derived.Lib.LaidTab
import Derived.SevenTiedAt
import Derived.Test.YtafigbgagbolgaaGreatDoorRows
import Derived.Test.YtafigbgagbolgaaGreatDoorTie
import Derived.Test.YtafigbgagbolgaaGreatDoorCards
set_option linter.all false
set_option maxRecDepth 100000
open Go.IntKind(i64 u64)
namespace Go.Kc
open Go.Kt
def pn(T:List Bool):Int:=(T.length:Int)-(T.count true:Nat)
end Go.Kc
namespace Go.Kc
open Go Go.Kt Go.Sp
def TS.all(T:TS):bU:=((List.range T.next.toNat).filter λi:Nat=>(T.pg i).isSome).map Int.ofNat
end Go.Kc
namespace Go.Kc
open Go.Kt
def w8{C:List ei}(b:C.length=64){g n:Int}(a:fx g=true)(c:gf n=true)(x:Int):db (hs C g n).1 x=if x=g then n else db C x:=by
 unfold hs;rw[a,c];simp only[A9,fP];unfold db gU;cases hx:fx x with
 |false=>
  have:x≠g:=λe=>by rw[e,a]at hx;cases hx
  simp[this]
 |true=>
  simp only[fP];rw[vn _ b a hx];split<;>simp
end Go.Kc
namespace Go.Mp
open Go Go.Vc
abbrev lk:TypeId:=23
abbrev nO:TypeId:=37
abbrev oz:FuncId:=14
abbrev w9:FuncId:=15
abbrev nP:FuncId:=16
abbrev uD:FuncId:=26
abbrev F8:FuncId:=32
abbrev SY:FuncId:=33
abbrev F9:FuncId:=42
abbrev SZ:FuncId:=71
abbrev S1:FuncId:=108
noncomputable abbrev m0:Func:=Go.Proofs.Tryz.f14
def Ga:P.funcs[oz]?=some m0:=Go.Proofs.Tryz.func14
def zi(w:World)(g:Addr->bh6):Prop:=Al (.cells #[Iv 3,Iv 0,Iv 0,Iv 0,Iv 0,Iv 5,Iv 0,Iv 3,Iv 0,Iv 0,Iv 9,Iv 0,Iv 1,Iv 7,Iv 0,Iv 9,Iv 0,Iv 17,Iv 8,Iv 0,Iv 8,Iv 0,Iv 1,Iv 0,Iv 0,Iv 8,Iv 0,Iv 17,Iv 0,Iv 0,Iv 8,Iv 0,Iv 33,Iv 0,Iv 0] 37) g w
end Go.Mp
namespace Go.Mp
open Go Go.Vc Go.Proofs
variable{K:bh7}{w:World}
variable(K w)
def xa(c:cg):=
 NN c λa=>qZ w a 10 λd=>qJ vw #[Pv d] w λe b=>K (Sv e) b
def S2(c:cg):=
 Dr (λa=>NN c λg=>qZ a (g.add 1) 0 λh=>NN c λa4=>qZ a (a4.add 4) 0 λf=>qQ F9 #[Pv h] a λi d=>qG d (a4.add 4) 0 (Pv f) λj=>qQ F9 #[Pv f] d λe b=>K (.tuple #[Iv i,Iv e]) b) w
def S3(p:cg):=
 Dr (λa=>NN p λf=>qZ a f 0 λg=>NN p λa4=>qZ a a4 0 λe=>qQ Cw #[Pv g] a λh c=>qG c a4 0 (Pv e) λi=>qQ SZ #[Pv e] c λd b=>K (Iv (i64.wrap (h-d))) b) w
def S4(m:cg):=
 NN m λh=>qK w h 1 λf=>qI 0 0 w λg n7 c b=>cond (decide (c<((f.n:Nat):Int))) (qW f c 1 λa9=>∃a:Int,b.cell? a9=some (.int .u64 a)/\qQ S1 #[.int .u64 a] b λe d=>(g (i64.wrap (n7+e)) (i64.wrap (c+1)) d)) (K (Iv n7) b)
variable{K w}
def Gb(c)(h:xa K w c):=bL {} #[Pv c] K w Tryz.func26 h
def avk(c)(h:S2 K w c):=bL (z8 [] [(1,[[0,1,2,3,4,6,7,8,9,10,5,11,12,13]],[5,11])]) #[Pv c] K w Tryz.func32 h
def avA(p)(h:S3 K w p):=bL (z8 [13] [(1,[[0,1,2,3,5,6,7,8,4,9,10,11]],[4,9])]) #[Pv p] K w Tryz.func42 h
def avh(m)(h:S4 K w m):=bL (z8 [10,12,18,19] [] [(3,[(3,jZ),(11,jZ)])]) #[Pv m] K w Tryz.func71 h
end Go.Mp
namespace Go.Mp
open Go Go.Vc Go.Proofs
variable{K:bh7}{w:World}
variable(K w)
def S5(x:Int):=
 0<=(1:Int)/\0<=(2:Int)/\0<=(4:Int)/\0<=(8:Int)/\0<=(16:Int)/\0<=(32:Int)/\K (Iv (bV .i64 (i64.wrap (u64.wrap ((u64.wrap ((u64.wrap ((bV .u64 (u64.wrap (((u64.wrap ((bV .u64 ((u64.wrap ((bV .u64 (x.fdiv (2^(min (1:Int).toNat 64))) 6148914691236517205)+(bV .u64 x 6148914691236517205))).fdiv (2^(min (2:Int).toNat 64))) 3689348814741910323)+(bV .u64 (u64.wrap ((bV .u64 (x.fdiv (2^(min (1:Int).toNat 64))) 6148914691236517205)+(bV .u64 x 6148914691236517205))) 3689348814741910323))).fdiv (2^(min (4:Int).toNat 64)))+(u64.wrap ((bV .u64 ((u64.wrap ((bV .u64 (x.fdiv (2^(min (1:Int).toNat 64))) 6148914691236517205)+(bV .u64 x 6148914691236517205))).fdiv (2^(min (2:Int).toNat 64))) 3689348814741910323)+(bV .u64 (u64.wrap ((bV .u64 (x.fdiv (2^(min (1:Int).toNat 64))) 6148914691236517205)+(bV .u64 x 6148914691236517205))) 3689348814741910323))))) 1085102592571150095)+((bV .u64 (u64.wrap (((u64.wrap ((bV .u64 ((u64.wrap ((bV .u64 (x.fdiv (2^(min (1:Int).toNat 64))) 6148914691236517205)+(bV .u64 x 6148914691236517205))).fdiv (2^(min (2:Int).toNat 64))) 3689348814741910323)+(bV .u64 (u64.wrap ((bV .u64 (x.fdiv (2^(min (1:Int).toNat 64))) 6148914691236517205)+(bV .u64 x 6148914691236517205))) 3689348814741910323))).fdiv (2^(min (4:Int).toNat 64)))+(u64.wrap ((bV .u64 ((u64.wrap ((bV .u64 (x.fdiv (2^(min (1:Int).toNat 64))) 6148914691236517205)+(bV .u64 x 6148914691236517205))).fdiv (2^(min (2:Int).toNat 64))) 3689348814741910323)+(bV .u64 (u64.wrap ((bV .u64 (x.fdiv (2^(min (1:Int).toNat 64))) 6148914691236517205)+(bV .u64 x 6148914691236517205))) 3689348814741910323))))) 1085102592571150095).fdiv (2^(min (8:Int).toNat 64)))))+((u64.wrap ((bV .u64 (u64.wrap (((u64.wrap ((bV .u64 ((u64.wrap ((bV .u64 (x.fdiv (2^(min (1:Int).toNat 64))) 6148914691236517205)+(bV .u64 x 6148914691236517205))).fdiv (2^(min (2:Int).toNat 64))) 3689348814741910323)+(bV .u64 (u64.wrap ((bV .u64 (x.fdiv (2^(min (1:Int).toNat 64))) 6148914691236517205)+(bV .u64 x 6148914691236517205))) 3689348814741910323))).fdiv (2^(min (4:Int).toNat 64)))+(u64.wrap ((bV .u64 ((u64.wrap ((bV .u64 (x.fdiv (2^(min (1:Int).toNat 64))) 6148914691236517205)+(bV .u64 x 6148914691236517205))).fdiv (2^(min (2:Int).toNat 64))) 3689348814741910323)+(bV .u64 (u64.wrap ((bV .u64 (x.fdiv (2^(min (1:Int).toNat 64))) 6148914691236517205)+(bV .u64 x 6148914691236517205))) 3689348814741910323))))) 1085102592571150095)+((bV .u64 (u64.wrap (((u64.wrap ((bV .u64 ((u64.wrap ((bV .u64 (x.fdiv (2^(min (1:Int).toNat 64))) 6148914691236517205)+(bV .u64 x 6148914691236517205))).fdiv (2^(min (2:Int).toNat 64))) 3689348814741910323)+(bV .u64 (u64.wrap ((bV .u64 (x.fdiv (2^(min (1:Int).toNat 64))) 6148914691236517205)+(bV .u64 x 6148914691236517205))) 3689348814741910323))).fdiv (2^(min (4:Int).toNat 64)))+(u64.wrap ((bV .u64 ((u64.wrap ((bV .u64 (x.fdiv (2^(min (1:Int).toNat 64))) 6148914691236517205)+(bV .u64 x 6148914691236517205))).fdiv (2^(min (2:Int).toNat 64))) 3689348814741910323)+(bV .u64 (u64.wrap ((bV .u64 (x.fdiv (2^(min (1:Int).toNat 64))) 6148914691236517205)+(bV .u64 x 6148914691236517205))) 3689348814741910323))))) 1085102592571150095).fdiv (2^(min (8:Int).toNat 64))))).fdiv (2^(min (16:Int).toNat 64)))))+((u64.wrap ((u64.wrap ((bV .u64 (u64.wrap (((u64.wrap ((bV .u64 ((u64.wrap ((bV .u64 (x.fdiv (2^(min (1:Int).toNat 64))) 6148914691236517205)+(bV .u64 x 6148914691236517205))).fdiv (2^(min (2:Int).toNat 64))) 3689348814741910323)+(bV .u64 (u64.wrap ((bV .u64 (x.fdiv (2^(min (1:Int).toNat 64))) 6148914691236517205)+(bV .u64 x 6148914691236517205))) 3689348814741910323))).fdiv (2^(min (4:Int).toNat 64)))+(u64.wrap ((bV .u64 ((u64.wrap ((bV .u64 (x.fdiv (2^(min (1:Int).toNat 64))) 6148914691236517205)+(bV .u64 x 6148914691236517205))).fdiv (2^(min (2:Int).toNat 64))) 3689348814741910323)+(bV .u64 (u64.wrap ((bV .u64 (x.fdiv (2^(min (1:Int).toNat 64))) 6148914691236517205)+(bV .u64 x 6148914691236517205))) 3689348814741910323))))) 1085102592571150095)+((bV .u64 (u64.wrap (((u64.wrap ((bV .u64 ((u64.wrap ((bV .u64 (x.fdiv (2^(min (1:Int).toNat 64))) 6148914691236517205)+(bV .u64 x 6148914691236517205))).fdiv (2^(min (2:Int).toNat 64))) 3689348814741910323)+(bV .u64 (u64.wrap ((bV .u64 (x.fdiv (2^(min (1:Int).toNat 64))) 6148914691236517205)+(bV .u64 x 6148914691236517205))) 3689348814741910323))).fdiv (2^(min (4:Int).toNat 64)))+(u64.wrap ((bV .u64 ((u64.wrap ((bV .u64 (x.fdiv (2^(min (1:Int).toNat 64))) 6148914691236517205)+(bV .u64 x 6148914691236517205))).fdiv (2^(min (2:Int).toNat 64))) 3689348814741910323)+(bV .u64 (u64.wrap ((bV .u64 (x.fdiv (2^(min (1:Int).toNat 64))) 6148914691236517205)+(bV .u64 x 6148914691236517205))) 3689348814741910323))))) 1085102592571150095).fdiv (2^(min (8:Int).toNat 64)))))+((u64.wrap ((bV .u64 (u64.wrap (((u64.wrap ((bV .u64 ((u64.wrap ((bV .u64 (x.fdiv (2^(min (1:Int).toNat 64))) 6148914691236517205)+(bV .u64 x 6148914691236517205))).fdiv (2^(min (2:Int).toNat 64))) 3689348814741910323)+(bV .u64 (u64.wrap ((bV .u64 (x.fdiv (2^(min (1:Int).toNat 64))) 6148914691236517205)+(bV .u64 x 6148914691236517205))) 3689348814741910323))).fdiv (2^(min (4:Int).toNat 64)))+(u64.wrap ((bV .u64 ((u64.wrap ((bV .u64 (x.fdiv (2^(min (1:Int).toNat 64))) 6148914691236517205)+(bV .u64 x 6148914691236517205))).fdiv (2^(min (2:Int).toNat 64))) 3689348814741910323)+(bV .u64 (u64.wrap ((bV .u64 (x.fdiv (2^(min (1:Int).toNat 64))) 6148914691236517205)+(bV .u64 x 6148914691236517205))) 3689348814741910323))))) 1085102592571150095)+((bV .u64 (u64.wrap (((u64.wrap ((bV .u64 ((u64.wrap ((bV .u64 (x.fdiv (2^(min (1:Int).toNat 64))) 6148914691236517205)+(bV .u64 x 6148914691236517205))).fdiv (2^(min (2:Int).toNat 64))) 3689348814741910323)+(bV .u64 (u64.wrap ((bV .u64 (x.fdiv (2^(min (1:Int).toNat 64))) 6148914691236517205)+(bV .u64 x 6148914691236517205))) 3689348814741910323))).fdiv (2^(min (4:Int).toNat 64)))+(u64.wrap ((bV .u64 ((u64.wrap ((bV .u64 (x.fdiv (2^(min (1:Int).toNat 64))) 6148914691236517205)+(bV .u64 x 6148914691236517205))).fdiv (2^(min (2:Int).toNat 64))) 3689348814741910323)+(bV .u64 (u64.wrap ((bV .u64 (x.fdiv (2^(min (1:Int).toNat 64))) 6148914691236517205)+(bV .u64 x 6148914691236517205))) 3689348814741910323))))) 1085102592571150095).fdiv (2^(min (8:Int).toNat 64))))).fdiv (2^(min (16:Int).toNat 64))))).fdiv (2^(min (32:Int).toNat 64)))))) 127)) w
variable{K w}
def anK(x)(h:S5 K w x):=bL (z8 [4,5,7,8,10,11,13,14,16,18,19,22,23,26,27,30,31,33,34]) #[.int .u64 x] K w Tryz.func108 h
end Go.Mp
namespace Go.Kc
open Go Go.Vc
def num:List Nat->Nat
 |[]=>0
 |y::r=>y+256*num r
def rep(c:Nat):Nat->Nat
 |0=>0
 |k+1=>c+256*rep c k
def xb{q y m c:Nat}(h:y<256:=by omega)(d:c<256:=by omega):(y+256*q) &&& (c+256*m)=(y &&& c)+256*(q &&& m):=by
 have f:y &&& c<256:=Nat.and_lt_two_pow (n:=8) _ d;apply uK;intro i;have e:∀(a b:Nat),a<256->(a+256*b).testBit i=if i<8 then a.testBit i else b.testBit (i-8):=by
  intro a b g;rw[rf,show(256:Nat)=2^8 by decide,Nat.testBit_two_pow_mul_add _ (by simpa using g)]
 rw[Hc,e _ _ h,e _ _ d,e _ _ f];split<;>simp
def mm(k x:Nat):Nat:=((x/2) &&& rep 0x55 k)+(x &&& rep 0x55 k)
def k9(k x:Nat):Nat:=((x/4) &&& rep 0x33 k)+(x &&& rep 0x33 k)
def sr(k x:Nat):Nat:=(x/16+x) &&& rep 0x0f k
def ko(y:Nat):Nat:=((y/2) &&& 0x55)+(y &&& 0x55)
def mo(y:Nat):Nat:=((y/4) &&& 0x33)+(y &&& 0x33)
def ss(y:Nat):Nat:=y/16+y%16
def aMm:∀y,y<256->ko y<256:=by decide+kernel
def aMn:∀y,y<256->mo (ko y)<256/\mo (ko y)/16<=4/\mo (ko y)%16<=4:=by decide+kernel
def nE:∀y,y<256->∀r,r<2->(128*r+y/2) &&& 0x55=(y/2) &&& 0x55:=by decide+kernel
def Gc:∀y,y<256->∀r,r<4->(64*r+y/4) &&& 0x33=(y/4) &&& 0x33:=by decide+kernel
def S6:∀ {l:List Nat},(∀y∈l,y<256)->mm l.length (num l)=num (l.map ko)
 |[],_=>bO
 |y::l,h=>by
  have b:=h y (by simp);have c:=S6 (l:=l) (λz d=>h z (by simp[d]));unfold mm at c ⊢;have e:(y+256*num l)/2=(128*(num l%2)+y/2)+256*(num l/2):=by omega
  show((y+256*num l)/2 &&& (0x55+256*rep 0x55 l.length))+((y+256*num l) &&& (0x55+256*rep 0x55 l.length))=ko y+256*num (l.map ko);rw[e,xb,xb b,nE y b _ bA,<- c];unfold ko;omega
def S7:∀ {l:List Nat},(∀y∈l,y<256)->k9 l.length (num l)=num (l.map mo)
 |[],_=>bO
 |y::l,h=>by
  have b:=h y (by simp);have c:=S7 (l:=l) (λz d=>h z (by simp[d]));unfold k9 at c ⊢;have e:(y+256*num l)/4=(64*(num l%4)+y/4)+256*(num l/4):=by omega
  show((y+256*num l)/4 &&& (0x33+256*rep 0x33 l.length))+((y+256*num l) &&& (0x33+256*rep 0x33 l.length))=mo y+256*num (l.map mo);rw[e,xb,xb b,Gc y b _ bA,<- c];unfold mo;omega
def vR(n:Nat):n &&& 15=n%16:=q5 n 4
def S8:∀ {l:List Nat},(∀y∈l,y<256/\y/16<=4/\y%16<=4)->sr l.length (num l)=num (l.map ss)
 |[],_=>bO
 |y::l,h=>by
  have f:=h y (by simp);have a:=S8 (l:=l) (λz c=>h z (by simp[c]));have d:num l%16<=4:=by
   cases l with
   |nil=>decide
   |cons z r=>have:=h z (by simp);show(z+256*num r)%16<=4;omega
  unfold sr at a ⊢;show((y+256*num l)/16+(y+256*num l)) &&& (0x0f+256*rep 0x0f l.length)=ss y+256*num (l.map ss);have e:(y+256*num l)/16+(y+256*num l)=(y/16+16*(num l%16)+y)+256*(num l/16+num l):=by omega
  rw[e,xb,a,vR];unfold ss;omega
def de:Nat->Nat->Nat
 |0,_=>0
 |k+1,x=>x%2+de k (x/2)
def S9:∀y,y<256->ss (mo (ko y))=de 8 y/\de 8 y<=8:=by decide+kernel
def q0:∀(j k x:Nat),de (j+k) x=de j x+de k (x/2^j)
 |0,k,x=>by simp[de]
 |j+1,k,x=>by
  rw[show j+1+k=(j+k)+1 by omega];show x%2+de (j+k) (x/2)=(x%2+de j (x/2))+de k (x/2^(j+1));rw[q0 j k,m6,m9,sO 2];omega
def Ta:∀(j x y:Nat),x%2^j=y%2^j->de j x=de j y
 |0,_,_,_=>rfl
 |j+1,x,y,h=>by
  have h1:x%2=y%2:=by
   have:=eO (· % 2) h;simp only[m9,Nat.mod_mul_left_mod]at this;exact this
  have a:x/2%2^j=y/2%2^j:=by
   have:=eO (· / 2) h;simp only[m9,sO _ 2,Nat.mod_mul_right_div_self]at this;exact this
  show x%2+de j (x/2)=y%2+de j (y/2);rw[h1,Ta j _ _ a]
def Tb:∀(l:List Bool) (k:Nat),l.length<=k->de k (wd l)=l.count true
 |[],k,_=>by
  have:∀k,de k 0=0:=by
   intro k;induction k with
   |zero=>rfl
   |succ k a=>show 0%2+de k (0/2)=0;rw[show 0/2=0 by decide,a]
  simp[wd,this]
 |b::r,0,h=>by simp at h
 |b::r,k+1,h=>by
  show(b.toNat+2*wd r)%2+de k ((b.toNat+2*wd r)/2)=_;rw[show(b.toNat+2*wd r)/2=wd r by cases b<;>simp<;>omega,Tb r k (by simpa using h),List.count_cons];cases b<;>simp<;>omega
def Gd{a:Nat}{r:List Nat}(h:a<256):num (a::r)/256=num r:=by
 show(a+256*num r)/256=num r;omega
def Ge{a b:Nat}{r:List Nat}(h:a<256)(c:b<256):num (a::b::r)/65536=num r:=by
 rw[show(65536:Nat)=256*256 by decide,<- m6,Gd h,Gd c]
def aJm{a b c d:Nat}{r:List Nat}(h:a<256:=by omega)(e:b<256:=by omega)(f:c<256:=by omega)(g:d<256:=by omega):num (a::b::c::d::r)/4294967296=num r:=by
 rw[show(4294967296:Nat)=65536*65536 by decide,<- m6,Ge h e,Ge f g]
def Tc:∀ {l:List Nat},(∀y∈l,y<256)->num l<256^l.length
 |[],_=>bO
 |y::r,h=>by
  have h1:=h y (by simp);have b:=Tc (l:=r) (λz a=>h z (by simp[a]));show y+256*num r<256^(r.length+1);rw[m9];omega
def Gf{a b c d e f g h:Nat}(i:a<256/\b<256/\c<256/\d<256/\e<256/\f<256/\g<256/\h<256):num [a,b,c,d,e,f,g,h]%18446744073709551616=num [a,b,c,d,e,f,g,h]:=by
 have j:(256:Nat)^8=18446744073709551616:=by decide
 rw[<- j];refine lQ (Tc (l:=[a,b,c,d,e,f,g,h]) ?_);simp only[ey,ra,ri,forall_eq_or_imp,forall_eq];exact i
def Gg{k j i h g f b a:Nat}(q:k<=8)(r:j<=8)(s:i<=8)(t:h<=8)(u:g<=8)(v:f<=8)(w:b<=8)(x:a<=8)(c d e:Nat)(o:c=num [k,j,i,h,g,f,b,a])(p:d=(c+c/256)%18446744073709551616)(he:e=(d+d/65536)%18446744073709551616):
  (e+e/4294967296)%18446744073709551616%128=k+j+i+h+g+f+b+a:=by
 subst he p o;rw[Gd bA];have l:num [k,j,i,h,g,f,b,a]+num [j,i,h,g,f,b,a]=num [k+j,j+i,i+h,h+g,g+f,f+b,b+a,a]:=by simp only[num];omega
 rw[l,Gf (by refine⟨?_,?_,?_,?_,?_,?_,?_,?_⟩<;>omega),Ge bA bA];have m:num [k+j,j+i,i+h,h+g,g+f,f+b,b+a,a]+num [i+h,h+g,g+f,f+b,b+a,a]=
  num [k+j+i+h,j+i+h+g,i+h+g+f,h+g+f+b,g+f+b+a,f+b+a,b+a,a]:=by simp only[num];omega
 rw[m,Gf (by refine⟨?_,?_,?_,?_,?_,?_,?_,?_⟩<;>omega),aJm];have n:num [k+j+i+h,j+i+h+g,i+h+g+f,h+g+f+b,g+f+b+a,f+b+a,b+a,a]+num [g+f+b+a,f+b+a,b+a,a]=
  num [k+j+i+h+g+f+b+a,j+i+h+g+f+b+a,i+h+g+f+b+a,h+g+f+b+a,g+f+b+a,f+b+a,b+a,a]:=by simp only[num];omega
 rw[n,Gf (by refine⟨?_,?_,?_,?_,?_,?_,?_,?_⟩<;>omega)];show(k+j+i+h+g+f+b+a+256*num [j+i+h+g+f+b+a,i+h+g+f+b+a,h+g+f+b+a,g+f+b+a,f+b+a,b+a,a])%128=_;generalize num [j+i+h+g+f+b+a,i+h+g+f+b+a,h+g+f+b+a,g+f+b+a,f+b+a,b+a,a]=X;omega
def aFW{x:Nat}(hx:x<18446744073709551616):
  let c:=sr 8 (k9 8 (mm 8 x));let d:=(c+c/256)%18446744073709551616;let e:=(d+d/65536)%18446744073709551616;let f:=(e+e/4294967296)%18446744073709551616
  f%128=de 64 x:=by
 have i:x=num [x%256,x/256%256,x/65536%256,x/16777216%256,x/4294967296%256,x/1099511627776%256,x/281474976710656%256,x/72057594037927936%256]:=by
  simp only[num];omega
 generalize g: [x%256,x/256%256,x/65536%256,x/16777216%256,x/4294967296%256,x/1099511627776%256,x/281474976710656%256,x/72057594037927936%256]=l at i;have hlen:l.length=8:=by rw[<- g];rfl
 have b:∀y∈l,y<256:=by rw[<- g];intro y a;simp at a;omega
 have h1:mm 8 x=num (l.map ko):=by rw[i,<- hlen];exact S6 b
 have v:k9 8 (num (l.map ko))=num ((l.map ko).map mo):=by
  have:=S7 (l:=l.map ko) (λy a=>by obtain⟨z,j,rfl⟩:=e4.1 a;exact aMm z (b z j));rw[eb,hlen]at this;exact this
 have w:sr 8 (num ((l.map ko).map mo))=num (((l.map ko).map mo).map ss):=by
  have:=S8 (l:=(l.map ko).map mo) (λy a=>by
   obtain⟨z,j,rfl⟩:=e4.1 a;obtain⟨u,hu,rfl⟩:=e4.1 j;exact aMn u (b u hu))
  rw[eb,eb,hlen]at this;exact this
 have A:(((l.map ko).map mo).map ss)=l.map (de 8):=by
  rw[rh,rh];exact GU (λy a=>(S9 y (b y a)).1)
 have hle:∀y∈l,de 8 y<=8:=λy a=>(S9 y (b y a)).2;have ho:de 64 x=(l.map (de 8)).sum:=by
  have B:∀(k:Nat) (y:Nat),de 8 (y%256)=de 8 y:=λk y=>Ta 8 _ _ (by simp);rw[<- g];have D:de 64 x=de 8 x+de 56 (x/256):=q0 8 56 x;have E:de 56 (x/256)=de 8 (x/256)+de 48 (x/65536):=by have:=q0 8 48 (x/256);rwa[m6]at this
  have q2:de 48 (x/65536)=de 8 (x/65536)+de 40 (x/16777216):=by have:=q0 8 40 (x/65536);rwa[m6]at this
  have F:de 40 (x/16777216)=de 8 (x/16777216)+de 32 (x/4294967296):=by have:=q0 8 32 (x/16777216);rwa[m6]at this
  have G:de 32 (x/4294967296)=de 8 (x/4294967296)+de 24 (x/1099511627776):=by have:=q0 8 24 (x/4294967296);rwa[m6]at this
  have H:de 24 (x/1099511627776)=de 8 (x/1099511627776)+de 16 (x/281474976710656):=by have:=q0 8 16 (x/1099511627776);rwa[m6]at this
  have I:de 16 (x/281474976710656)=de 8 (x/281474976710656)+de 8 (x/72057594037927936):=by have:=q0 8 8 (x/281474976710656);rwa[m6]at this
  simp only[mC,Bb,List.sum_cons,List.sum_nil,B 0];omega
 have h:∀y∈ [x%256,x/256%256,x/65536%256,x/16777216%256,x/4294967296%256,x/1099511627776%256,x/281474976710656%256,x/72057594037927936%256],de 8 y<=8:=by rw[g];exact hle
 simp only[ey,ra,ri,forall_eq_or_imp,forall_eq]at h;obtain⟨m,n,o,p,q,r,s,t⟩:=h;have C:=Gg m n o p q r s t _ _ _ (show sr 8 (k9 8 (mm 8 x))=_ by rw[h1,v,w,A,<- g];rfl) rfl rfl;refine C.trans ?_;rw[ho,<- g];simp only[mC,Bb,List.sum_cons,List.sum_nil];omega
end Go.Kc
namespace Go.Sp
open Go Go.Vc Go.RowKit Go.ChangeShapes
section
variable{P:Program}{W:World}{t:TypeId}{cs:List Value}
def Rd.bool(h:Rd P W t cs)(a:P.underlying t=some .bool):∃b,cs= [.bool b]:=by
 obtain⟨H,enc,fuel,x,h⟩:=h;obtain⟨n,h1,_⟩:=DataW.trod_bool a h;exact⟨n,h1⟩
def Rd.str(h:Rd P W t cs)(b:P.underlying t=some .string):∃s,cs= [.string s]/\s.size<=maxLen:=by
 obtain⟨H,enc,fuel,x,h⟩:=h;obtain⟨s,h1,_,a⟩:=DataW.trod_string b h;exact⟨s,h1,a⟩
def Rd.struct{fs:Array Field}(h:Rd P W t cs)(d:P.underlying t=some (.struct fs)):cs.length=P.cellsOf t/\
  ∀(i:Nat) (f:Field),fs[i]?=some f->Rd P W f.type ((cs.drop f.offset).take (P.cellsOf f.type)):=by
 obtain⟨H,enc,fuel,x,h⟩:=h;obtain⟨xs,n,rfl,rfl,c,hx,hf⟩:=DataW.trod_struct d h;refine⟨c,λi f a=>?_⟩;have b:i<xs.length:=by
  rw[hx];rcases gS i fs.size with h' | h';·exact h'
  ·simp[h']at a
 have:=hf i f a;rw[dD b]at this;exact⟨H,enc,n,_,this⟩
def Rd.fF{e:TypeId}{v:Value}(h:Rd P W t [v])(d:P.underlying t=some (.slice e)):∃(p:cg) (n c:Nat),v=.slice p n c/\n<=c/\c<=maxLen/\
  ∀i,i<n->∃a es,p=some a/\es.length=P.cellsOf e/\(∀j,j<P.cellsOf e->W.cell? ((a.add (i*P.cellsOf e)).add j)=es[j]?)/\Rd P W e es:=by
 obtain⟨p,n,c,h1,b⟩:=h.slice d;exact⟨p,n,c,by simpa using h1,b⟩
end
section
variable{H:Type}{enc:TypeId×Value->H}{P:Program}
end
end Go.Sp
namespace Go.Sp
open Go Go.Vc
def hC(P:Program)(a:TypeId->Option (List TypeId)):List Field->Nat->Option (List TypeId)
 |[],_=>some []
 |f::fs,o=>match Nat.beq f.offset o,a f.type with
  |true,some l=>match Nat.beq (P.cellsOf f.type) l.length with
   |true=>match hC P a fs (o+l.length)with
    |some r=>some (l++r)
    |none=>none
   |false=>none
  |_,_=>none
def hD(P:Program):Nat->TypeId->Option (List TypeId)
 |0,_=>none
 |d+1,t=>match P.underlying t with
  |some (.struct fs)=>match hC P (hD P d) fs.toList 0 with
   |some l=>match Nat.beq (P.cellsOf t) l.length with
    |true=>some l
    |false=>none
   |none=>none
  |some (.int _)=>some [t]
  |some .bool=>some [t]
  |some .string=>some [t]
  |some (.slice _)=>some [t]
  |_=>none
section
variable{P:Program}{W:World}
def g4(P:Program)(W:World):List TypeId->List Value->Prop
 |[],[]=>True
 |t::ts,v::vs=>Rd P W t [v]/\g4 P W ts vs
 |_,_=>False
def g4.append:∀ {ts us:List TypeId} {vs xs:List Value},g4 P W ts vs->g4 P W us xs->g4 P W (ts++us) (vs++xs)
 |[],_,[],_,_,h=>h
 |_::_,_,_::_,_,⟨h1,a⟩,h=>⟨h1,a.append h⟩
 |[],_,_::_,_,h,_=>h.elim
 |_::_,_,[],_,h,_=>h.elim
def Rd.leaves:∀(d:Nat) {t:TypeId} {ts:List TypeId} {cs:List Value},hD P d t=some ts->Rd P W t cs->g4 P W ts cs:=by
 intro d;induction d with
 |zero=>intro t ts cs h;simp[hD]at h
 |succ d I=>
  intro t ts cs h j;unfold hD at h;cases hu:P.underlying t with
  |none=>simp[hu]at h
  |some x=>
   cases x<;>simp only[hu]at h<;>try (simp at h;done)
   case bool=>
    simp only[eF]at h;subst h;obtain⟨b,rfl⟩:=j.bool hu;exact⟨j,trivial⟩
   case int k=>
    simp only[eF]at h;subst h;obtain⟨b,rfl,_⟩:=j.int hu;exact⟨j,trivial⟩
   case string=>
    simp only[eF]at h;subst h;obtain⟨b,rfl,_⟩:=j.str hu;exact⟨j,trivial⟩
   case slice e=>
    simp only[eF]at h;subst h;obtain⟨p,n,c,rfl,_⟩:=j.slice hu;exact⟨j,trivial⟩
   case struct fs=>
    cases q:hC P (hD P d) fs.toList 0 with
    |none=>simp[q]at h
    |some l=>
     simp only[q]at h;split at h
     ·next C=>
      simp only[eF]at h;subst h;obtain⟨hlen,w⟩:=j.struct hu;rw[je C]at hlen;have key:∀(m:List Field) (o:Nat) (l:List TypeId),hC P (hD P d) m o=some l->(∀f∈m,Rd P W f.type ((cs.drop f.offset).take (P.cellsOf f.type)))->cs.length=o+l.length->g4 P W l (cs.drop o):=by
       intro m;induction m with
       |nil=>
        intro o l a _ u;simp only[hC,eF]at a;subst a;rw[jJ (by simpa using Ho u)];trivial
       |cons f m D=>
        intro o l a s u;unfold hC at a;split at a
        ·next v ho y=>
         split at a
         ·next H=>
          split at a
          ·next r B=>
           simp only[eF]at a;subst a;have A:=je ho;have z:=je H;have h1:=s f (by simp);rw[A,z]at h1;have E:=I y h1;have F:=D (o+v.length) r B (λg q=>s g (by simp[q])) (by rw[u,da];omega);have e:cs.drop o=(cs.drop o).take v.length++cs.drop (o+v.length):=by
            rw[<- n0,fA]
           rw[e];exact E.append F
          ·simp at a
         ·simp at a
        ·simp at a
      have:=key fs.toList 0 l q (λf hf=>by
       obtain⟨i,G,rfl⟩:=h5.1 hf;exact w i _ (by simp at G ⊢)) (by simpa using hlen)
      simpa using this
     ·simp at h
end
end Go.Sp
namespace Go.Mp
open Go Go.Vc Go.Sp Go.Proofs Go.Kc
variable{E:Env}{L:ch}{w W:World}
variable{b:Nat}{T:List Bool}
def aHz{x:Nat}(hx:x<18446744073709551616)(w:World):Calls P S1 #[.int .u64 (x:Nat)] w (bW λv w'=>v=Iv (de 64 x:Nat)/\w'=w):=by
 apply anK;unfold S5;have r:(6148914691236517205:Int)=((rep 0x55 8:Nat):Int):=by decide
 have s:(3689348814741910323:Int)=((rep 0x33 8:Nat):Int):=by decide
 have t:(1085102592571150095:Int)=((rep 0x0f 8:Nat):Int):=by decide
 have u:rep 0x55 8<9223372036854775808:=by decide
 have A:rep 0x33 8<9223372036854775808:=by decide
 have B:rep 0x0f 8<9223372036854775808:=by decide
 rw[r,s,t];have k:u64.wrap ((bV .u64 ((x:Int).fdiv (2^(min (1:Int).toNat 64))) ((rep 0x55 8:Nat):Int))+(bV .u64 (x:Int) ((rep 0x55 8:Nat):Int)))=((mm 8 x:Nat):Int):=by
  have h1:x/2 &&& rep 0x55 8<=rep 0x55 8:=sL;have g:x &&& rep 0x55 8<=rep 0x55 8:=sL;rw[show((x:Int).fdiv (2^(min (1:Int).toNat 64)))=((x/2:Nat):Int)from sh x 1,nC,nC hx,<- pF,dj];rfl
 have b1:mm 8 x<18446744073709551616:=by
  have h1:x/2 &&& rep 0x55 8<=rep 0x55 8:=sL;have g:x &&& rep 0x55 8<=rep 0x55 8:=sL;unfold mm;omega
 rw[k];generalize p:mm 8 x=y at*
 have l:u64.wrap ((bV .u64 ((y:Int).fdiv (2^(min (2:Int).toNat 64))) ((rep 0x33 8:Nat):Int))+(bV .u64 (y:Int) ((rep 0x33 8:Nat):Int)))=((k9 8 y:Nat):Int):=by
  have h1:y/4 &&& rep 0x33 8<=rep 0x33 8:=sL;have g:y &&& rep 0x33 8<=rep 0x33 8:=sL;rw[show((y:Int).fdiv (2^(min (2:Int).toNat 64)))=((y/4:Nat):Int)from sh y 2,nC,nC b1,<- pF,dj];rfl
 have b2:k9 8 y<=2*rep 0x33 8:=by
  have h1:y/4 &&& rep 0x33 8<=rep 0x33 8:=sL;have g:y &&& rep 0x33 8<=rep 0x33 8:=sL;unfold k9;omega
 rw[l];generalize q:k9 8 y=z at*
 have h:z/16+z<18446744073709551616:=by
  have:rep 0x33 8=3689348814741910323:=by decide
  omega
 have a3:bV .u64 (u64.wrap (((z:Int).fdiv (2^(min (4:Int).toNat 64)))+(z:Int))) ((rep 0x0f 8:Nat):Int)=((sr 8 z:Nat):Int):=by
  rw[show((z:Int).fdiv (2^(min (4:Int).toNat 64)))=((z/16:Nat):Int)from sh z 4,<- pF,dj h,nC h];rfl
 rw[a3];have j:=aFW hx;rw[p,q]at j;generalize sr 8 z=c at*
 have a4:u64.wrap ((c:Int)+((c:Int).fdiv (2^(min (8:Int).toNat 64))))=(((c+c/256)%18446744073709551616:Nat):Int):=by
  rw[show((c:Int).fdiv (2^(min (8:Int).toNat 64)))=((c/256:Nat):Int)from sh c 8,<- pF,o2]
 rw[a4];dsimp only at j;generalize (c+c/256)%18446744073709551616=d at*
 have a5:u64.wrap ((d:Int)+((d:Int).fdiv (2^(min (16:Int).toNat 64))))=(((d+d/65536)%18446744073709551616:Nat):Int):=by
  rw[show((d:Int).fdiv (2^(min (16:Int).toNat 64)))=((d/65536:Nat):Int)from sh d 16,<- pF,o2]
 rw[a5];generalize (d+d/65536)%18446744073709551616=e at*
 have m:u64.wrap ((e:Int)+((e:Int).fdiv (2^(min (32:Int).toNat 64))))=(((e+e/4294967296)%18446744073709551616:Nat):Int):=by
  rw[show((e:Int).fdiv (2^(min (32:Int).toNat 64)))=((e/4294967296:Nat):Int)from sh e 32,<- pF,o2]
 rw[m];generalize (e+e/4294967296)%18446744073709551616=f at*
 refine⟨bO,bO,bO,bO,bO,bO,?_,rfl⟩;have n:bV .i64 (i64.wrap (f:Int)) 127=((f%128:Nat):Int):=by
  have o:BitVec.ofInt 64 (i64.wrap (f:Int))=BitVec.ofNat 64 f:=by
   apply BitVec.eq_of_toNat_eq;rw[BitVec.toNat_ofInt,q8];unfold IntKind.wrap;simp only[IntKind.signed,IntKind.bits,lr];split<;>omega
  have h1:(BitVec.ofInt 64 (i64.wrap (f:Int)) &&& BitVec.ofInt 64 127).toNat=f%128:=by
   rw[o,uR,q8];have:(BitVec.ofInt 64 127).toNat=127:=by decide
   rw[this];have g:=q5 (f%2^64) 7;rw[show(2:Nat)^7-1=127 by decide]at g;rw[g];omega
  show i64.wrap ((BitVec.ofInt 64 (i64.wrap (f:Int)) &&& BitVec.ofInt 64 127).toNat:Int)=_;rw[h1];exact cH bA bA
 rw[n,j]
def Td:∀(k x:Nat),de k x<=k
 |0,_=>dN _
 |k+1,x=>by have:=Td k (x/2);show x%2+de k (x/2)<=k+1;omega
def aDW(T:List Bool)(j:Nat):(T.take (64*(j+1))).count true=(T.take (64*j)).count true+de 64 (gg T j):=by
 have e:T.take (64*(j+1))=T.take (64*j)++(T.drop (64*j)).take 64:=by
  rw[show 64*(j+1)=64*j+64 by omega,List.take_add]
 unfold gg;rw[e,List.count_append,Tb ((T.drop (64*j)).take 64) 64 (by simp;omega)]
def aDP{q:Nat}(h:Sep E L w)(g:L[q]?=some (iK b T)):Calls P SZ #[Pb b] w (bW λv w'=>v=Iv (T.count true:Nat)/\w'=w):=by
 apply avh;unfold S4 qI qK qQ qW;obtain⟨s,z,u,h1⟩:=iK.get (h.fr q g);refine⟨_,rfl,s,h1.cell 1,?_⟩;refine⟨λn x w'=>w'=w/\∃j:Nat,x=j/\j<=nW T.length/\n=((T.take (64*j)).count true:Nat),λ_ x _=>(nW T.length-x).toNat,⟨rfl,0,rfl,ec _,by simp⟩,?_⟩;rintro _ n x i ⟨rfl,j,rfl,y,rfl⟩;have m:=TZ (a:=true) (l:=T.take (64*j));have f:=List.length_take_le (64*j) T;have r:nW T.length<=2000:=by unfold nW;omega
 refine cL (λp=>?_) (λo=>?_)
 ·have c:j<nW T.length:=by omega
  refine bC.el 1 h1 rfl bA bA (λt k e=>⟨((gg T j:Nat):Int),?_,?_⟩)
  ·have:=e 0 bO;rw[lu]at this;rw[this,fC,dk,tW c]
  ·refine use (aHz (o5 T j) i) ?_;rintro _ A ⟨rfl,rfl⟩;have ho:=Td 64 (gg T j);have d:i64.wrap ((j:Int)+1)=((j+1:Nat):Int):=by rw[cH bA bA];omega
   refine⟨_,rfl,⟨rfl,j+1,d,c,?_⟩,by dsimp only;rw[d];omega⟩;rw[aDW,cH bA bA];omega
 ·have:j=nW T.length:=by omega
  subst this;refine⟨?_,rfl⟩;rw[hE (by unfold nW;omega)]
variable{p:Nat}
def Te(h:Sep E (fY p T::L) w):Calls P F9 #[Pb p] w (bW λv w'=>v=Iv (pn T)/\Sep E (fY p T::L) w'):=by
 apply avA;unfold S3 qG qQ qZ;refine Dr.i h (λe h1=>?_);obtain⟨b,d,c⟩:=fY.get h1;refine⟨_,rfl,_,c.cell 0,_,rfl,_,c.cell 0,use (NJ (q:=1) c rfl) ?_⟩;rintro _ w2 ⟨rfl,rfl⟩;refine⟨_,rfl,_,c.cell 0,rfl,use (aDP (q:=1) c rfl) ?_⟩;rintro _ f ⟨rfl,rfl⟩;have:=TZ (a:=true) (l:=T);refine⟨_,rfl,?_,h1⟩;unfold pn;rw[cH bA bA]
end Go.Mp
namespace Go.Mp
open Go Go.Vc Go.Sp Go.Proofs Go.Kc
variable{E:Env}{L:ch}{w:World}{A:At}{S:Cs}
def aLB(h:Sep E (cd A S++L) w):Calls P F8 #[Pb A.c] w (bW λv w'=>v=.tuple #[Iv (pn S.fr.bK),Iv (pn S.sl.bK)]/\Sep E (cd A S++L) w'):=by
 apply avk;unfold S2 qG qQ qZ;refine Dr.i h (λc h1=>⟨_,rfl,ld h1 0 rfl rfl rfl ⟨_,rfl,ld h1 0 rfl rfl rfl (use (Te (h1.fr 2 rfl)) ?_)⟩⟩);rintro _ w2 ⟨rfl,a⟩;have a:=a.put (q:=2) rfl;have a:Sep E (cd A S++L) w2:=a;refine⟨_,rfl,ld a 0 rfl rfl rfl ⟨rfl,use (Te (a.fr 5 rfl)) ?_⟩⟩;rintro _ d ⟨rfl,b⟩;have b:=b.put (q:=5) rfl;exact⟨_,rfl,rfl,b⟩
end Go.Mp
namespace Go.Mp
open Go Go.Vc Go.Proofs
variable{K:bh7}{w:World}
variable(K w)
def Tf(bN bR:Int)(bP l:Sl):=
 qF w9 #[] w λg j=>cond (!g) (K (.bool false) j) (qF nP #[Iv bN,Iv bR,Sv bP,Sv l] j λB n=>cond B (K (.bool g) n) (qR acl #[Iv bN,Iv bR,Sv bP] n λz A=>qR rO #[Pv z] A λa c=>cond a.isNone (K (.bool false) c) (qO 0 c λh i17 b=>cond (decide (i17<((l.n:Nat):Int))) (qW l i17 5 λi=>zL b i λo p q r s=>zx iz #[Pv z,.agg #[Iv o,Iv p,Iv q,Iv r,Iv s]] b λC D E k=>qF SY #[Pv a] k λt m=>qj F8 #[Pv a] m λu v d=>cond (!t) (K (.bool false) d) (qQ om #[Pv a,Iv 0] d λx e=>cond ((i64.wrap (u+x)) !=(dy bN 0)) (K (.bool false) e) (qQ nz #[Pv a,Iv 0] e λy f=>cond ((i64.wrap (v+y)) !=(dy bR 0)) (K (.bool false) f) ((h (i64.wrap (i17+1)) f))))) (K (.bool g) b))))
def xc:=
 zi w λi w2=>qJ tz #[Iv 1,Iv 9,.slice none 0 0,.slice (some i) 7 7] w2 λb a=>cond (((b.n:Nat):Int)==7) (qW b 4 3 λg=>qL a g 1 λj=>cond (j==7) (qW b 5 3 λh=>qL a h 1 λk=>cond (k==8) (qW b 6 3 λc=>qL a c 1 λe=>cond (e==0) (qW b 6 3 λd=>qL a d 0 λf=>K (.bool (f==0)) a) (K (.bool false) a)) (K (.bool false) a)) (K (.bool false) a)) (K (.bool false) a)
def nQ(bN bR:Int)(bP l:Sl):=
 cond (decide (bN>24)) (K (.bool true) w) (cond (decide (bR>24)) (K (.bool true) w) (cond (decide (((bP.n:Nat):Int)>40)) (K (.bool true) w) (K (.bool (decide (((l.n:Nat):Int)>40))) w)))
def Tg(c:cg):=
 ∃s:Sl,∃U:World,Sem.run P (Instr.makeSlice 22 (Iv 64) (Iv 64)) w=.ok (Sv s) U/\∃t:Sl,∃Y:World,Sem.run P (Instr.makeSlice 22 (Iv 64) (Iv 64)) U=.ok (Sv t) Y/\qJ uD #[Pv c] Y λI aN=>qO 0 aN λaM i12 o=>cond (decide (i12<((I.n:Nat):Int))) (qW I i12 1 λM=>qD o M λaf=>qX rP #[Pv c,Iv af] o λag ah ai aj ak al am an ao ap V=>qV V λb W=>qU [Iv ag,Iv ah,Iv ai,Iv aj,Iv ak,Iv al,Iv am,.bool an,.bool ao] b W λX=>Dr (λy=>qL y b 4 λC=>qR tA #[Pv c] y λaq z=>zH z b 4 (Iv C) λaQ=>qJ pV #[Pv aq,Iv C] z λk p=>qg (λL=>cond (ap !=0) (K (.bool false) p) (cond (((k.n:Nat):Int)==0) (K (.bool false) p) (L p))) λZ=>qO 0 Z λu f e=>cond (decide (f<((k.n:Nat):Int))) (qg (λv=>qL e b 2 λar=>cond (ar==1) (qW k f 1 λN=>qD e N λD=>qW s D 1 λa53=>qD e a53 λau=>qW s D 1 λO=>Vc.St O (Iv (i64.wrap (au+1))) (λaa=>v aa) e) (v e)) λh=>qL h b 2 λav=>cond (av==2) (qW k f 1 λQ=>qD h Q λE=>qW t E 1 λR=>qD h R λaw=>qW t E 1 λS=>Vc.St S (Iv (i64.wrap (aw+1))) (λab=>(u (i64.wrap (f+1)) ab)) h) ((u (i64.wrap (f+1)) h))) (qO 0 e λl g q=>cond (decide (g<i12)) (qW I g 1 λT=>qD q T λax=>qX rP #[Pv c,Iv ax] q λay az aA aB aC aD aE aF aG aR ad=>qV ad λn ae=>qU [Iv ay,Iv az,Iv aA,Iv aB,Iv aC,Iv aD,Iv aE,.bool aF,.bool aG] n ae λa=>qL a b 2 λaH=>cond (aH !=0) (qL a n 2 λaI=>qL a b 2 λaJ=>cond (aI==aJ) (qL a n 3 λaK=>qL a b 3 λaL=>cond (aK==aL) (K (.bool false) a) ((l (i64.wrap (g+1)) a))) ((l (i64.wrap (g+1)) a))) ((l (i64.wrap (g+1)) a))) ((aM (i64.wrap (i12+1)) q)))) X) (qO 0 o λJ d A=>cond (decide (d<64)) (Dr (λB=>qW s d 1 λx=>qD B x λF=>qQ om #[Pv c,Iv d] B λG j=>zG j x (Iv F) λaO=>cond (G !=F) (K (.bool false) j) (qW t d 1 λm=>qD j m λr=>qQ nz #[Pv c,Iv d] j λH i=>zG i m (Iv r) λaP=>cond (H !=r) (K (.bool false) i) ((J (i64.wrap (d+1)) i)))) A) (K (.bool true) A))
variable{K w}
def anM(bN bR bP l)(h:Tf K w bN bR bP l):=bL (z8 [32,35,36,38,58,60,61,67,69,70] [] [(11,[(12,jZ)])]) #[Iv bN,Iv bR,Sv bP,Sv l] K w Tryz.func14 h
def Gh(h:xc K w):=bL (z8 [12,13,19,26,33,40]) #[] K w Tryz.func15 h
def sv(bN bR bP l)(h:nQ K w bN bR bP l):=bL (z8 [10,13,17,18,22,23]) #[Iv bN,Iv bR,Sv bP,Sv l] K w Tryz.func16 h
def apu(c)(h:Tg K w c):=bL (z8 [21,22,24,40,43,44,48,49,51,54,62,66,74,78,80,92,98,105,108,110,118,127] [(8,[[0,2,3,1,4,5]],[1,4]),(27,[[0,1,3,4,5,6,2,7,8,9,10,12,13,14,15,11,16,17]],[2,11])] [(5,[(6,jZ)]),(12,[(10,jZ)]),(19,[(11,jZ)]),(25,[(14,jZ)])] [(11,[]),(16,[])]) #[Pv c] K w Tryz.func33 h
end Go.Mp
namespace Go.Mp
open Go Go.Vc Go.Sp Go.Proofs Go.Kc
variable{E:Env}{L:ch}{w:World}{A:At}{S:Cs}
def xd{T:TS}:T.all.Pairwise (· < ·):=by
 unfold TS.all;rw[jK];exact(GM.filter _).imp (λ{a b} h=>by show(a:Int)<(b:Int);omega)
def AR{T:TS}(b:ha T){x:Int}:x∈T.all↔(T.pg x).isSome=true:=by
 unfold TS.all;rw[e4];constructor
 ·rintro⟨i,a,rfl⟩;rw[fO]at a;exact a.2
 ·intro h;obtain⟨p,hp⟩:=kq.1 h;have h1:=b.ids _ _ hp;refine⟨x.toNat,fO.2 ⟨fW.2 bA,?_⟩,by show((x.toNat:Nat):Int)=x;omega⟩;rw[show((x.toNat:Nat):Int)=x by omega];exact h
def Gi(b:Kc.Inv S):Tp.fq S.bz 16777216:=λk a=>by
 obtain⟨p,hp⟩:=kq.1 a;have:=b.ct.ids _ _ hp;have:=b.ids;omega
def AS(c:Kc.Inv S)(h:Sep E (cd A S++L) w):Calls P uD #[Pb A.c] w
  (bW λv w'=>∃s:Sl,v=Sv s/\s.n=S.bz.all.length/\Sep E (cd A S++bC s 1 (bD S.bz.all)::L) w'):=by
 apply Gb;unfold xa qJ qZ;refine⟨_,rfl,ld h 0 rfl rfl rfl (use (Tp.Fa (Gi c) bO (h.fr 11 rfl)) ?_)⟩;rintro _ d ⟨s,l,rfl,b,a,h1⟩;have e:l=S.bz.all:=Gp.wI (r:=(· < · :Int->Int->Prop)) (λx=>Hl x) (λx y z=>Int.lt_trans) a.cX xd (λk=>by rw[a.mem,AR c.ct]);subst e;have h1:=h1.g1 (q:=11) rfl;exact⟨s,rfl,s,rfl,b,Sep.eA (Q:=cd A S) h1⟩
end Go.Mp
namespace Go.Mp
open Go Go.Vc Go.Sp Go.Proofs Go.Kc Go.Kw Go.Kt
variable{E:Env}{L:ch}{w W:World}{A:At}{v:Nat}{V:Vs}
def kp:List c7:=[⟨3,0,0,0,0⟩,⟨5,0,3,0,0⟩,⟨9,0,1,7,0⟩,⟨9,0,17,8,0⟩,⟨8,0,1,0,0⟩,⟨8,0,17,0,0⟩,⟨8,0,33,0,0⟩]
def Gj:(dv (Vs.new 1 9 []) kp).2.map (λa=>(a.err,a.n))= [(0,0),(0,0),(0,0),(0,0),(0,7),(0,8),(0,0)]:=by decide+kernel
def sw{k:Nat}{e n:Int}(h: [((0:Int),(0:Int)),(0,0),(0,0),(0,0),(0,7),(0,8),(0,0)][k]?=some (e,n)):∃a,(dv (Vs.new 1 9 []) kp).2[k]?=some a/\a.err=e/\a.n=n:=by
 rw[<- Gj,ew]at h;cases b:(dv (Vs.new 1 9 []) kp).2[k]? with
 |none=>rw[b]at h;cases h
 |some a=>rw[b]at h;cases h;exact⟨a,rfl,rfl,rfl⟩
def Gk{o:Array Obj}(h:Sep E (cy o::L) w):Calls P w9 #[] w (bW λx w'=>x=.bool true/\Sep E (cy o::L) w'):=by
 apply Gh;unfold xc qJ qL qW zi;refine Al.i h (λp u h1=>?_);have h1:Sep E (cy o::bE p (bQ dO kp)::L) u:=h1.swap;have n:=wY (fr:=1) (sl:=9) (sz:=⟨none,0,0⟩) (l:=[]) (ol:=⟨some ⟨p,0,none⟩,7,7⟩) (os:=kp) (L:=bE p (bQ dO kp)::L) (o:=o) ⟨rfl,λw _ i x hx=>by cases hx⟩ (dN _) (kn.gY (q:=0) (c:=7) (os:=kp) rfl) bO h1;refine use n ?_;rintro _ w2 ⟨s,rfl,a⟩;have hlen:s.n=7:=(dQ.len 0 a rfl).trans (sa kp _);obtain⟨a4,j,_,r⟩:=sw (k:=4) rfl;obtain⟨a5,m,_,n5⟩:=sw (k:=5) rfl;obtain⟨v,b,t,n6⟩:=sw (k:=6) rfl;refine⟨s,rfl,bT (by rw[hlen];rfl) (dQ.el 0 a rfl (show(4:Int)=((4:Nat):Int)from rfl) j (λy _ e=>⟨_,e,bT (by rw[r];rfl) (dQ.el 0 a rfl (show(5:Int)=((5:Nat):Int)from rfl) m (λz _ f=>⟨_,f,bT (by rw[n5];rfl) (dQ.el 0 a rfl (show(6:Int)=((6:Nat):Int)from rfl) b (λA _ g=>⟨_,g,bT (by rw[n6];rfl) (dQ.el 0 a rfl (show(6:Int)=((6:Nat):Int)from rfl) b (λB d _=>⟨_,d,?_,a.tail.perm (Hi _) |>.ro 2 [0] rfl⟩))⟩))⟩))⟩))⟩;rw[t];rfl
def ll{a:Addr}{x:Value}(h:St E A v V L w)(ho:A.o=W.heap)(b:W.cell? a=some x):w.cell? a=some x:=by
 have:=h.drop;rw[ho]at this;exact nN (q:=0) this rfl b
def fG(W:World)(l:Sl)(os:List c7):Prop:=l.n=os.length/\∀(i:Nat) o,os[i]?=some o->∃a,l.p=some a/\∀(j:Nat) x,(dO o)[j]?=some x->W.cell? ((a.add (i*5)).add j)=some x
def St.op{l:Sl}{os:List c7}(b:fG W l os)(ho:A.o=W.heap)(h:St E A v V L w){k:Nat}{o:c7}(c:os[k]?=some o){F:Addr->Prop}(f:∀a,(∀(j:Nat) x,(dO o)[j]?=some x->∀ {V':Vs} {L':ch} {w':World},St E A v V' L' w'->w'.cell? (a.add j)=some x)->F a):cx l.p l.n (k:Int) 5 F:=by
 obtain⟨a,hp,d⟩:=b.2 k o c;have g:=(cT.1 c).1;have e:=b.1;refine⟨a,hp,⟨bA,bA⟩,?_⟩;rw[dk];exact f _ (λj x hx V' L' w' h'=>ll h' ho (d j x hx))
end Go.Mp
namespace Go.Mp
open Go Go.Vc Go.Sp Go.Proofs Go.Kc
def oA{α:Type}{n:Nat}{R:Nat->α->Prop}(h:∀i,i<n->∃x,R i x):∃l:List α,l.length=n/\∀i x,l[i]?=some x->R i x:=by
 induction n with
 |zero=>exact⟨[],rfl,λi x hx=>by simp at hx⟩
 |succ n f=>
  obtain⟨l,b,e⟩:=f (λi c=>h i bA);obtain⟨x,hx⟩:=h n bA;refine⟨l++[x],by simp[b],λi y a=>?_⟩;rcases gS i n with c|c;·rw[eE bA]at a;exact e i y a
  ·have d:=(cT.1 a).1;have:i=n:=by simp[b]at d;omega
   subst this;rw[fo bA,b,hG]at a;rw[<- cQ a];exact hx
end Go.Mp
namespace Go.Mp
open Go Go.Vc Go.Sp Go.Proofs Go.Kc Go.Kw
def sx{W:World}{v:Value}(h:Rd P W lk [v]):∃(l:Sl) (xs:List c7),v=Sv l/\fG W l xs:=by
 obtain⟨p,n,c,rfl,_,_,q⟩:=h.fF (e:=nO) cr;have key:∀i,i<n->∃x:c7,∃a,p=some a/\∀(j:Nat) v,(dO x)[j]?=some v->W.cell? ((a.add (i*5)).add j)=some v:=by
  intro i m;obtain⟨a,es,rfl,b,d,r⟩:=q i m;have o:P.cellsOf nO=5:=by kernel_rfl
  rw[o]at d b;have hf:=r.leaves 3 (ts:=[tv,hb,hb,hb,hb]) cr
  match es,b,hf with
  |[v0,v1,v2,v3,v4],_,⟨s,t,u,w,y,_⟩=>
  obtain⟨k,rfl,_⟩:=s.e1 (k:=.i64) cr;obtain⟨z,rfl,_⟩:=t.e1 (k:=.i64) cr;obtain⟨A,rfl,_⟩:=u.e1 (k:=.i64) cr;obtain⟨B,rfl,_⟩:=w.e1 (k:=.i64) cr;obtain⟨C,rfl,_⟩:=y.e1 (k:=.i64) cr;refine⟨⟨k,z,A,B,C⟩,a,rfl,λj v f=>?_⟩;have g:j<5:=(cT.1 f).1;rw[d j g];exact f
 obtain⟨xs,b,hx⟩:=oA key;exact⟨⟨p,n,c⟩,xs,rfl,b.symm,hx⟩
end Go.Mp
namespace Go.Proofs.YtafigbgagbolgaaGreatDoor
open Go Go.Vc Go.Sp Go.Mp Go.RowKit Go.ChangeShapes
def Gl{α:Type}{a:Array α}(h:a.size=4):∃b c d e,a= #[b,c,d,e]:=by
 obtain⟨l⟩:=a
 match l,h with
 |[b,c,d,e],_=>exact⟨b,c,d,e,rfl⟩
def oB{t:TypeId}{W:World}{base:Nat}{v:Value}(b:dW P t=some false)(h:Rd P W t v.cells.toList/\Value.okWide P W .any base t v):Rd P W t [v]:=by
 obtain⟨h1,a⟩:=h;rw[vO a b]at h1;exact h1
def q1{W:World}{base:Nat}{v:Value}(h:Rd P W lk v.cells.toList/\Value.okWide P W .any base lk v):∃(l:Sl) (xs:List Kw.c7),v=.slice l.p l.n l.c/\fG W l xs:=
 sx (oB cr h)
end Go.Proofs.YtafigbgagbolgaaGreatDoor
namespace Go.Kc
open Go Go.Kt Go.Sp
variable{S S':Cs}{id:Int}
structure Sets(S:Cs)(g c5 n:Int)(r:Cs×Int):Prop where
 mem:∀x,r.1.memory x=S.memory x
 swp:∀x,r.1.swap x=S.swap x
 one:∀x,db r.1.fr.used x=if r.2=0/\c5=2/\x=g then n else db S.fr.used x
 two:∀x,db r.1.sl.used x=if r.2=0/\c5=3/\x=g then n else db S.sl.used x
 ok:r.2=0->S.live g=true
 bK:r.1.fr.bK.length=S.fr.bK.length/\r.1.sl.bK.length=S.sl.bK.length
def xe(h:Inv S)(g c5 n:Int):Sets S g c5 n (S.cf g c5 n):=by
 have none_:∀r:Cs×Int,r.1.fr=S.fr->r.1.sl=S.sl->(r.2=0->S.live g=true/\c5≠2/\c5≠3)->Sets S g c5 n r:=by
  intro r h1 d f;refine⟨λx=>by unfold Cs.memory;rw[h1],λx=>by unfold Cs.swap;rw[d],λx=>?_,λx=>?_,λe=>(f e).1,by rw[h1,d];exact⟨rfl,rfl⟩⟩;·rw[bJ (λe=>(f e.1).2.1 e.2.1),h1]
  ·rw[bJ (λe=>(f e.1).2.2 e.2.1),d]
 unfold Cs.cf;split;·exact none_ _ rfl rfl (λe=>by cases e)
 next a=>
 have a:S.live g=true:=by simpa using a
 have i:fx g=true:=iJ.2 ⟨(nb a).1,by have:=(nb a).2;have:=h.wf.fq;omega⟩;split;·exact none_ _ rfl rfl (λe=>by cases e)
 next b=>
 have b:gf n=true:=by simpa using b
 split;·next e=>exact none_ _ rfl rfl (λ_=>⟨a,bA,bA⟩)
 split;·next e=>exact none_ _ rfl rfl (λ_=>⟨a,bA,bA⟩)
 have c:∀C:List ei,(hs C g n).2=0:=λC=>by unfold hs;rw[i,b];rfl
 split
 ·next e=>
  refine⟨λx=>vo h.fr.used.len _ _ _,λx=>rfl,λx=>?_,λx=>?_,λ_=>a,rfl,rfl⟩
  ·show db (hs S.fr.used g n).1 x=_;rw[w8 h.fr.used.len i b];by_cases hx:x=g;·rw[bM hx,bM ⟨c _,e,hx⟩]
   ·rw[bJ hx,bJ (λe=>hx e.2.2)]
  ·rw[bJ (λe=>bA)]
 split
 ·next e=>
  refine⟨λx=>rfl,λx=>vo h.sl.used.len _ _ _,λx=>?_,λx=>?_,λ_=>a,rfl,rfl⟩;·rw[bJ (λe=>bA)]
  ·show db (hs S.sl.used g n).1 x=_;rw[w8 h.sl.used.len i b];by_cases hx:x=g;·rw[bM hx,bM ⟨c _,e,hx⟩]
   ·rw[bJ hx,bJ (λe=>hx e.2.2)]
 split
 ·split;·exact none_ _ rfl rfl (λe=>by cases e)
  ·exact none_ _ rfl rfl (λ_=>⟨a,bA,bA⟩)
 ·exact none_ _ rfl rfl (λe=>by cases e)
structure sy(S:Cs)(x:Act)(r:Cs×Int×Int×Int):Prop where
 mem:∀g,r.1.memory g<=S.memory g\/r.1.memory g<=db r.1.fr.used g
 swp:∀g,r.1.swap g<=S.swap g\/r.1.swap g<=db r.1.sl.used g
 one:∀g,db r.1.fr.used g=if(x.k.tmod 12=2/\r.2.2.2=0)/\x.b=2/\g=x.a then x.c else db S.fr.used g
 two:∀g,db r.1.sl.used g=if(x.k.tmod 12=2/\r.2.2.2=0)/\x.b=3/\g=x.a then x.c else db S.sl.used g
 ok:x.k.tmod 12=2/\r.2.2.2=0->0<=x.a/\x.a<64
 bK:r.1.fr.bK.length=S.fr.bK.length/\r.1.sl.bK.length=S.sl.bK.length
def Gm(h:Inv S)(b:S.bz.next<16777216)(x:Act):sy S x (S.act x):=by
 have of:∀r:Cs×Int×Int×Int,x.k.tmod 12≠2->ds S r.1->sy S x r:=by
  intro r a L;refine⟨λg=>by rw[(L.lim g).1];exact L.mem g,λg=>by rw[(L.lim g).2];exact L.swp g,λg=>?_,λg=>?_,λe=>absurd e.1 a,L.bK⟩;·rw[bJ (λe=>a e.1.1)];exact(L.lim g).1
  ·rw[bJ (λe=>a e.1.1)];exact(L.lim g).2
 refine oY (P:=λr=>sy S x r) S x (λe=>of _ bA (ds.bZ _)) (λe=>of _ bA (ds.remove h _)) (λe=>?_) (λe=>of _ bA (ds.fresh h b _))
  (λe=>of _ bA (ds.cD h b _ _)) (λe=>of _ bA (ds.cb h.toInv0 h.anon _ _)) (λe=>of _ bA (ds.copy h b _ _)) (λe=>of _ bA (ds.put _ _ _))
  (λe=>of _ bA (ds.get _ _)) (λe=>of _ bA (ds.bX h _ _)) (λe=>of _ bA (ds.same rfl rfl rfl rfl)) (λe=>of _ bA (ds.outs h (rM h _ _)))
 have k:=xe h x.a x.b x.c;refine⟨λg=>.inl ?_,λg=>.inl ?_,λg=>?_,λg=>?_,λd=>?_,k.bK⟩;·show(S.cf x.a x.b x.c).1.memory g<=_;rw[k.mem];exact e7 _
 ·show(S.cf x.a x.b x.c).1.swap g<=_;rw[k.swp];exact e7 _
 ·show db (S.cf x.a x.b x.c).1.fr.used g=_;rw[k.one];simp only[e,uW]
 ·show db (S.cf x.a x.b x.c).1.sl.used g=_;rw[k.two];simp only[e,uW]
 ·have c:=k.ok d.2;exact⟨(nb c).1,by have:=(nb c).2;have:=h.wf.fq;omega⟩
def Gn{T T':TS}(a:T'.next=T.next)(h:∀x,(T'.pg x).isSome=(T.pg x).isSome):T'.all=T.all:=by
 unfold TS.all;rw[a];congr 1;exact pA (λi _=>h _)
def Kept.all(h:Kept S S'):S'.bz.all=S.bz.all:=Gn h.next (λx=>by
 cases hp:S.bz.pg x with
 |none=>rw[h.none_ x hp]
 |some p=>obtain⟨q,a,_⟩:=h.bH x p hp;rw[a];rfl)
end Go.Kc
namespace Go.Kc
open Go Go.Kt
variable{S T:Cs}
def Path.ind{R:Cs->Cs->Prop}(a:∀S,R S S)(c:∀ {A B C},R A B->R B C->R A C)(h1:∀S,Inv S->S.bz.next<16777216->∀x:Act,3<=x.k/\x.k<=11->R S (S.act x).1){n:Nat}(h:Path n S T)(e:Inv S)(f:S.bz.next+n<16777216):R S T:=by
 induction h with
 |nil n=>exact a _
 |act x hx h d=>
  have b:=h.inv e bA;exact c (d e bA) (h1 _ b.1 bA x hx)
def Path.du(t:Int):Path 0 S (S.du t).1:=Path.one 10 t 0 0 0 0 bO
def Path.shrink(t n:Int):Path 0 S (S.shrink t n).1:=Path.one 11 t 0 n 0 0 bO
end Go.Kc
namespace Go.Kw
open Go Go.Kc Go.Kt
def sA:∀(ids:bU) (S:Cs),Path 0 S (j8 ids S)
 |[],S=>.nil 0 S
 |x::r,S=>(Path.bX (S:=S) x (-1)).trans (sA r (S.bX x (-1)).1)
def xf:∀(ids:bU) (S:Cs),Path 0 S (nv ids S)
 |[],S=>.nil 0 S
 |x::r,S=>(Path.bX (S:=S) x 1).trans (xf r (S.bX x 1).1)
def xg(V:Vs)(pid:Int):Path 0 V.core (V.exit pid).core:=by
 cases h:V.space pid with
 |none=>rw[FQ h];exact .nil 0 _
 |some s=>rw[ux h];exact sA _ _
def xh:∀(l:bU) (V:Vs),Path 0 V.core (V.ej l).core
 |[],V=>.nil 0 _
 |x::r,V=>(xg V x).trans (xh r (V.exit x))
def xi{f:Cs->Int->Cs×Int×Int×Int}{pid:Int}(hf:∀S g,Path 1 S (f S g).1):∀(n:Nat) (V:Vs) (o:cE),Path n V.core (fy f pid n V o).1.core
 |0,V,o=>.nil 0 _
 |n+1,V,o=>by
  rw[uy];dsimp only;have h1:=hf V.core (V.group pid);generalize f V.core (V.group pid)=r at h1;have a:Path (n+1) V.core r.1:=h1.up bA;split;·exact a
  split;·exact a
  generalize dead {V with core:=r.1} r.2.2.1=d;have b:=h1.trans (xh d {V with core:=r.1});split;·exact b.up bA
  split;·exact b.up bA
  exact(b.trans (xi hf n _ _)).up bA
def po{f:Cs->Int->Cs×Int×Int×Int}{pid:Int}{V:Vs}(hf:∀S g,Path 1 S (f S g).1)(o:cE):Path (V.procs.length+1) V.core (V.eQ f pid o).1.core:=xi hf _ V o
def sB(V:Vs)(pid p id:Int)(k:Nat)(wr:Bool):(V.enter pid p id k wr).core=(V.core.bX id 1).1:=by
 unfold Vs.enter;dsimp only;split<;>rfl
def xj{V:Vs}(pid id:Int)(o:cE):Path (V.procs.length+1) V.core (V.cb pid id o).1.core:=po (λS g=>(Path.cb id g).up bA) o
def xk{V:Vs}(pid p:Int)(s:Sp)(x:Rg)(o:cE):Path (V.procs.length+1) V.core (V.there pid p s x o).1.core:=by
 unfold Vs.there;split;·exact xj _ _ _
 ·have h:=po (V:=V) (f:=λS g=>S.cD (hi x p) g) (pid:=pid) (λS g=>Path.cD _ g) o;dsimp only;split
  ·next id _=>
   show Path _ _ (Vs.enter _ _ _ _ _ _).core;rw[sB];exact h.trans (Path.bX id 1)
  ·exact h
def Gq{V:Vs}(pid p:Int)(s:Sp)(o:cE):Path (V.procs.length+1) V.core (V.own pid p s o).1.core:=by
 unfold Vs.own;split
 ·next e _=>
  dsimp only;split;·exact xj _ _ _
  have h:=po (V:=V) (f:=λS g=>S.copy e.id g) (pid:=pid) (λS g=>Path.copy _ g) o;split
  ·next id _=>
   show Path _ _ ((Vs.enter _ _ _ _ _ _).core.bX _ _).1;rw[sB];exact(h.trans (Path.bX id 1)).trans (Path.bX _ (-1))
  ·exact h
 ·have h:=po (V:=V) (f:=λS g=>S.fresh g) (pid:=pid) (λS g=>Path.fresh g) o;dsimp only;split
  ·next id _=>
   show Path _ _ (Vs.enter _ _ _ _ _ _).core;rw[sB];exact h.trans (Path.bX id 1)
  ·exact h
def xl(V:Vs)(pid p:Int):(V.cS pid p).core=V.core:=by
 unfold Vs.cS;split<;>rfl
def Gr{V:Vs}(pid:Int)(s:Sp)(b:Int):Path (V.procs.length+1) V.core (V.load pid s b).1.core:=by
 unfold Vs.load;dsimp only;split;·exact .nil _ _
 next x _=>
 split;·exact .nil _ _
 split;·exact .nil _ _
 have h:=xk (V:=V) pid (b/16) s x .zero;split;·exact h
 ·next id _=>
  show Path _ _ (Vs.cS _ _ _).core;rw[xl];exact h.trans (Path.get id (b%16))
def Gs{V:Vs}(pid:Int)(s:Sp)(b c:Int):Path (V.procs.length+1) V.core (V.store pid s b c).1.core:=by
 unfold Vs.store;dsimp only;split;·exact .nil _ _
 split;·exact .nil _ _
 next x _=>
 split;·exact .nil _ _
 split;·exact .nil _ _
 have h:Path (V.procs.length+1) V.core (if x.kind=2 then V.there pid (b/16) s x .zero else V.own pid (b/16) s .zero).1.core:=by
  split;·exact xk pid (b/16) s x .zero
  ·exact Gq pid (b/16) s .zero
 generalize (if x.kind=2 then V.there pid (b/16) s x .zero else V.own pid (b/16) s .zero)=r at h;split;·exact h
 ·next id _=>
  show Path _ _ (Vs.cS _ _ _).core;rw[xl];exact h.trans (Path.put id (b%16) _)
def Gt{V:Vs}(s:Sp)(o:c7):Path (V.procs.length+1) V.core (V.call s o).1.core:=by
 unfold Vs.call;dsimp only;split;·split<;>exact .nil _ _
 split;·split<;>exact .nil _ _
 split
 ·split;·split<;>exact .nil _ _
  ·exact .nil _ _
 split
 ·split;·exact(sA _ _).up bA
  ·exact .nil _ _
 split;·exact Gr _ _ _
 split;·exact Gs _ _ _ _
 split
 ·split;·exact .nil _ _
  ·exact(xf _ _).up bA
 exact(xg _ _).up bA
def Gu{V:Vs}{o:c7}(ho:o.kind≠0/\o.kind≠1/\o.kind≠2):Path (V.procs.length+1) V.core (V.act o).1.core:=by
 unfold Vs.act;rw[bJ ho.1,bJ ho.2.1,bJ ho.2.2];dsimp only;split
 ·split;·exact .nil _ _
  ·split<;>exact .nil _ _
 split;·exact(Path.du _).up bA
 split;·exact(Path.shrink _ _).up bA
 split;·exact .nil _ _
 split;·exact .nil _ _
 ·exact Gt _ _
end Go.Kw
namespace Go.Kc
open Go Go.Kt Go.Sp
variable{S S' T:Cs}{id g:Int}
def hQ.none_(h:hQ S S'):S'.bz.pg id=none↔S.bz.pg id=none:=by
 have:=h.kr id;cases a:S'.bz.pg id<;>cases hp:S.bz.pg id<;>rw[a,hp]at this<;>simp at this ⊢
end Go.Kc
namespace Go.Mp
open Go Go.Vc Go.Sp Go.Proofs Go.Kc Go.Kw Go.Kt
variable{E:Env}{L:ch}{w W:World}{A:At}{v:Nat}{V:Vs}
def sC(bN bR:Int)(bP l:Sl)(w:World):Calls P nP #[Iv bN,Iv bR,Sv bP,Sv l] w
  (bW λv w'=>v=.bool (decide (bN>24)||decide (bR>24)||decide (bP.n>40)||decide (l.n>40))/\w'=w):=by
 apply sv;unfold nQ;refine eW (λh1=>⟨by rw[dh h1];rfl,rfl⟩) (λh1=>eW (λa=>⟨by rw[dh a,sP];rfl,rfl⟩) (λa=>eW (λb=>⟨by rw[dh (show bP.n>40 by omega),sP];rfl,rfl⟩) (λb=>⟨?_,rfl⟩)));rw[c4 (show ¬ bN>24 by omega),c4 (show ¬ bR>24 by omega),c4 (show ¬ bP.n>40 by omega)];simp only[uU];congr 1;simp only[pC];omega
end Go.Mp
namespace Go.Mp
open Go Go.Vc Go.Sp Go.Proofs Go.Kc
variable{E:Env}{L:ch}{w:World}{A:At}{S:Cs}
def xm{W:World}{v:Value}(h:Rd P W jB [v]):∃(s:Sl) (l:bU),v=Sv s/\qT W s l:=by
 obtain⟨p,n,c,rfl,j,_,o⟩:=h.fF (e:=hb) cr;have key:∀i,i<n->∃x:Int,∃a,p=some a/\W.cell? (a.add i)=some (Iv x):=by
  intro i g;obtain⟨a,es,rfl,b,f,d⟩:=o i g;have m:P.cellsOf hb=1:=by kernel_rfl
  rw[m]at f b
  match es,b,d with
  |[v0],_,d=>
  obtain⟨k,rfl,_⟩:=d.e1 (k:=.i64) cr;refine⟨k,a,rfl,?_⟩;have:=f 0 bA;rw[fC,Addr.add,Addr.add]at this;simpa[Addr.add]using this
 obtain⟨xs,b,hx⟩:=oA key;exact⟨⟨p,n,c⟩,xs,rfl,b.symm,j,hx⟩
end Go.Mp
namespace Go.Mp
open Go Go.Vc Go.Sp Go.Proofs Go.Kc Go.Kw Go.Kt
variable{E:Env}{L:ch}{w W:World}{A:At}{v:Nat}{V:Vs}
def sD{bN bR:Int}{n m:Nat}(h:(decide (bN>24)||decide (bR>24)||decide (n>40)||decide (m>40))=false):bN<=24/\bR<=24/\n<=40/\m<=40:=by
 simp only[uI,uH]at h;omega
def St.cc(h:St E A v V L w):∃(B:At) (M:ch),B.c=A.c/\B.t=A.t/\Sep E (cd B V.core++M) w/\∀(F:ch) w',Sep E (cd B V.core++(F++M)) w'->St E A v V (F++L) w':=by
 obtain⟨gs,us,r,ps,h1,a,b⟩:=h;refine⟨{A with gs:=gs,us:=us},(bE v [Pb A.c,Sv r]::bC r 2 (bQ gJ ps)::(ps.map g2++L)),rfl,rfl,b,λF w' c=>⟨gs,us,r,ps,h1,a,?_⟩⟩;refine c.perm (mu _ ?_);have e:(bE v [Pb A.c,Sv r]::bC r 2 (bQ gJ ps)::(ps.map g2++L))=(bE v [Pb A.c,Sv r]::bC r 2 (bQ gJ ps)::ps.map g2)++L:=rfl;rw[e];exact kH _ _ _
def St.memory(g:Int)(h:St E A v V L w){K:Ending->bh6}(k:∀w',St E A v V L w'->K (.returned (Iv (V.core.memory g))) w'):Calls P om #[Pb A.c,Iv g] w K:=by
 obtain⟨B,M,a,_,h1,b⟩:=h.cc;rw[<- a];refine use (uq g h1) ?_;rintro _ w' ⟨rfl,c⟩;exact k w' (b [] w' c)
def St.swap(g:Int)(h:St E A v V L w){K:Ending->bh6}(k:∀w',St E A v V L w'->K (.returned (Iv (V.core.swap g))) w'):Calls P nz #[Pb A.c,Iv g] w K:=by
 obtain⟨B,M,a,_,h1,b⟩:=h.cc;rw[<- a];refine use (wD g h1) ?_;rintro _ w' ⟨rfl,c⟩;exact k w' (b [] w' c)
def St.free(h:St E A v V L w){K:Ending->bh6}(k:∀w',St E A v V L w'->K (.returned (.tuple #[Iv (pn V.core.fr.bK),Iv (pn V.core.sl.bK)])) w'):Calls P F8 #[Pb A.c] w K:=by
 obtain⟨B,M,a,_,h1,b⟩:=h.cc;rw[<- a];refine use (aLB h1) ?_;rintro _ w' ⟨rfl,c⟩;exact k w' (b [] w' c)
def St.bz(h:St E A v V L w)(m:fU V){K:Ending->bh6}(k:∀(s:Sl) w',s.n=V.core.bz.all.length->St E A v V (bC s 1 (bD V.core.bz.all)::L) w'->K (.returned (Sv s)) w'):Calls P uD #[Pb A.c] w K:=by
 obtain⟨B,M,a,_,h1,b⟩:=h.cc;rw[<- a];refine use (AS m.inv h1) ?_;rintro _ w' ⟨s,rfl,d,c⟩;exact k s w' d (b [_] w' c)
def St.bH(id:Int)(h:St E A v V L w){K:Ending->bh6}(k:∀w',St E A v V L w'->K (.returned (.tuple #[.agg (V.core.bz.get id).1.vs.toArray,Iv (V.core.bz.get id).2])) w'):Calls P rP #[Pb A.c,Iv id] w K:=by
 obtain⟨B,M,a,_,h1,b⟩:=h.cc;rw[<- a];refine use (uw id h1) ?_;rintro _ w' ⟨rfl,c⟩;exact k w' (b [] w' c)
def St.alloc{c:Array Value}{t:TypeId}{f:Addr->bh6}(h:St E A v V L w)(k:∀b w',St E A v V (bE b c.toList::L) w'->f ⟨b,0,none⟩ w'):Al (.cells c t) f w:=by
 obtain⟨gs,us,r,ps,h1,a,d⟩:=h;exact Al.i d (λb w' e=>k b w' ⟨gs,us,r,ps,h1,a,Vm.eA e⟩)
end Go.Mp
namespace Go.Kw
open Go Go.Kc Go.Kt
def Gv{S T:Cs}{n:Nat}(h:Path n S T)(d:Kc.Inv S)(b:S.bz.next+n<16777216):ds S T:=by
 refine h.ind (R:=ds) ds.refl ds.trans (λS d b x hx=>?_) d b;have a:=Gm d b x;have f:x.k.tmod 12=x.k:=Int.tmod_eq_of_lt bA bA;have h1:∀g,db (S.act x).1.fr.used g=db S.fr.used g:=λg=>by rw[a.one,bJ (λe=>bA)]
 have c:∀g,db (S.act x).1.sl.used g=db S.sl.used g:=λg=>by rw[a.two,bJ (λe=>bA)]
 exact⟨λg=>⟨h1 g,c g⟩,λg=>by rw[<- h1];exact a.mem g,λg=>by rw[<- c];exact a.swp g,a.bK⟩
end Go.Kw
namespace Go.Mp
open Go Go.Vc Go.Sp Go.Proofs Go.Kc
variable{E:Env}{L:ch}{w:World}{A:At}{S:Cs}
def Sep.lM{s:Sl}{l:bU}{i x:Int}{F:bh6}{q:Nat}(h:Sep E L w)(c:L[q]?=some (bC s 1 (bD l)))(f:s.n=l.length)(d:0<=i)(h1:i<l.length)(k:∀b,Sep E (L.set q (bC s 1 (bD (l.set i.toNat x)))) b->F b):cx s.p s.n i 1 λa=>Vc.St a (Iv x) F w:=
 iY (h.fr q c) f d h1 (λb e=>k b (Sep.put c e))
def gA(C:List ei)(a:bU):Prop:=a.length=64/\∀g:Nat,g<64->a[g]?=some (db C g)
def gA.same{C a:List ei}{b:bU}(h:gA C b)(c:∀g,db a g=db C g):gA a b:=⟨h.1,λg d=>by rw[c];exact h.2 g d⟩
end Go.Mp
namespace Go.Kc
open Go Go.Kt Go.Sp
variable{S:Cs}
def wC(T:TS)(pl:Int)(is:Pg->Bool):hY T pl is=(T.all.filter λid=>pB (T.pg id) pl is).length:=by
 unfold hY hj TS.all;rw[List.filter_map,eb,List.filter_filter,List.countP_eq_length_filter];congr 1;apply pA;intro i _;unfold l7 pB;dsimp only[Function.comp];show _=((match T.pg (Int.ofNat i)with|some p=>p.place==pl&&is p|none=>false)&&(T.pg (i:Int)).isSome)
 rw[show Int.ofNat i=(i:Int)from rfl];cases T.pg (i:Int)with
 |none=>rfl
 |some p=>simp
def Th(h:Inv S)(pl:Int):hY S.bz pl (below S.tree 0)=hY S.bz pl (λ_=>true):=by
 refine tk rfl (λx=>?_);cases hp:S.bz.pg x with
 |none=>rfl
 |some p=>
  have:=(l5 h.wf (h.own _ _ hp)).2.2.1;show(p.place==pl&&(c8 S.tree p.owner).contains 0)=(p.place==pl&&true)
  rw[show(c8 S.tree p.owner).contains 0=true by simpa using this]
def aI3(h:Inv S):pn S.fr.bK+S.memory 0=S.fr.bK.length/\pn S.sl.bK+S.swap 0=S.sl.bK.length:=by
 have h1:=h.fr.use 0 bO bO;have a:=h.sl.use 0 bO bO;have b:=h.fr.all;have c:=h.sl.all;rw[Th h]at h1 a;unfold pn Cs.memory Cs.swap;omega
def eL(S:Cs)(pl:Int):bU->bU->bU
 |M,[]=>M
 |M,id::r=>eL S pl (if(S.bz.get id).1.place=pl then jD M ((S.chain (S.bz.get id).1.owner).map Int.toNat)else M) r
def Gw(pl:Int):∀(ids M:bU) (id:Int),eL S pl M (ids++[id])=(if(S.bz.get id).1.place=pl then jD (eL S pl M ids) ((S.chain (S.bz.get id).1.owner).map Int.toNat)else eL S pl M ids)
 |[],_,_=>rfl
 |x::ids,M,id=>by rw[oJ,eL,Gw pl ids,eL]
def Gx(pl:Int):∀(ids M:bU),(eL S pl M ids).length=M.length
 |[],_=>rfl
 |x::ids,M=>by
  rw[eL,Gx pl ids];split;·exact ug _ _
  ·rfl
def Ti{l:bU}(h:∀x∈l,0<=x)(c:l.Nodup):(l.map Int.toNat).Nodup:=by
 induction l with
 |nil=>simp
 |cons a l f=>
  rw[pD]at c;rw[mC,pD];refine⟨λhm=>?_,f (λx hx=>h x (fI _ hx)) c.2⟩;obtain⟨b,d,e⟩:=e4.1 hm;have h1:=h a (fj ..);have g:=h b (fI _ d);have:a=b:=by omega
  rw[this]at c;exact c.1 d
def AT(h:Inv S)(pl:Int){g:Nat}:∀(ids M:bU) (x:Int),(∀id∈ids,(S.bz.pg id).isSome=true)->M[g]?=some x->(eL S pl M ids)[g]?=some (x+((ids.filter λid=>pB (S.bz.pg id) pl (below S.tree g)).length:Nat))
 |[],M,x,_,hx=>by simpa[eL]using hx
 |id::ids,M,x,c,hx=>by
  obtain⟨p,hp⟩:=kq.1 (c id (fj ..));have j:=l5 h.wf (h.own _ _ hp);have k:S.bz.get id=(p,0):=h.bH hp;have d:g∈(S.chain p.owner).map Int.toNat↔(g:Int)∈c8 S.tree p.owner:=by
   rw[e4];constructor
   ·rintro⟨y,a,e⟩;have:=(j.1 y a).1;rw[<- e,show((y.toNat:Nat):Int)=y by omega];exact a
   ·intro a;exact⟨_,a,by simp⟩
  have f:pB (S.bz.pg id) pl (below S.tree g)=(decide (p.place=pl)&&decide ((g:Int)∈c8 S.tree p.owner)):=by
   rw[hp];show(p.place==pl&&(c8 S.tree p.owner).contains (g:Int))=_;rw[G8];simp
  rw[eL,k];dsimp only;by_cases b:p.place=pl
  ·rw[bM b];have:=uh ((S.chain p.owner).map Int.toNat) M g x (Ti (λy a=>(j.1 y a).1) j.2.1) hx;rw[AT h pl ids _ _ (λy a=>c y (fI _ a)) this];congr 1;by_cases i:(g:Int)∈c8 S.tree p.owner;·rw[bM (d.2 i),List.filter_cons_of_pos (by rw[f];simp[b,i]),hS];omega
   ·rw[bJ (λe=>i (d.1 e)),TU (by rw[f];simp[i])];omega
  ·rw[bJ b,AT h pl ids _ _ (λy a=>c y (fI _ a)) hx,TU (by rw[f];simp[b])]
def aH1(h:Inv S)(hm:∀id∈S.bz.all,(S.bz.pg id).isSome=true){g:Nat}(b:g<64):
  (eL S 1 (List.replicate 64 0) S.bz.all)[g]?=some (S.memory g)/\(eL S 2 (List.replicate 64 0) S.bz.all)[g]?=some (S.swap g):=by
 have h1:=h.fr.use g bA bA;have a:=h.sl.use g bA bA;rw[wC]at h1 a;refine⟨?_,?_⟩
 ·rw[AT h 1 _ _ 0 hm (by rw[lN,bM b])];unfold Cs.memory;rw[h1];simp
 ·rw[AT h 2 _ _ 0 hm (by rw[lN,bM b])];unfold Cs.swap;rw[a];simp
def many(S:Cs)(pl:Int)(ids:bU):Int:=((ids.filter λid=>(S.bz.get id).1.place==pl).length:Nat)
def Tj(pl:Int)(ids:bU)(id:Int):many S pl (ids++[id])=many S pl ids+if(S.bz.get id).1.place=pl then 1 else 0:=by
 unfold many;rw[sJ,da];by_cases h:(S.bz.get id).1.place=pl;·rw[bM h,List.filter_cons_of_pos (by simpa using h)];simp
 ·rw[bJ h,TU (by simpa using h)];simp
def aJh(h:Inv S)(hm:∀id∈S.bz.all,(S.bz.pg id).isSome=true):many S 1 S.bz.all=S.memory 0/\many S 2 S.bz.all=S.swap 0:=by
 have h1:=h.fr.use 0 bO bO;have a:=h.sl.use 0 bO bO;rw[Th h,wC]at h1 a;have e:∀pl:Int,(S.bz.all.filter λid=>(S.bz.get id).1.place==pl)=S.bz.all.filter λid=>pB (S.bz.pg id) pl (λ_=>true):=by
  intro pl;apply pA;intro id b;obtain⟨p,hp⟩:=kq.1 (hm id b);rw[h.bH hp,hp];show(p.place==pl)=(p.place==pl&&true)
  rw[A9]
 unfold many Cs.memory Cs.swap;rw[e,e,h1,a];exact⟨rfl,rfl⟩
def Tk(pl:Int)(ids:bU):0<=many S pl ids/\many S pl ids<=ids.length:=by
 unfold many;have:=lp (λid=>(S.bz.get id).1.place==pl) ids;omega
end Go.Kc
namespace Go.Kw
open Go Go.Kc Go.Kt Go.Vc
def aIy{V:Vs}(c:Kc.Inv V.core)(d:V.core.bz.next+(V.procs.length+1)<16777216)(o:c7):(V.act o).1.core.fr.bK.length=V.core.fr.bK.length/\(V.act o).1.core.sl.bK.length=V.core.sl.bK.length:=by
 by_cases a:o.kind=0
 ·unfold Vs.act;rw[bM a];exact(ds.bZ _).bK
 by_cases h1:o.kind=1
 ·unfold Vs.act;rw[bJ a,bM h1];split;·exact⟨rfl,rfl⟩
  ·exact(ds.remove c _).bK
 by_cases b:o.kind=2
 ·unfold Vs.act;rw[bJ a,bJ h1,bM b];exact(xe c o.a o.b o.c).bK
 ·exact(Gv (Gu ⟨a,h1,b⟩) c bA).bK
def aJj(fr sl:Int)(zs:bU)(h1:fr<=24)(a:sl<=24):((Vs.new fr sl zs).core.fr.bK.length:Int)=dy fr 0/\((Vs.new fr sl zs).core.sl.bK.length:Int)=dy sl 0:=by
 constructor
 ·show(((iu fr).length:Nat):Int)=_;unfold iu dy;rw[kJ];split<;>omega
 ·show(((iu sl).length:Nat):Int)=_;unfold iu dy;rw[kJ];split<;>omega
end Go.Kw
namespace Go.Mp
open Go Go.Vc Go.Sp Go.Proofs Go.Kc
variable{E:Env}{L:ch}{w:World}{A:At}{S:Cs}
def ij(on:Bool)(M a:bU):bU:=if on then jD M (a.map Int.toNat)else M
def Tl(on:Bool)(M a:bU):(ij on M a).length=M.length:=by
 unfold ij;split;·exact ug _ _
 ·rfl
def Tm(M a:bU)(g:Int):ij true M (a++[g])=(ij true M a).set g.toNat ((ij true M a).getD g.toNat 0+1):=by
 unfold ij;rw[bM rfl,bM rfl,jV,mC,Bb,EV]
def Tn{M b:bU}{n m:Int}(c:∀x∈M,0<=x/\x<=n)(f:∀x∈b,0<=x)(g:b.Nodup)(on:Bool)(hm:n+1<=m):∀x∈ij on M b,0<=x/\x<=m:=by
 intro x hx;unfold ij at hx;split at hx
 ·obtain⟨i,d⟩:=pw.1 hx;have a:=(cT.1 d).1;rw[ug]at a;have:=uh (b.map Int.toNat) M i _ (Ti f g) (dD a);rw[d]at this;have h:=c _ (m7 a);have e:=cQ this;split at e<;>omega
 ·have:=c x hx;omega
def aFC(ab:Kc.Inv S)(bu:S.bz.next<=3000)(h:Sep E (cd A S++L) w):Calls P SY #[Pb A.c] w (bW λv w'=>v=.bool true/\Sep E (cd A S++L) w'):=by
 apply apu;unfold Tg qD qJ qL qO qQ qR qU qV qW qX qg zG zH;refine pb (n:=64) bO h (λs1 bh aj h1=>?_);have h1:Sep E (cd A S++bC s1 1 (bD (List.replicate 64 0))::L) bh:=Sep.eA (Q:=cd A S) h1;refine pb (n:=64) bO h1 (λs2 w2 ak aF=>?_);have aF:Sep E (cd A S++bC s2 1 (bD (List.replicate 64 0))::bC s1 1 (bD (List.replicate 64 0))::L) w2:=Sep.eA (Q:=cd A S) aF;refine use (AS ab aF) ?_;rintro _ bi ⟨r,rfl,al,an⟩;have o:∀id∈S.bz.all,(S.bz.pg id).isSome=true:=λid s=>(AR ab.ct).1 s;have aH:S.bz.all.length<=3000:=by
  have:=p0 3000 S.bz.all (nT.2 (xd.imp (λaX he=>bA))) (λy aL=>by
   obtain⟨p,hp⟩:=kq.1 (o y aL);have:=ab.ct.ids _ _ hp;omega)
  exact this
 have V:S.bz.all.Pairwise (· < ·):=xd;obtain⟨ids,O⟩:∃ids,S.bz.all=ids:=⟨_,rfl⟩
 have aZ:∀g:Nat,g<64->(eL S 1 (List.replicate 64 0) ids)[g]?=some (S.memory g)/\(eL S 2 (List.replicate 64 0) ids)[g]?=some (S.swap g):=λg t=>by rw[<- O];exact aH1 ab o t
 have bn:many S 1 ids=S.memory 0/\many S 2 ids=S.swap 0:=by rw[<- O];exact aJh ab o
 rw[O]at an al o aH V;obtain⟨t1,X⟩:∃t1:Nat->bU,t1= λk=>eL S 1 (List.replicate 64 0) (ids.take k):=⟨_,rfl⟩
 obtain⟨t2,Y⟩:∃t2:Nat->bU,t2= λk=>eL S 2 (List.replicate 64 0) (ids.take k):=⟨_,rfl⟩
 have ah:∀k,(t1 k).length=64:=λk=>by rw[X];simp only;rw[Gx];simp
 have ai:∀k,(t2 k).length=64:=λk=>by rw[Y];simp only;rw[Gx];simp
 have be:∀(k:Nat) id p,ids[k]?=some id->S.bz.get id=(p,0)->t1 (k+1)=ij (decide (p.place=1)) (t1 k) (Kt.c8 S.tree p.owner)/\t2 (k+1)=ij (decide (p.place=2)) (t2 k) (Kt.c8 S.tree p.owner):=by
  intro k id p aV hp;rw[X,Y];simp only;rw[fw aV,Gw,Gw,hp];unfold ij;simp only[gj];exact⟨rfl,rfl⟩
 have aA:t1 0=List.replicate 64 0:=by rw[X];rfl
 have aB:t2 0=List.replicate 64 0:=by rw[Y];rfl
 have aT:t1 ids.length=eL S 1 (List.replicate 64 0) ids:=by rw[X];simp only;rw[fN]
 have aU:t2 ids.length=eL S 2 (List.replicate 64 0) ids:=by rw[Y];simp only;rw[fN]
 have an:Sep E (cd A S++bC r 1 (bD ids)::bC s2 1 (bD (t2 0))::bC s1 1 (bD (t1 0))::L) bi:=by rw[aA,aB];exact an
 refine⟨r,rfl,λi w'=>∃k:Nat,i=k/\k<=ids.length/\(∀x∈t1 k,0<=x/\x<=k)/\(∀x∈t2 k,0<=x/\x<=k)/\
  Sep E (cd A S++bC r 1 (bD ids)::bC s2 1 (bD (t2 k))::bC s1 1 (bD (t1 k))::L) w',λi _=>(ids.length-i).toNat,
  ⟨0,rfl,ec _,by rw[aA];intro x hx;rw[(T6.1 hx).2];exact⟨e7 _,e7 _⟩,by rw[aB];intro x hx;rw[(T6.1 hx).2];exact⟨e7 _,e7 _⟩,an⟩,?_⟩
 rintro _ _ bv ⟨k,rfl,aV,aP,aQ,aG⟩;refine cL (λaX=>?_) (λbm=>?_)
 ·have ax:k<ids.length:=by omega
  obtain⟨id,s⟩:∃id,ids[k]?=some id:=⟨_,dD ax⟩
  obtain⟨p,hp⟩:=kq.1 (o id (eu s));have K:S.bz.get id=(p,0):=ab.bH hp;have I:=l5 ab.wf (ab.own _ _ hp);obtain⟨mm,k9⟩:=be k id p s K;have aJ:=Tj (S:=S) 1 (ids.take k) id;have aK:=Tj (S:=S) 2 (ids.take k) id;rw[<- fw s,K]at aJ aK;have bc:=Tk (S:=S) 1 (ids.take k);have bd:=Tk (S:=S) 2 (ids.take k);have bo:(ids.take k).length<=3000:=by rw[g7];omega
  refine(Ints.at_ (q:=16) rfl al).el aG k rfl s (use (uw id aG) ?_);rintro _ bj ⟨rfl,ao⟩;rw[K];refine⟨_,_,_,_,_,_,_,_,_,_,rfl,Al.i ao (λb bk ad=>eh (vs:=p.vs) _ ad rfl (λa4 H=>?_))⟩;have H:Sep E (cd A S++bE b p.vs::bC r 1 (bD ids)::bC s2 1 (bD (t2 k))::bC s1 1 (bD (t1 k))::L) a4:=Sep.eA (Q:=cd A S) H;refine Dr.i H (λbl ae=>ld ae 16 rfl rfl rfl (use (wL ae) ?_));rintro _ bw ⟨rfl,aO⟩;refine⟨_,rfl,ld aO 16 rfl rfl rfl ⟨rfl,use (rW ab.wf (aO.fr 1 rfl)) ?_⟩⟩;rintro _ a2 ⟨G,rfl,W,u⟩;have u:=u.g1 (q:=1) rfl;obtain⟨c,aS⟩:∃c,Kt.c8 S.tree p.owner=c:=⟨_,rfl⟩
  rw[aS]at W u I mm k9;have a8:c.length<=64:=p0 64 c I.2.1 (λy aL=>I.1 y aL);have u:Sep E (cd A S++bC G 1 (bD c)::bE b p.vs::bC r 1 (bD ids)::bC s2 1 (bD (t2 k))::bC s1 1 (bD (t1 k))::L) a2:=Sep.eA (Q:=cd A S) u;refine⟨G,rfl,λw'=>Sep E (cd A S++bC G 1 (bD c)::bE b p.vs::bC r 1 (bD ids)::bC s2 1 (bD (t2 k))::bC s1 1 (bD (t1 k))::L) w',bF rfl (bF ?_ u),?_⟩
  ·rw[W,uM];have:=List.length_pos_of_mem I.2.2.1;omega
  rintro _ bp aM;have C:∀j,(ij (decide (p.place=1)) (t1 k) (c.take j)).length=64:=λj=>by rw[Tl];exact ah k
  have D:∀j,(ij (decide (p.place=2)) (t2 k) (c.take j)).length=64:=λj=>by rw[Tl];exact ai k
  have Z:∀j,(∀x∈c.take j,0<=x)/\(c.take j).Nodup:=λj=>⟨λx hx=>(I.1 x (mx hx)).1,I.2.1.sublist (oI _ _)⟩
  have af:∀j,∀x∈ij (decide (p.place=1)) (t1 k) (c.take j),0<=x/\x<=((k+1:Nat):Int):=λj=>Tn aP (Z j).1 (Z j).2 _ bA;have ag:∀j,∀x∈ij (decide (p.place=2)) (t2 k) (c.take j),0<=x/\x<=((k+1:Nat):Int):=λj=>Tn aQ (Z j).1 (Z j).2 _ bA;have aw:∀(on:Bool) (M:bU),ij on M (c.take 0)=M:=λon M=>by cases on<;>rfl
  refine⟨λi w'=>∃j:Nat,i=j/\j<=c.length/\Sep E (cd A S++bC G 1 (bD c)::bE b p.vs::bC r 1 (bD ids)::bC s2 1 (bD (ij (decide (p.place=2)) (t2 k) (c.take j)))::bC s1 1 (bD (ij (decide (p.place=1)) (t1 k) (c.take j)))::L) w',λi _=>(c.length-i).toNat,
   ⟨0,rfl,ec _,by rw[aw,aw];exact aM⟩,?_⟩
  rintro _ _ bq ⟨j,rfl,ba,l⟩;refine cL (λR=>?_) (λaI=>?_)
  ·have B:j<c.length:=by omega
   obtain⟨g,t⟩:∃g,c[j]?=some g:=⟨_,dD B⟩
   have f:=I.1 g (eu t);have U:∀(M:bU),M.length=64->M.getD g.toNat 0∈M:=λM bt=>by
    rw[dK,dL];exact m7 _
   refine⟨λw'=>Sep E (cd A S++bC G 1 (bD c)::bE b p.vs::bC r 1 (bD ids)::bC s2 1 (bD (ij (decide (p.place=2)) (t2 k) (c.take j)))::bC s1 1 (bD (ij (decide (p.place=1)) (t1 k) (c.take (j+1))))::L) w',?_,?_⟩
   ·refine ld l 17 rfl rfl rfl (eD (λe=>?_) (λe=>?_))
    ·have e:p.place=1:=e;have J:decide (p.place=1)=true:=by simp[e]
     rw[J]at l af C ⊢;have aR:=af j _ (U _ (C j));refine(Ints.at_ (q:=16) rfl W).el l j rfl t ?_;refine kY 20 l rfl (by rw[C];exact aj) f.1 (by rw[C];exact f.2) (λa aa=>⟨_,aa,?_⟩);refine Sep.lM (q:=20) l rfl (by rw[C];exact aj) f.1 (by rw[C];exact f.2) (λam d=>?_);rw[cH bA bA,<- Tm,<- fw t]at d;exact d
    ·have e:¬ p.place=1:=e;have J:decide (p.place=1)=false:=by simp[e]
     rw[J]at l ⊢;exact l
   rintro _ am d;have fin:∀w',Sep E (cd A S++bC G 1 (bD c)::bE b p.vs::bC r 1 (bD ids)::bC s2 1 (bD (ij (decide (p.place=2)) (t2 k) (c.take (j+1))))::bC s1 1 (bD (ij (decide (p.place=1)) (t1 k) (c.take (j+1))))::L) w'->
     (∃aq:Nat,(i64.wrap ((j:Int)+1))=(aq:Int)/\aq<=c.length/\Sep E (cd A S++bC G 1 (bD c)::bE b p.vs::bC r 1 (bD ids)::bC s2 1 (bD (ij (decide (p.place=2)) (t2 k) (c.take aq)))::bC s1 1 (bD (ij (decide (p.place=1)) (t1 k) (c.take aq)))::L) w')/\(((c.length:Nat):Int)-i64.wrap ((j:Int)+1)).toNat<(((c.length:Nat):Int)-(j:Int)).toNat:=by
    intro w' a0;rw[c1];exact⟨⟨j+1,rfl,B,a0⟩,bA⟩
   refine ld d 17 rfl rfl rfl (eD (λe=>?_) (λe=>?_))
   ·have e:p.place=2:=e;have J:decide (p.place=2)=true:=by simp[e]
    rw[J]at d ag D fin ⊢;have aR:=ag j _ (U _ (D j));refine(Ints.at_ (q:=16) rfl W).el d j rfl t ?_;refine kY 19 d rfl (by rw[D];exact ak) f.1 (by rw[D];exact f.2) (λa aa=>⟨_,aa,?_⟩);refine Sep.lM (q:=19) d rfl (by rw[D];exact ak) f.1 (by rw[D];exact f.2) (λaC T=>?_);rw[cH bA bA,<- Tm,<- fw t]at T;exact fin aC T
   ·have e:¬ p.place=2:=e;have J:decide (p.place=2)=false:=by simp[e]
    rw[J]at d fin ⊢;exact fin am d
  ·have B:c.take j=c:=hE bA;have ar:=af j;have au:=ag j;rw[B,<- mm]at ar;rw[B,<- k9]at au;rw[B,<- mm,<- k9]at l;refine⟨λi w'=>∃m:Nat,i=m/\m<=k/\Sep E (cd A S++bC G 1 (bD c)::bE b p.vs::bC r 1 (bD ids)::bC s2 1 (bD (t2 (k+1)))::bC s1 1 (bD (t1 (k+1)))::L) w',λi _=>(k-i).toNat,⟨0,rfl,ec _,l⟩,?_⟩;rintro _ _ am ⟨m,rfl,hm,d⟩;refine cL (λbb=>?_) (λa9=>?_)
   ·have ay:m<k:=by omega
    obtain⟨F,N⟩:∃F,ids[m]?=some F:=⟨_,dL⟩
    obtain⟨p2,az⟩:=kq.1 (o F (eu N));have ap:S.bz.get F=(p2,0):=ab.bH az;have aY:F≠id:=by
     obtain⟨bf,aD⟩:=cT.1 N;obtain⟨bg,aE⟩:=cT.1 s;have:=m5.1 V m k bf bg ay;rw[aD,aE]at this;omega
    refine(Ints.at_ (q:=18) rfl al).el d m rfl N (use (uw F d) ?_);rintro _ aC ⟨rfl,T⟩;rw[ap];refine⟨_,_,_,_,_,_,_,_,_,_,rfl,Al.i T (λb2 br aN=>eh (vs:=p2.vs) _ aN rfl (λa3 z=>?_))⟩;have fin:(∃a1:Nat,(i64.wrap ((m:Int)+1))=(a1:Int)/\a1<=k/\Sep E (cd A S++bC G 1 (bD c)::bE b p.vs::bC r 1 (bD ids)::bC s2 1 (bD (t2 (k+1)))::bC s1 1 (bD (t1 (k+1)))::L) a3)/\(((k:Nat):Int)-i64.wrap ((m:Int)+1)).toNat<(((k:Nat):Int)-(m:Int)).toNat:=by
     rw[c1];exact⟨⟨m+1,rfl,ay,z.tail⟩,bA⟩
    refine ld z 18 rfl rfl rfl (gV (λa5=>?_) (λ_=>fin));refine ld z 0 rfl rfl rfl (ld z 18 rfl rfl rfl (eD (λaD=>?_) (λ_=>fin)));refine ld z 0 rfl rfl rfl (ld z 18 rfl rfl rfl (eD (λaE=>?_) (λ_=>fin)));exact absurd (ab.ct.one hp az a5 aD aE) aY
   ·rw[c1];refine⟨⟨k+1,rfl,ax,ar,au,d.cut.cut⟩,?_⟩;show(((ids.length:Nat):Int)-((k+1:Nat):Int)).toNat<(((ids.length:Nat):Int)-(k:Int)).toNat;omega
 ·have aW:k=ids.length:=by omega
  subst aW;refine⟨λi w'=>∃j:Nat,i=j/\j<=64/\Sep E (cd A S++bC r 1 (bD ids)::bC s2 1 (bD (t2 ids.length))::bC s1 1 (bD (t1 ids.length))::L) w',λi _=>(64-i).toNat,⟨0,rfl,bO,aG⟩,?_⟩;rintro _ _ bj ⟨j,rfl,ba,ao⟩;refine cL (λR=>?_) (λaI=>?_)
  ·have t:=aZ j bA;have a6:(t1 ids.length).getD ((j:Int)).toNat 0=S.memory j:=by rw[aT,dk,dK,t.1];rfl
   have a7:(t2 ids.length).getD ((j:Int)).toNat 0=S.swap j:=by rw[aU,dk,dK,t.2];rfl
   refine Dr.i ao (λbk ad=>?_);refine rT 18 ad rfl (by rw[ah];exact aj) bA (by rw[ah];exact R) (λa aa=>⟨_,aa 18 ad rfl,use (uq (j:Int) ad) ?_⟩);rintro _ a4 ⟨rfl,H⟩;refine⟨_,rfl,_,aa 18 H rfl,rfl,bF (by rw[a6];simp) ?_⟩;refine rT 17 H rfl (by rw[ai];exact ak) bA (by rw[ai];exact R) (λbs av=>⟨_,av 17 H rfl,use (wD (j:Int) H) ?_⟩);rintro _ bl ⟨rfl,ae⟩;refine⟨_,rfl,_,av 17 ae rfl,rfl,bF (by rw[a7];simp) ?_⟩;rw[c1];refine⟨⟨j+1,rfl,bA,ae⟩,?_⟩;show((64:Int)-((j+1:Nat):Int)).toNat<((64:Int)-(j:Int)).toNat;omega
  ·exact⟨rfl,ao.cut.cut.cut⟩
variable{W:World}{v:Nat}{V:Kw.Vs}
open Go.Kw
def aDZ{bN bR:Int}{sz l:Sl}{zs:bU}{os:List c7}(C:qT W sz zs)(z:fG W l os)(h:Sep E (cy W.heap::L) w):
  Calls P oz #[Iv bN,Iv bR,Sv sz,Sv l] w (bW λv w'=>v=.bool true/\Sep E (cy W.heap::L) w'):=by
 apply anM;unfold Tf qF qO qQ qR qW qj zL zx;dsimp only;refine use (Gk h) ?_;rintro _ J ⟨rfl,h1⟩;refine⟨_,rfl,bF rfl (use (sC bN bR sz l J) ?_)⟩;rintro _ _ ⟨rfl,rfl⟩;refine⟨_,rfl,cw (λ_=>⟨rfl,h1⟩) (λD=>?_)⟩;obtain⟨hf,H,_,X⟩:=sD D;have N:=z.1;have hp:=aJj bN bR zs hf H;refine oy (sz:=sz) (l:=zs) (C.ints (q:=0) rfl) C.2.1 h1 (λA v ab ho y=>⟨_,rfl,y.core ⟨_,rfl,bF rfl ?_⟩⟩);refine⟨λi w'=>∃(k:Nat) (Y:Vs),i=k/\k<=os.length/\fU Y/\Y.core.bz.next<=66*k/\((Y.core.fr.bK.length:Int)=dy bN 0/\(Y.core.sl.bK.length:Int)=dy bR 0)/\St E A v Y L w',λi _=>(os.length-i).toNat,
  ⟨0,_,rfl,ec _,fU.new bN bR zs,by rw[sq];decide,hp,y⟩,?_⟩
 rintro _ _ ad ⟨k,Y,rfl,V,o,aa,g,b⟩;refine cL (λO=>?_) (λK=>⟨rfl,by have d:=b.drop;rw[ho]at d;exact d⟩);have j:k<os.length:=by omega
 obtain⟨x,hx⟩:∃x,os[k]?=some x:=⟨_,dD j⟩
 refine b.op z ho hx (λa e=>⟨_,e 0 _ rfl b,_,e 1 _ rfl b,_,e 2 _ rfl b,_,e 3 _ rfl b,_,e 4 _ rfl b,?_⟩);have fq:=o.fq;have bK:=aIy o.inv bA x;refine b.qS o bA x (λI ae _ d f nZ=>⟨_,_,I,rfl,?_⟩);generalize (Y.act x).1=Z at d f nZ bK;obtain⟨B,M,p,_,F,G⟩:=d.tail.cc;rw[<- p];refine use (aFC f.inv bA F) ?_;rintro _ m ⟨rfl,c⟩;have c:St E A v Z L m:=G [] m c;rw[p];have r:=aI3 f.inv;have Q:0<=dy bN 0/\dy bN 0<=24:=by unfold dy;split<;>omega
 have R:0<=dy bR 0/\dy bR 0<=24:=by unfold dy;split<;>omega
 refine⟨_,rfl,c.free (λS s=>⟨_,_,rfl,bF rfl (s.memory 0 (λT t=>⟨_,rfl,?_⟩))⟩)⟩;rw[r.1,bK.1,g.1,cH bA bA];refine gV (λn=>absurd rfl n) (λ_=>t.swap 0 (λU u=>⟨_,rfl,?_⟩));rw[r.2,bK.2,g.2,cH bA bA,c1];refine gV (λn=>absurd rfl n) (λ_=>⟨⟨k+1,Z,rfl,j,f,bA,⟨by rw[bK.1];exact g.1,by rw[bK.2];exact g.2⟩,u⟩,?_⟩);show(((os.length:Nat):Int)-((k+1:Nat):Int)).toNat<(((os.length:Nat):Int)-(k:Int)).toNat;omega
end Go.Mp
namespace Go.Proofs.YtafigbgagbolgaaGreatDoor
open Go Go.Vc Go.Sp Go.Mp Go.RowKit Go.ChangeShapes
def axq(os:Os)(started:os.Started)(H:Type)(enc:TypeId×Value->H):
  ReturnsInHanded {} kX os oz .any (λw args=>(Rows.topCountsSpec.pre enc P m0 [] false w args/\laidMetH P ih w)/\sizedMet enc P m0 (OpenSpec.ofChange Rows.topCountsSpec) false w args) (Rows.topCountsSpec.post enc P m0 false true false false):=by
 refine w1 (C:=kX) (tb:=vv) (X:=λw=>laidMetH P ih w) (λ_ _ m h=>h.of_heap m) own started cr Ga
  (ChangeSpec.witness_shaped (enc:=enc) (C:=kX) (os:=os) (X:=λw _=>laidMetH P ih w) false (World.laidAll P os ih) #[.int .i64 0,.int .i64 0,.slice none 0 0,.slice none 0 0] 8 (World.laidAll_os _ _ _) (World.shaped_of_ZipB cr cr) cr cr cr (w4 os _))
  laidOut cr cr rfl cr ?_ ?_
 ·intro e gs j k
  match e,gs,j,k with
  |[d0,d1,d2,d3],[],_,_=>rfl
 ·intro W base args b a _ hx;have hw:=w5 hx;obtain⟨o,p,q,r,rfl⟩:=Gl b;have a0:=a 0 _ _ rfl rfl;have c:=a 1 _ _ rfl rfl;have d:=a 2 _ _ rfl rfl;have a3:=a 3 _ _ rfl rfl;obtain⟨f,rfl,hf⟩:=mZ a0;obtain⟨s,rfl,n⟩:=mZ c;obtain⟨sz,zs,rfl,i⟩:=xm (oB cr d);obtain⟨l,xs,rfl,g⟩:=q1 a3;refine use (aDZ i g hw) ?_;rintro v w' ⟨rfl,h⟩;exact⟨_,rfl,rfl,w6 h⟩
def To:Tryz.pinned.checked.prog.funcNamed Rows.topCountsRow.func=some oz:=by kernel_rfl
def aC1:sc P m0 Rows.topCountsSpec Rows.topCountsRow=true:=by kernel_rfl
def aC2:sd P oz Rows.topCountsRow=true:=by kernel_rfl
def aC3:se P oz Rows.topCountsRow=true:=by kernel_rfl
def aC4:sf P oz Rows.topCountsRow=true:=by kernel_rfl
def aC5:si P oz Rows.topCountsRow=true:=by kernel_rfl
def aC6:sj P m0 Rows.topCountsSpec Rows.topCountsRow=true:=by kernel_rfl
def aC7:sk P m0 Rows.topCountsSpec Rows.topCountsRow=true:=by kernel_rfl
def aC8:sm P Rows.topCountsRow=true:=by kernel_rfl
def aC9:sn P m0 Rows.topCountsSpec Rows.topCountsRow=true:=by kernel_rfl
def ayR:Rows.TopCountsSaid:=
 OpenClaim.holds_of_wide oz m0 rfl rfl rfl rfl rfl rfl rfl ⟨rfl,rfl,rfl,rfl,rfl⟩ rfl rfl rfl rfl rfl To Ga
  (w3 aC1 aC2 aC3 aC4 aC5 aC6 aC7 aC8 aC9)
  (jL cr) (by unfold Func.isWrapper;rw[bJ (by decide+kernel)];exact⟨rfl,rfl⟩)
  (λos started H enc _=>axq os started H enc)
def aDa:Rows.topCountsRow.wfByText (OpenSpec.ofChange Rows.topCountsSpec)=true:=by kernel_rfl
def azT:Tryz.pinned.checked.prog.mainIs=some (true, "6dae9ca1e3fae822e43264ec614d78dc4c2fe72aea56ab24750a95019e43a27c".toList):=by kernel_rfl
def ayS:false=Tryz.pinned.checked.prog.looks []:=by kernel_rfl
def azS:false=Rows.topCountsRow.goesBy Tryz.pinned.checked.prog:=by kernel_rfl
def ayT:(m0.params.toList.all λu=> !P.wantsStandIn u)=true:=by kernel_rfl
def topCounts_card:Rows.TopCountsCardSaid:=
 Claim7.holds_tied_plain_at .later [] [.data] true (true, "6dae9ca1e3fae822e43264ec614d78dc4c2fe72aea56ab24750a95019e43a27c") false
  ayR (λ_ h=>by cases h) aDa (λ_ h=>by cases h) topCounts_row_tie rfl ⟨rfl,rfl⟩ azT rfl
  (λf fn hf a=>by
   obtain rfl:f=oz:=cQ (To.symm.trans hf) |>.symm;obtain rfl:fn=m0:=(cQ (Ga.symm.trans a)).symm;refine⟨ayS,λj t b=>?_⟩;have hm:t∈m0.params.toList:=by simpa using ku b
   exact(show P.wantsStandIn t=false by simpa using fB.1 ayT t hm))
  azS
end Go.Proofs.YtafigbgagbolgaaGreatDoor
