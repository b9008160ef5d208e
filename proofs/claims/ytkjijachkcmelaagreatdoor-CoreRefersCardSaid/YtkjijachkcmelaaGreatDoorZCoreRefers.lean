/- Core: What nobody refers to any more is gone, and its frame, or slot, is free: the law answers true and lets its arguments be; for every input. -/
import Derived.Test.YtkjijachkcmelaaGreatDoorC14
import Derived.Test.YtkjijachkcmelaaGreatDoorProg
import Derived.Test.YtkjijachkcmelaaGreatDoorChecked
import Derived.Lib.TrailingZeros
import Derived.LaidMore
import Derived.Lay
import Derived.OpenShut
import Derived.Stop.LaidErr
import Derived.Lib.LaidTab
import Derived.SevenTiedAt
import Derived.Test.YtkjijachkcmelaaGreatDoorRows
import Derived.Test.YtkjijachkcmelaaGreatDoorTie
import Derived.Test.YtkjijachkcmelaaGreatDoorCards
set_option linter.all false
section
namespace Go.Kc
open Go.Kt
def abE (T:List Bool):Int:=(T.length:Int) - (T.count true:Nat)
end Go.Kc
end
section
namespace Go.Mp
open Go Go.Vc
abbrev aaG:FuncId:=13
abbrev abg:FuncId:=42
abbrev aa0:FuncId:=103
abbrev abr:FuncId:=176
abbrev aaX:FuncId:=244
noncomputable abbrev aau:Func:=Go.Proofs.Tryz.f13
theorem adz:P.funcs[aaG]? =some aau:=Go.Proofs.Tryz.func13
end Go.Mp
end
section
set_option maxRecDepth 100000
namespace Go.Mp
open Go Go.Vc Go.Proofs
variable {K:Value ->World ->Prop} {w:World}
def ad2:Ann:= {sig:=fun r=>(bif r==1 then some ([0,1,2,3,4,6,7,8,9,10,5,11,12,13],[5,11]) else none)}
def aex (c:Option Addr) (K:Value ->World ->Prop) (w:World):Prop:=
 Dr (fun w1=>NN c fun a2=>∃ x3:Option Addr,w1.cell? ((a2.add 1).add 0)=some (Pv x3)/\NN c fun a4=>∃ x5:Option Addr,w1.cell? ((a4.add 4).add 0)=some (Pv x5)/\Calls P aa0 #[(Pv x3)] w1 fun e7 w6=>∃ x8,e7= .returned (Iv x8)/\∃ x9:Option Addr,w6.cell? ((a4.add 4).add 0)=some (Pv x9)/\((Pv x9):Value)=(Pv x5)/\Calls P aa0 #[(Pv x5)] w6 fun e11 w10=>∃ x12,e11= .returned (Iv x12)/\K (.tuple #[(Iv x8),(Iv x12)]) w10) w
theorem aev (c:Option Addr) (h:aex c K w):Calls P abg #[(Pv c)] w (Ret K):=ofVc (A:=ad2) Tryz.func42 (by kernel_rfl) (by kernel_rfl) h
def ad3:Ann:= {quiet:=fun d=> [13].contains d,sig:=fun r=>(bif r==1 then some ([0,1,2,3,5,6,7,8,4,9,10,11],[4,9]) else none)}
def acl (p:Option Addr) (K:Value ->World ->Prop) (w:World):Prop:=
 Dr (fun w1=>NN p fun a2=>∃ x3,w1.cell? (a2.add 0)=some (Pv x3)/\NN p fun a4=>∃ x5,w1.cell? (a4.add 0)=some (Pv x5)/\Calls P aen #[(Pv x3)] w1 fun e7 w6=>∃ x8,e7= .returned (Iv x8)/\∃ x9,w6.cell? (a4.add 0)=some (Pv x9)/\((Pv x9):Value)=(Pv x5)/\Calls P abr #[(Pv x5)] w6 fun e11 w10=>∃ x12,e11= .returned (Iv x12)/\K (Iv (IntKind.i64.wrap (x8 - x12))) w10) w
theorem aew (p:Option Addr) (h:acl p K w):Calls P aa0 #[(Pv p)] w (Ret K):=ofVc (A:=ad3) Tryz.func103 (by kernel_rfl) (by kernel_rfl) h
def ad1:Ann:= {quiet:=fun d=> [10,12,18,19].contains d,loop:=fun r=>(bif r==3 then [(3,.int .i64),(11,.int .i64)] else [])}
def ack (m:Option Addr) (K:Value ->World ->Prop) (w:World):Prop:=
 NN m fun a1=>∃ x2:Sl,w.cell? (a1.add 1)=some (Sv x2)/\∃ (I3:Int ->Int ->World ->Prop) (M4:Int ->Int ->World ->Nat),I3 0 0 w/\∀ _u6:Nat ->Value,∀ n7:Int,∀ x8:Int,∀ w5:World,I3 n7 x8 w5 ->bif (decide (x8<((x2.n:Nat):Int))) then (elAt x2.p x2.n x8 1 fun a9=>∃ x10:Int,w5.cell? a9=some (.int .u64 x10)/\Calls P aaX #[(.int .u64 x10)] w5 fun e12 w11=>∃ x13,e12= .returned (Iv x13)/\(I3 (IntKind.i64.wrap (n7+x13)) (IntKind.i64.wrap (x8+1)) w11/\M4 (IntKind.i64.wrap (n7+x13)) (IntKind.i64.wrap (x8+1)) w11<M4 n7 x8 w5)) else (K (Iv n7) w5)
theorem aeu (m:Option Addr) (h:ack m K w):Calls P abr #[(Pv m)] w (Ret K):=ofVc (A:=ad1) Tryz.func176 (by kernel_rfl) (by kernel_rfl) h
def acr:Ann:= {quiet:=fun d=> [4,5,7,8,10,11,13,14,16,18,19,22,23,26,27,30,31,33,34].contains d}
def abm (x:Int) (K:Value ->World ->Prop) (w:World):Prop:=
 0<=(1:Int)/\0<=(2:Int)/\0<=(4:Int)/\0<=(8:Int)/\0<=(16:Int)/\0<=(32:Int)/\K (Iv (andI .i64 (IntKind.i64.wrap (IntKind.u64.wrap ((IntKind.u64.wrap ((IntKind.u64.wrap ((andI .u64 (IntKind.u64.wrap (((IntKind.u64.wrap ((andI .u64 ((IntKind.u64.wrap ((andI .u64 (x.fdiv (2 ^ (min (1:Int).toNat 64))) 6148914691236517205)+(andI .u64 x 6148914691236517205))).fdiv (2 ^ (min (2:Int).toNat 64))) 3689348814741910323)+(andI .u64 (IntKind.u64.wrap ((andI .u64 (x.fdiv (2 ^ (min (1:Int).toNat 64))) 6148914691236517205)+(andI .u64 x 6148914691236517205))) 3689348814741910323))).fdiv (2 ^ (min (4:Int).toNat 64)))+(IntKind.u64.wrap ((andI .u64 ((IntKind.u64.wrap ((andI .u64 (x.fdiv (2 ^ (min (1:Int).toNat 64))) 6148914691236517205)+(andI .u64 x 6148914691236517205))).fdiv (2 ^ (min (2:Int).toNat 64))) 3689348814741910323)+(andI .u64 (IntKind.u64.wrap ((andI .u64 (x.fdiv (2 ^ (min (1:Int).toNat 64))) 6148914691236517205)+(andI .u64 x 6148914691236517205))) 3689348814741910323))))) 1085102592571150095)+((andI .u64 (IntKind.u64.wrap (((IntKind.u64.wrap ((andI .u64 ((IntKind.u64.wrap ((andI .u64 (x.fdiv (2 ^ (min (1:Int).toNat 64))) 6148914691236517205)+(andI .u64 x 6148914691236517205))).fdiv (2 ^ (min (2:Int).toNat 64))) 3689348814741910323)+(andI .u64 (IntKind.u64.wrap ((andI .u64 (x.fdiv (2 ^ (min (1:Int).toNat 64))) 6148914691236517205)+(andI .u64 x 6148914691236517205))) 3689348814741910323))).fdiv (2 ^ (min (4:Int).toNat 64)))+(IntKind.u64.wrap ((andI .u64 ((IntKind.u64.wrap ((andI .u64 (x.fdiv (2 ^ (min (1:Int).toNat 64))) 6148914691236517205)+(andI .u64 x 6148914691236517205))).fdiv (2 ^ (min (2:Int).toNat 64))) 3689348814741910323)+(andI .u64 (IntKind.u64.wrap ((andI .u64 (x.fdiv (2 ^ (min (1:Int).toNat 64))) 6148914691236517205)+(andI .u64 x 6148914691236517205))) 3689348814741910323))))) 1085102592571150095).fdiv (2 ^ (min (8:Int).toNat 64)))))+((IntKind.u64.wrap ((andI .u64 (IntKind.u64.wrap (((IntKind.u64.wrap ((andI .u64 ((IntKind.u64.wrap ((andI .u64 (x.fdiv (2 ^ (min (1:Int).toNat 64))) 6148914691236517205)+(andI .u64 x 6148914691236517205))).fdiv (2 ^ (min (2:Int).toNat 64))) 3689348814741910323)+(andI .u64 (IntKind.u64.wrap ((andI .u64 (x.fdiv (2 ^ (min (1:Int).toNat 64))) 6148914691236517205)+(andI .u64 x 6148914691236517205))) 3689348814741910323))).fdiv (2 ^ (min (4:Int).toNat 64)))+(IntKind.u64.wrap ((andI .u64 ((IntKind.u64.wrap ((andI .u64 (x.fdiv (2 ^ (min (1:Int).toNat 64))) 6148914691236517205)+(andI .u64 x 6148914691236517205))).fdiv (2 ^ (min (2:Int).toNat 64))) 3689348814741910323)+(andI .u64 (IntKind.u64.wrap ((andI .u64 (x.fdiv (2 ^ (min (1:Int).toNat 64))) 6148914691236517205)+(andI .u64 x 6148914691236517205))) 3689348814741910323))))) 1085102592571150095)+((andI .u64 (IntKind.u64.wrap (((IntKind.u64.wrap ((andI .u64 ((IntKind.u64.wrap ((andI .u64 (x.fdiv (2 ^ (min (1:Int).toNat 64))) 6148914691236517205)+(andI .u64 x 6148914691236517205))).fdiv (2 ^ (min (2:Int).toNat 64))) 3689348814741910323)+(andI .u64 (IntKind.u64.wrap ((andI .u64 (x.fdiv (2 ^ (min (1:Int).toNat 64))) 6148914691236517205)+(andI .u64 x 6148914691236517205))) 3689348814741910323))).fdiv (2 ^ (min (4:Int).toNat 64)))+(IntKind.u64.wrap ((andI .u64 ((IntKind.u64.wrap ((andI .u64 (x.fdiv (2 ^ (min (1:Int).toNat 64))) 6148914691236517205)+(andI .u64 x 6148914691236517205))).fdiv (2 ^ (min (2:Int).toNat 64))) 3689348814741910323)+(andI .u64 (IntKind.u64.wrap ((andI .u64 (x.fdiv (2 ^ (min (1:Int).toNat 64))) 6148914691236517205)+(andI .u64 x 6148914691236517205))) 3689348814741910323))))) 1085102592571150095).fdiv (2 ^ (min (8:Int).toNat 64))))).fdiv (2 ^ (min (16:Int).toNat 64)))))+((IntKind.u64.wrap ((IntKind.u64.wrap ((andI .u64 (IntKind.u64.wrap (((IntKind.u64.wrap ((andI .u64 ((IntKind.u64.wrap ((andI .u64 (x.fdiv (2 ^ (min (1:Int).toNat 64))) 6148914691236517205)+(andI .u64 x 6148914691236517205))).fdiv (2 ^ (min (2:Int).toNat 64))) 3689348814741910323)+(andI .u64 (IntKind.u64.wrap ((andI .u64 (x.fdiv (2 ^ (min (1:Int).toNat 64))) 6148914691236517205)+(andI .u64 x 6148914691236517205))) 3689348814741910323))).fdiv (2 ^ (min (4:Int).toNat 64)))+(IntKind.u64.wrap ((andI .u64 ((IntKind.u64.wrap ((andI .u64 (x.fdiv (2 ^ (min (1:Int).toNat 64))) 6148914691236517205)+(andI .u64 x 6148914691236517205))).fdiv (2 ^ (min (2:Int).toNat 64))) 3689348814741910323)+(andI .u64 (IntKind.u64.wrap ((andI .u64 (x.fdiv (2 ^ (min (1:Int).toNat 64))) 6148914691236517205)+(andI .u64 x 6148914691236517205))) 3689348814741910323))))) 1085102592571150095)+((andI .u64 (IntKind.u64.wrap (((IntKind.u64.wrap ((andI .u64 ((IntKind.u64.wrap ((andI .u64 (x.fdiv (2 ^ (min (1:Int).toNat 64))) 6148914691236517205)+(andI .u64 x 6148914691236517205))).fdiv (2 ^ (min (2:Int).toNat 64))) 3689348814741910323)+(andI .u64 (IntKind.u64.wrap ((andI .u64 (x.fdiv (2 ^ (min (1:Int).toNat 64))) 6148914691236517205)+(andI .u64 x 6148914691236517205))) 3689348814741910323))).fdiv (2 ^ (min (4:Int).toNat 64)))+(IntKind.u64.wrap ((andI .u64 ((IntKind.u64.wrap ((andI .u64 (x.fdiv (2 ^ (min (1:Int).toNat 64))) 6148914691236517205)+(andI .u64 x 6148914691236517205))).fdiv (2 ^ (min (2:Int).toNat 64))) 3689348814741910323)+(andI .u64 (IntKind.u64.wrap ((andI .u64 (x.fdiv (2 ^ (min (1:Int).toNat 64))) 6148914691236517205)+(andI .u64 x 6148914691236517205))) 3689348814741910323))))) 1085102592571150095).fdiv (2 ^ (min (8:Int).toNat 64)))))+((IntKind.u64.wrap ((andI .u64 (IntKind.u64.wrap (((IntKind.u64.wrap ((andI .u64 ((IntKind.u64.wrap ((andI .u64 (x.fdiv (2 ^ (min (1:Int).toNat 64))) 6148914691236517205)+(andI .u64 x 6148914691236517205))).fdiv (2 ^ (min (2:Int).toNat 64))) 3689348814741910323)+(andI .u64 (IntKind.u64.wrap ((andI .u64 (x.fdiv (2 ^ (min (1:Int).toNat 64))) 6148914691236517205)+(andI .u64 x 6148914691236517205))) 3689348814741910323))).fdiv (2 ^ (min (4:Int).toNat 64)))+(IntKind.u64.wrap ((andI .u64 ((IntKind.u64.wrap ((andI .u64 (x.fdiv (2 ^ (min (1:Int).toNat 64))) 6148914691236517205)+(andI .u64 x 6148914691236517205))).fdiv (2 ^ (min (2:Int).toNat 64))) 3689348814741910323)+(andI .u64 (IntKind.u64.wrap ((andI .u64 (x.fdiv (2 ^ (min (1:Int).toNat 64))) 6148914691236517205)+(andI .u64 x 6148914691236517205))) 3689348814741910323))))) 1085102592571150095)+((andI .u64 (IntKind.u64.wrap (((IntKind.u64.wrap ((andI .u64 ((IntKind.u64.wrap ((andI .u64 (x.fdiv (2 ^ (min (1:Int).toNat 64))) 6148914691236517205)+(andI .u64 x 6148914691236517205))).fdiv (2 ^ (min (2:Int).toNat 64))) 3689348814741910323)+(andI .u64 (IntKind.u64.wrap ((andI .u64 (x.fdiv (2 ^ (min (1:Int).toNat 64))) 6148914691236517205)+(andI .u64 x 6148914691236517205))) 3689348814741910323))).fdiv (2 ^ (min (4:Int).toNat 64)))+(IntKind.u64.wrap ((andI .u64 ((IntKind.u64.wrap ((andI .u64 (x.fdiv (2 ^ (min (1:Int).toNat 64))) 6148914691236517205)+(andI .u64 x 6148914691236517205))).fdiv (2 ^ (min (2:Int).toNat 64))) 3689348814741910323)+(andI .u64 (IntKind.u64.wrap ((andI .u64 (x.fdiv (2 ^ (min (1:Int).toNat 64))) 6148914691236517205)+(andI .u64 x 6148914691236517205))) 3689348814741910323))))) 1085102592571150095).fdiv (2 ^ (min (8:Int).toNat 64))))).fdiv (2 ^ (min (16:Int).toNat 64))))).fdiv (2 ^ (min (32:Int).toNat 64)))))) 127)) w
theorem acw (x:Int) (h:abm x K w):Calls P aaX #[(.int .u64 x)] w (Ret K):=ofVc (A:=acr) Tryz.func244 (by kernel_rfl) (by kernel_rfl) h
end Go.Mp
end
section
set_option maxRecDepth 100000
namespace Go.Kc
open Go Go.Vc
def num:List Nat ->Nat
 | []=>0
 | y::r=>y+256*num r
def rep (c:Nat):Nat ->Nat
 | 0=>0
 | k+1=>c+256*rep c k
theorem acu {q y m c:Nat} (hy:y<256) (hc:c<256):(y+256*q) &&& (c+256*m)=(y &&& c)+256*(q &&& m):=by
 have hyc:y &&& c<256:=Nat.and_lt_two_pow (n:=8) _ hc
 apply Nat.eq_of_testBit_eq
 intro i
 have e:∀ (a b:Nat),a<256 ->(a+256*b).testBit i=if i<8 then a.testBit i else b.testBit (i - 8):=by
  intro a b ha
  rw [Nat.add_comm,show (256:Nat)=2 ^ 8 by decide,Nat.testBit_two_pow_mul_add _ (by simpa using ha)]
 rw [Nat.testBit_and,e _ _ hy,e _ _ hc,e _ _ hyc]
 split<;>simp
def st1 (k x:Nat):Nat:=((x / 2) &&& rep 0x55 k)+(x &&& rep 0x55 k)
def st2 (k x:Nat):Nat:=((x / 4) &&& rep 0x33 k)+(x &&& rep 0x33 k)
def st3 (k x:Nat):Nat:=(x / 16+x) &&& rep 0x0f k
def by1 (y:Nat):Nat:=((y / 2) &&& 0x55)+(y &&& 0x55)
def by2 (y:Nat):Nat:=((y / 4) &&& 0x33)+(y &&& 0x33)
def by3 (y:Nat):Nat:=y / 16+y % 16
theorem awi:∀ y,y<256 ->by1 y<256:=by decide+kernel
theorem awj:∀ y,y<256 ->by2 (by1 y)<256/\by2 (by1 y) / 16<=4/\by2 (by1 y) % 16<=4:=by decide+kernel
theorem and1:∀ y,y<256 ->∀ r,r<2 ->(128*r+y / 2) &&& 0x55=(y / 2) &&& 0x55:=by decide+kernel
theorem and2:∀ y,y<256 ->∀ r,r<4 ->(64*r+y / 4) &&& 0x33=(y / 4) &&& 0x33:=by decide+kernel
theorem aiZ:∀ {l:List Nat},(∀ y∈l,y<256) ->st1 l.length (num l)=num (l.map by1)
 | [],_=>by decide
 | y::l,h=>by
  have hy:=h y (by simp)
  have ih:=aiZ (l:=l) (fun z hz=>h z (by simp [hz]))
  unfold st1 at ih ⊢
  have e:(y+256*num l) / 2=(128*(num l % 2)+y / 2)+256*(num l / 2):=by omega
  show ((y+256*num l) / 2 &&& (0x55+256*rep 0x55 l.length))+((y+256*num l) &&& (0x55+256*rep 0x55 l.length))=by1 y+256*num (l.map by1)
  rw [e,acu (by omega) (by omega),acu hy (by omega),and1 y hy _ (by omega),<- ih]
  unfold by1;omega
theorem ai0:∀ {l:List Nat},(∀ y∈l,y<256) ->st2 l.length (num l)=num (l.map by2)
 | [],_=>by decide
 | y::l,h=>by
  have hy:=h y (by simp)
  have ih:=ai0 (l:=l) (fun z hz=>h z (by simp [hz]))
  unfold st2 at ih ⊢
  have e:(y+256*num l) / 4=(64*(num l % 4)+y / 4)+256*(num l / 4):=by omega
  show ((y+256*num l) / 4 &&& (0x33+256*rep 0x33 l.length))+((y+256*num l) &&& (0x33+256*rep 0x33 l.length))=by2 y+256*num (l.map by2)
  rw [e,acu (by omega) (by omega),acu hy (by omega),and2 y hy _ (by omega),<- ih]
  unfold by2;omega
theorem av7 (n:Nat):n &&& 15=n % 16:=Nat.and_two_pow_sub_one_eq_mod n 4
theorem ai1:∀ {l:List Nat},(∀ y∈l,y<256/\y / 16<=4/\y % 16<=4) ->st3 l.length (num l)=num (l.map by3)
 | [],_=>by decide
 | y::l,h=>by
  have hy:=h y (by simp)
  have ih:=ai1 (l:=l) (fun z hz=>h z (by simp [hz]))
  have hr:num l % 16<=4:=by
   cases l with
   | nil=>decide
   | cons z r=>have:=h z (by simp);show (z+256*num r) % 16<=4;omega
  unfold st3 at ih ⊢
  show ((y+256*num l) / 16+(y+256*num l)) &&& (0x0f+256*rep 0x0f l.length)=by3 y+256*num (l.map by3)
  have e:(y+256*num l) / 16+(y+256*num l)=(y / 16+16*(num l % 16)+y)+256*(num l / 16+num l):=by omega
  rw [e,acu (by omega) (by omega),ih,av7]
  unfold by3;omega
def ones:Nat ->Nat ->Nat
 | 0,_=>0
 | k+1,x=>x % 2+ones k (x / 2)
theorem agb:∀ y,y<256 ->by3 (by2 (by1 y))=ones 8 y/\ones 8 y<=8:=by decide+kernel
theorem abl:∀ (j k x:Nat),ones (j+k) x=ones j x+ones k (x / 2 ^ j)
 | 0,k,x=>by simp [ones]
 | j+1,k,x=>by
  rw [show j+1+k=(j+k)+1 by omega]
  show x % 2+ones (j+k) (x / 2)=(x % 2+ones j (x / 2))+ones k (x / 2 ^ (j+1))
  rw [abl j k,Nat.div_div_eq_div_mul,Nat.pow_succ,Nat.mul_comm 2];omega
theorem ahG:∀ (j x y:Nat),x % 2 ^ j=y % 2 ^ j ->ones j x=ones j y
 | 0,_,_,_=>rfl
 | j+1,x,y,h=>by
  have h1:x % 2=y % 2:=by
   have:=congrArg (· % 2) h
   simp only [Nat.pow_succ,Nat.mod_mul_left_mod] at this
   exact this
  have h2:x / 2 % 2 ^ j=y / 2 % 2 ^ j:=by
   have:=congrArg (· / 2) h
   simp only [Nat.pow_succ,Nat.mul_comm _ 2,Nat.mod_mul_right_div_self] at this
   exact this
  show x % 2+ones j (x / 2)=y % 2+ones j (y / 2)
  rw [h1,ahG j _ _ h2]
theorem aiQ:∀ (l:List Bool) (k:Nat),l.length<=k ->ones k (wd l)=l.count true
 | [],k,_=>by
  have:∀ k,ones k 0=0:=by
   intro k;induction k with
   | zero=>rfl
   | succ k ih=>show 0 % 2+ones k (0 / 2)=0;rw [show 0 / 2=0 by decide,ih]
  simp [wd,this]
 | b::r,0,h=>by simp at h
 | b::r,k+1,h=>by
  show (b.toNat+2*wd r) % 2+ones k ((b.toNat+2*wd r) / 2)=_
  rw [show (b.toNat+2*wd r) / 2=wd r by cases b<;>simp<;>omega,aiQ r k (by simpa using h),List.count_cons]
  cases b<;>simp<;>omega
theorem afY {a:Nat} {r:List Nat} (h:a<256):num (a::r) / 256=num r:=by
 show (a+256*num r) / 256=num r
 omega
theorem aeV {a b:Nat} {r:List Nat} (h:a<256) (h2:b<256):num (a::b::r) / 65536=num r:=by
 rw [show (65536:Nat)=256*256 by decide,<- Nat.div_div_eq_div_mul,afY h,afY h2]
theorem amz {a b c d:Nat} {r:List Nat} (h:a<256) (h2:b<256) (h3:c<256) (h4:d<256):num (a::b::c::d::r) / 4294967296=num r:=by
 rw [show (4294967296:Nat)=65536*65536 by decide,<- Nat.div_div_eq_div_mul,aeV h h2,aeV h3 h4]
theorem akN:∀ {l:List Nat},(∀ y∈l,y<256) ->num l<256 ^ l.length
 | [],_=>by decide
 | y::r,h=>by
  have h1:=h y (by simp)
  have h2:=akN (l:=r) (fun z hz=>h z (by simp [hz]))
  show y+256*num r<256 ^ (r.length+1)
  rw [Nat.pow_succ];omega
theorem afZ {a b c d e f g h:Nat} (h0:a<256/\b<256/\c<256/\d<256/\e<256/\f<256/\g<256/\h<256):num [a,b,c,d,e,f,g,h] % 18446744073709551616=num [a,b,c,d,e,f,g,h]:=by
 have h8:(256:Nat) ^ 8=18446744073709551616:=by decide
 rw [<- h8]
 refine Nat.mod_eq_of_lt (akN (l:= [a,b,c,d,e,f,g,h]) ?_)
 simp only [List.mem_cons,List.not_mem_nil,or_false,forall_eq_or_imp,forall_eq]
 exact h0
theorem sum8 {c0 c1 c2 c3 c4 c5 c6 c7:Nat} (g0:c0<=8) (g1:c1<=8) (g2:c2<=8) (g3:c3<=8) (g4:c4<=8) (g5:c5<=8) (g6:c6<=8) (g7:c7<=8) (c d e:Nat) (hc:c=num [c0,c1,c2,c3,c4,c5,c6,c7]) (hd:d=(c+c / 256) % 18446744073709551616) (he:e=(d+d / 65536) % 18446744073709551616):
  (e+e / 4294967296) % 18446744073709551616 % 128=c0+c1+c2+c3+c4+c5+c6+c7:=by
 subst he hd hc
 rw [afY (by omega)]
 have e1:num [c0,c1,c2,c3,c4,c5,c6,c7]+num [c1,c2,c3,c4,c5,c6,c7]=num [c0+c1,c1+c2,c2+c3,c3+c4,c4+c5,c5+c6,c6+c7,c7]:=by simp only [num];omega
 rw [e1,afZ (by refine ⟨?_,?_,?_,?_,?_,?_,?_,?_⟩<;>omega),aeV (by omega) (by omega)]
 have e2:num [c0+c1,c1+c2,c2+c3,c3+c4,c4+c5,c5+c6,c6+c7,c7]+num [c2+c3,c3+c4,c4+c5,c5+c6,c6+c7,c7]=
  num [c0+c1+c2+c3,c1+c2+c3+c4,c2+c3+c4+c5,c3+c4+c5+c6,c4+c5+c6+c7,c5+c6+c7,c6+c7,c7]:=by simp only [num];omega
 rw [e2,afZ (by refine ⟨?_,?_,?_,?_,?_,?_,?_,?_⟩<;>omega),amz (by omega) (by omega) (by omega) (by omega)]
 have e3:num [c0+c1+c2+c3,c1+c2+c3+c4,c2+c3+c4+c5,c3+c4+c5+c6,c4+c5+c6+c7,c5+c6+c7,c6+c7,c7]+num [c4+c5+c6+c7,c5+c6+c7,c6+c7,c7]=
  num [c0+c1+c2+c3+c4+c5+c6+c7,c1+c2+c3+c4+c5+c6+c7,c2+c3+c4+c5+c6+c7,c3+c4+c5+c6+c7,c4+c5+c6+c7,c5+c6+c7,c6+c7,c7]:=by simp only [num];omega
 rw [e3,afZ (by refine ⟨?_,?_,?_,?_,?_,?_,?_,?_⟩<;>omega)]
 show (c0+c1+c2+c3+c4+c5+c6+c7+256*num [c1+c2+c3+c4+c5+c6+c7,c2+c3+c4+c5+c6+c7,c3+c4+c5+c6+c7,c4+c5+c6+c7,c5+c6+c7,c6+c7,c7]) % 128=_
 generalize num [c1+c2+c3+c4+c5+c6+c7,c2+c3+c4+c5+c6+c7,c3+c4+c5+c6+c7,c4+c5+c6+c7,c5+c6+c7,c6+c7,c7]=X
 omega
theorem ajv {x:Nat} (hx:x<18446744073709551616):
  let c:=st3 8 (st2 8 (st1 8 x))
  let d:=(c+c / 256) % 18446744073709551616
  let e:=(d+d / 65536) % 18446744073709551616
  let f:=(e+e / 4294967296) % 18446744073709551616
  f % 128=ones 64 x:=by
 have hx':x=num [x % 256,x / 256 % 256,x / 65536 % 256,x / 16777216 % 256,x / 4294967296 % 256,x / 1099511627776 % 256,x / 281474976710656 % 256,x / 72057594037927936 % 256]:=by
  simp only [num];omega
 generalize hl: [x % 256,x / 256 % 256,x / 65536 % 256,x / 16777216 % 256,x / 4294967296 % 256,x / 1099511627776 % 256,x / 281474976710656 % 256,x / 72057594037927936 % 256]=l at hx'
 have hlen:l.length=8:=by rw [<- hl];rfl
 have hlt:∀ y∈l,y<256:=by rw [<- hl];intro y hy;simp at hy;omega
 have h1:st1 8 x=num (l.map by1):=by rw [hx',<- hlen];exact aiZ hlt
 have h2:st2 8 (num (l.map by1))=num ((l.map by1).map by2):=by
  have:=ai0 (l:=l.map by1) (fun y hy=>by obtain ⟨z,hz,rfl⟩:=List.mem_map.1 hy;exact awi z (hlt z hz))
  rw [List.length_map,hlen] at this;exact this
 have h3:st3 8 (num ((l.map by1).map by2))=num (((l.map by1).map by2).map by3):=by
  have:=ai1 (l:=(l.map by1).map by2) (fun y hy=>by
   obtain ⟨z,hz,rfl⟩:=List.mem_map.1 hy
   obtain ⟨u,hu,rfl⟩:=List.mem_map.1 hz
   exact awj u (hlt u hu))
  rw [List.length_map,List.length_map,hlen] at this;exact this
 have h4:(((l.map by1).map by2).map by3)=l.map (ones 8):=by
  rw [List.map_map,List.map_map]
  exact List.map_congr_left (fun y hy=>(agb y (hlt y hy)).1)
 have hle:∀ y∈l,ones 8 y<=8:=fun y hy=>(agb y (hlt y hy)).2
 have ho:ones 64 x=(l.map (ones 8)).sum:=by
  have hb:∀ (k:Nat) (y:Nat),ones 8 (y % 256)=ones 8 y:=fun k y=>ahG 8 _ _ (by simp)
  rw [<- hl]
  have q0:ones 64 x=ones 8 x+ones 56 (x / 256):=abl 8 56 x
  have q1:ones 56 (x / 256)=ones 8 (x / 256)+ones 48 (x / 65536):=by have:=abl 8 48 (x / 256);rwa [Nat.div_div_eq_div_mul] at this
  have q2:ones 48 (x / 65536)=ones 8 (x / 65536)+ones 40 (x / 16777216):=by have:=abl 8 40 (x / 65536);rwa [Nat.div_div_eq_div_mul] at this
  have q3:ones 40 (x / 16777216)=ones 8 (x / 16777216)+ones 32 (x / 4294967296):=by have:=abl 8 32 (x / 16777216);rwa [Nat.div_div_eq_div_mul] at this
  have q4:ones 32 (x / 4294967296)=ones 8 (x / 4294967296)+ones 24 (x / 1099511627776):=by have:=abl 8 24 (x / 4294967296);rwa [Nat.div_div_eq_div_mul] at this
  have q5:ones 24 (x / 1099511627776)=ones 8 (x / 1099511627776)+ones 16 (x / 281474976710656):=by have:=abl 8 16 (x / 1099511627776);rwa [Nat.div_div_eq_div_mul] at this
  have q6:ones 16 (x / 281474976710656)=ones 8 (x / 281474976710656)+ones 8 (x / 72057594037927936):=by have:=abl 8 8 (x / 281474976710656);rwa [Nat.div_div_eq_div_mul] at this
  simp only [List.map_cons,List.map_nil,List.sum_cons,List.sum_nil,hb 0]
  omega
 have hle2:∀ y∈ [x % 256,x / 256 % 256,x / 65536 % 256,x / 16777216 % 256,x / 4294967296 % 256,x / 1099511627776 % 256,x / 281474976710656 % 256,x / 72057594037927936 % 256],ones 8 y<=8:=by rw [hl];exact hle
 simp only [List.mem_cons,List.not_mem_nil,or_false,forall_eq_or_imp,forall_eq] at hle2
 obtain ⟨g0,g1,g2,g3,g4,g5,g6,g7⟩:=hle2
 have hs:=sum8 g0 g1 g2 g3 g4 g5 g6 g7 _ _ _ (show st3 8 (st2 8 (st1 8 x))=_ by rw [h1,h2,h3,h4,<- hl];rfl) rfl rfl
 refine hs.trans ?_
 rw [ho,<- hl]
 simp only [List.map_cons,List.map_nil,List.sum_cons,List.sum_nil]
 omega
end Go.Kc
end
section
set_option maxRecDepth 100000
namespace Go.Mp
open Go Go.Vc Go.Sp Go.Proofs Go.Kc
variable {E:Env} {L:List Asn} {w W:World}
variable {b:Nat} {T:List Bool}
theorem ak1 {x:Nat} (hx:x<18446744073709551616) (w:World):Calls P aaX #[.int .u64 (x:Nat)] w (Ret fun v w'=>v= .int .i64 (ones 64 x:Nat)/\w'=w):=by
 apply acw
 unfold abm
 have m0:(6148914691236517205:Int)=((rep 0x55 8:Nat):Int):=by decide
 have m1:(3689348814741910323:Int)=((rep 0x33 8:Nat):Int):=by decide
 have m2:(1085102592571150095:Int)=((rep 0x0f 8:Nat):Int):=by decide
 have r0:rep 0x55 8<9223372036854775808:=by decide
 have r1:rep 0x33 8<9223372036854775808:=by decide
 have r2:rep 0x0f 8<9223372036854775808:=by decide
 rw [m0,m1,m2]
 have a1:IntKind.u64.wrap ((andI .u64 ((x:Int).fdiv (2 ^ (min (1:Int).toNat 64))) ((rep 0x55 8:Nat):Int))+(andI .u64 (x:Int) ((rep 0x55 8:Nat):Int)))=((st1 8 x:Nat):Int):=by
  have h1:x / 2 &&& rep 0x55 8<=rep 0x55 8:=Nat.and_le_right
  have h2:x &&& rep 0x55 8<=rep 0x55 8:=Nat.and_le_right
  rw [show ((x:Int).fdiv (2 ^ (min (1:Int).toNat 64)))=((x / 2:Nat):Int) from sh x 1,aem (by omega) (by omega),aem hx (by omega),<- Int.natCast_add,u64n (by omega)];rfl
 have b1:st1 8 x<18446744073709551616:=by
  have h1:x / 2 &&& rep 0x55 8<=rep 0x55 8:=Nat.and_le_right
  have h2:x &&& rep 0x55 8<=rep 0x55 8:=Nat.and_le_right
  unfold st1;omega
 rw [a1]
 generalize hy:st1 8 x=y at*
 have a2:IntKind.u64.wrap ((andI .u64 ((y:Int).fdiv (2 ^ (min (2:Int).toNat 64))) ((rep 0x33 8:Nat):Int))+(andI .u64 (y:Int) ((rep 0x33 8:Nat):Int)))=((st2 8 y:Nat):Int):=by
  have h1:y / 4 &&& rep 0x33 8<=rep 0x33 8:=Nat.and_le_right
  have h2:y &&& rep 0x33 8<=rep 0x33 8:=Nat.and_le_right
  rw [show ((y:Int).fdiv (2 ^ (min (2:Int).toNat 64)))=((y / 4:Nat):Int) from sh y 2,aem (by omega) (by omega),aem b1 (by omega),<- Int.natCast_add,u64n (by omega)];rfl
 have b2:st2 8 y<=2*rep 0x33 8:=by
  have h1:y / 4 &&& rep 0x33 8<=rep 0x33 8:=Nat.and_le_right
  have h2:y &&& rep 0x33 8<=rep 0x33 8:=Nat.and_le_right
  unfold st2;omega
 rw [a2]
 generalize hz:st2 8 y=z at*
 have hz64:z / 16+z<18446744073709551616:=by
  have:rep 0x33 8=3689348814741910323:=by decide
  omega
 have a3:andI .u64 (IntKind.u64.wrap (((z:Int).fdiv (2 ^ (min (4:Int).toNat 64)))+(z:Int))) ((rep 0x0f 8:Nat):Int)=((st3 8 z:Nat):Int):=by
  rw [show ((z:Int).fdiv (2 ^ (min (4:Int).toNat 64)))=((z / 16:Nat):Int) from sh z 4,<- Int.natCast_add,u64n hz64,aem hz64 (by omega)];rfl
 rw [a3]
 have hs:=ajv hx
 rw [hy,hz] at hs
 generalize st3 8 z=c at*
 have a4:IntKind.u64.wrap ((c:Int)+((c:Int).fdiv (2 ^ (min (8:Int).toNat 64))))=(((c+c / 256) % 18446744073709551616:Nat):Int):=by
  rw [show ((c:Int).fdiv (2 ^ (min (8:Int).toNat 64)))=((c / 256:Nat):Int) from sh c 8,<- Int.natCast_add,u64m]
 rw [a4]
 dsimp only at hs
 generalize (c+c / 256) % 18446744073709551616=d at*
 have a5:IntKind.u64.wrap ((d:Int)+((d:Int).fdiv (2 ^ (min (16:Int).toNat 64))))=(((d+d / 65536) % 18446744073709551616:Nat):Int):=by
  rw [show ((d:Int).fdiv (2 ^ (min (16:Int).toNat 64)))=((d / 65536:Nat):Int) from sh d 16,<- Int.natCast_add,u64m]
 rw [a5]
 generalize (d+d / 65536) % 18446744073709551616=e at*
 have a6:IntKind.u64.wrap ((e:Int)+((e:Int).fdiv (2 ^ (min (32:Int).toNat 64))))=(((e+e / 4294967296) % 18446744073709551616:Nat):Int):=by
  rw [show ((e:Int).fdiv (2 ^ (min (32:Int).toNat 64)))=((e / 4294967296:Nat):Int) from sh e 32,<- Int.natCast_add,u64m]
 rw [a6]
 generalize (e+e / 4294967296) % 18446744073709551616=f at*
 refine ⟨by decide,by decide,by decide,by decide,by decide,by decide,?_,rfl⟩
 have a7:andI .i64 (IntKind.i64.wrap (f:Int)) 127=((f % 128:Nat):Int):=by
  have e1:BitVec.ofInt 64 (IntKind.i64.wrap (f:Int))=BitVec.ofNat 64 f:=by
   apply BitVec.eq_of_toNat_eq
   rw [BitVec.toNat_ofInt,BitVec.toNat_ofNat]
   unfold IntKind.wrap
   simp only [IntKind.signed,IntKind.bits,Bool.true_and]
   split<;>omega
  have h1:(BitVec.ofInt 64 (IntKind.i64.wrap (f:Int)) &&& BitVec.ofInt 64 127).toNat=f % 128:=by
   rw [e1,BitVec.toNat_and,BitVec.toNat_ofNat]
   have:(BitVec.ofInt 64 127).toNat=127:=by decide
   rw [this]
   have h2:=Nat.and_two_pow_sub_one_eq_mod (f % 2 ^ 64) 7
   rw [show (2:Nat) ^ 7 - 1=127 by decide] at h2
   rw [h2];omega
  show IntKind.i64.wrap ((BitVec.ofInt 64 (IntKind.i64.wrap (f:Int)) &&& BitVec.ofInt 64 127).toNat:Int)=_
  rw [h1];exact w64 (by omega) (by omega)
 rw [a7,hs]
theorem aiP:∀ (k x:Nat),ones k x<=k
 | 0,_=>Nat.le_refl _
 | k+1,x=>by have:=aiP k (x / 2);show x % 2+ones k (x / 2)<=k+1;omega
theorem aip (T:List Bool) (j:Nat):(T.take (64*(j+1))).count true=(T.take (64*j)).count true+ones 64 (wdAt T j):=by
 have e:T.take (64*(j+1))=T.take (64*j)++(T.drop (64*j)).take 64:=by
  rw [show 64*(j+1)=64*j+64 by omega,List.take_add]
 unfold wdAt
 rw [e,List.count_append,aiQ ((T.drop (64*j)).take 64) 64 (by simp;omega)]
theorem ain {q:Nat} (h:Sep E L w) (hq:L[q]? =some (acS b T)):Calls P abr #[.pointer (some ⟨b,0,none⟩)] w (Ret fun v w'=>v= .int .i64 (T.count true:Nat)/\w'=w):=by
 apply aeu
 unfold ack
 obtain ⟨s,hn,hb,h1⟩:=acS.get (h.fr q hq)
 refine ⟨_,rfl,s,h1.cell 1,?_⟩
 refine ⟨fun n x w'=>w'=w/\∃ j:Nat,x=j/\j<=nW T.length/\n=((T.take (64*j)).count true:Nat),fun _ x _=>(nW T.length - x).toNat,⟨rfl,0,rfl,Nat.zero_le _,by simp⟩,?_⟩
 rintro _ n x w1 ⟨rfl,j,rfl,hj,rfl⟩
 have hcl:=List.count_le_length (a:=true) (l:=T.take (64*j))
 have hcl2:=List.length_take_le (64*j) T
 have hnW:nW T.length<=2000:=by unfold nW;omega
 refine bLt (fun hlt=> ?_) (fun hge=> ?_)
 ·have hj':j<nW T.length:=by omega
  refine rowA.el 1 h1 rfl (by omega) (by omega) (fun b' hb' hc=>⟨((wdAt T j:Nat):Int),?_,?_⟩)
  ·have:=hc 0 (by decide)
   rw [Nat.add_zero] at this
   rw [this,Nat.mul_one,Int.toNat_natCast,agn hj']
  ·refine use (ak1 (af7 T j) w1) ?_
   rintro _ w3 ⟨rfl,rfl⟩
   have ho:=aiP 64 (wdAt T j)
   have e1:IntKind.i64.wrap ((j:Int)+1)=((j+1:Nat):Int):=by rw [w64 (by omega) (by omega)];omega
   refine ⟨_,rfl,⟨rfl,j+1,e1,hj',?_⟩,by dsimp only;rw [e1];omega⟩
   rw [aip,w64 (by omega) (by omega)];omega
 ·have:j=nW T.length:=by omega
  subst this
  refine ⟨?_,rfl⟩
  rw [List.take_of_length_le (by unfold nW;omega)]
variable {p:Nat}
theorem afi (h:Sep E (abb p T::L) w):Calls P aa0 #[.pointer (some ⟨p,0,none⟩)] w (Ret fun v w'=>v= .int .i64 (abE T)/\Sep E (abb p T::L) w'):=by
 apply aew
 unfold acl
 refine Dr.i h (fun w1 h1=> ?_)
 obtain ⟨b,hb,h2⟩:=abb.get h1
 refine ⟨_,rfl,_,h2.cell 0,_,rfl,_,h2.cell 0,use (am2 (q:=1) h2 rfl) ?_⟩
 rintro _ w2 ⟨rfl,rfl⟩
 refine ⟨_,rfl,_,h2.cell 0,rfl,use (ain (q:=1) h2 rfl) ?_⟩
 rintro _ w3 ⟨rfl,rfl⟩
 have:=List.count_le_length (a:=true) (l:=T)
 refine ⟨_,rfl,?_,h1⟩
 unfold abE
 rw [w64 (by omega) (by omega)]
end Go.Mp
end
section
namespace Go.Kc
open Go Go.Kt Go.Sp
def acts (S:Cs):List Act ->Cs
 | []=>S
 | x::l=>acts (S.act x).1 l
variable {S:Cs}
end Go.Kc
end
section
set_option maxRecDepth 100000
namespace Go.Mp
open Go Go.Vc Go.Sp Go.Proofs Go.Kc
variable {E:Env} {L:List Asn} {w:World} {A:At} {S:Cs}
theorem aoc (h:Sep E (aaa A S++L) w):Calls P abg #[.pointer (some ⟨A.c,0,none⟩)] w (Ret fun v w'=>v= .tuple #[.int .i64 (abE S.fr.pool),.int .i64 (abE S.sl.pool)]/\Sep E (aaa A S++L) w'):=by
 apply aev
 refine Dr.i h (fun w1 h1=>⟨_,rfl,ld h1 0 rfl rfl rfl ⟨_,rfl,ld h1 0 rfl rfl rfl (use (afi (h1.fr 2 rfl)) ?_)⟩⟩)
 rintro _ w2 ⟨rfl,h2⟩
 have h2:=h2.put (q:=2) rfl
 have h2:Sep E (aaa A S++L) w2:=h2
 refine ⟨_,rfl,ld h2 0 rfl rfl rfl ⟨rfl,use (afi (h2.fr 5 rfl)) ?_⟩⟩
 rintro _ w3 ⟨rfl,h3⟩
 have h3:=h3.put (q:=5) rfl
 exact ⟨_,rfl,rfl,h3⟩
end Go.Mp
end
section
set_option maxRecDepth 100000
namespace Go.Mp
open Go Go.Vc Go.Proofs
variable {K:Value ->World ->Prop} {w:World}
def aj9:Ann:= {quiet:=fun d=> [39,40,42,76,80,85,90,93,97,101,106,111,116,117,121,126,131,135,138,142,148,149,155,156].contains d,loop:=fun r=>(bif r==8 then [(13,.int .i64)] else []),join:=fun r=>(bif r==26 then some [(23,.int .i64)] else bif r==28 then some [(24,.int .i64)] else none)}
def alg (frames:Int) (slots:Int) (l:Sl) (id:Int) (n:Int) (K:Value ->World ->Prop) (w:World):Prop:=
 Calls P aao #[] w fun e2 w1=>∃ x3,e2= .returned (.bool x3)/\bif (!x3) then (K (.bool false) w1) else (Calls P aaZ #[(Iv frames),(Iv slots),(.slice none 0 0),(Sv l)] w1 fun e5 w4=>∃ x6,e5= .returned (.bool x6)/\bif x6 then (K (.bool x3) w4) else (Al (.cells #[(Iv 4),(Iv 4)] 3) (fun p7 w8=>Calls P abD #[(Iv frames),(Iv slots),(.slice (some p7) 2 2)] w8 fun e10 w9=>∃ x11,e10= .returned (Pv x11)/\∃ (I12:Int ->World ->Prop) (M13:Int ->World ->Nat),I12 0 w9/\∀ _u15:Nat ->Value,∀ i16 w14,I12 i16 w14 ->bif (decide (i16<((l.n:Nat):Int))) then (elAt l.p l.n i16 6 fun a17=>∃ x18,w14.cell? (a17.add 0)=some (Iv x18)/\∃ x19,w14.cell? (a17.add 1)=some (Iv x19)/\∃ x20,w14.cell? (a17.add 2)=some (Iv x20)/\∃ x21,w14.cell? (a17.add 3)=some (Iv x21)/\∃ x22,w14.cell? (a17.add 4)=some (Iv x22)/\∃ x23,w14.cell? (a17.add 5)=some (Iv x23)/\Calls P aag #[(Pv x11),(.agg #[(Iv x18),(Iv x19),(Iv x20),(Iv x21),(Iv x22),(Iv x23)])] w14 fun e25 w24=>∃ x26:Int,∃ x27:Int,∃ x28:Int,e25= .returned (.tuple #[(Iv x26),(Iv x27),(Iv x28)])/\(I12 (IntKind.i64.wrap (i16+1)) w24/\M13 (IntKind.i64.wrap (i16+1)) w24<M13 i16 w14)) else (Calls P abt #[(Pv x11),(Iv id)] w14 fun e30 w29=>∃ x31:Int,∃ x32:Int,∃ x33:Int,∃ x34:Int,∃ x35:Int,∃ x36:Int,∃ x37:Int,∃ x38:Bool,∃ x39:Bool,∃ x40:Int,e30= .returned (.tuple #[(.agg #[(Iv x31),(Iv x32),(Iv x33),(Iv x34),(Iv x35),(Iv x36),(Iv x37),(.bool x38),(.bool x39)]),(Iv x40)])/\Al (.cells #[(Iv 0),(Iv 0),(Iv 0),(Iv 0),(Iv 0),(Iv 0),(Iv 0),(.bool false),(.bool false)] 38) (fun p41 w42=>StN [(Iv x31),(Iv x32),(Iv x33),(Iv x34),(Iv x35),(Iv x36),(Iv x37),(.bool x38),(.bool x39)] p41 (fun w43=>Calls P abg #[(Pv x11)] w43 fun e45 w44=>∃ x46:Int,∃ x47:Int,e45= .returned (.tuple #[(Iv x46),(Iv x47)])/\Calls P ad6 #[(Pv x11),(Iv id),(Iv n)] w44 fun e49 w48=>∃ x50,e49= .returned (Iv x50)/\Calls P abt #[(Pv x11),(Iv id)] w48 fun e52 w51=>∃ x53:Int,∃ x54:Int,∃ x55:Int,∃ x56:Int,∃ x57:Int,∃ x58:Int,∃ x59:Int,∃ x60:Bool,∃ x61:Bool,∃ x62:Int,e52= .returned (.tuple #[(.agg #[(Iv x53),(Iv x54),(Iv x55),(Iv x56),(Iv x57),(Iv x58),(Iv x59),(.bool x60),(.bool x61)]),(Iv x62)])/\Al (.cells #[(Iv 0),(Iv 0),(Iv 0),(Iv 0),(Iv 0),(Iv 0),(Iv 0),(.bool false),(.bool false)] 38) (fun p63 w64=>StN [(Iv x53),(Iv x54),(Iv x55),(Iv x56),(Iv x57),(Iv x58),(Iv x59),(.bool x60),(.bool x61)] p63 (fun w65=>Calls P abg #[(Pv x11)] w65 fun e67 w66=>∃ x68:Int,∃ x69:Int,e67= .returned (.tuple #[(Iv x68),(Iv x69)])/\bif (x40 !=0) then (bif x3 then (bif (x50==2) then (bif (x68==x46) then (K (.bool (x69==x47)) w66) else (K (.bool false) w66)) else (K (.bool false) w66)) else (K (.bool false) w66)) else (bif (x50 !=0) then (bif x3 then (bif (x50==1) then (bif (x62==0) then (bif (x68==x46) then (K (.bool (x69==x47)) w66) else (K (.bool false) w66)) else (K (.bool false) w66)) else (K (.bool false) w66)) else (K (.bool false) w66)) else (∃ x70,w66.cell? (p41.add 5)=some (Iv x70)/\bif (decide ((IntKind.i64.wrap (x70+n))>0)) then (bif x3 then (bif (x62==0) then (bif (x68==x46) then (K (.bool (x69==x47)) w66) else (K (.bool false) w66)) else (K (.bool false) w66)) else (K (.bool false) w66)) else (∃ J71:Int ->World ->Prop,(∃ x75,w66.cell? (p41.add 2)=some (Iv x75)/\bif (x75==1) then (J71 1 w66) else (J71 0 w66))/\(∀ _u73:Nat ->Value,∀ frame74 w72,J71 frame74 w72 ->∃ J76:Int ->World ->Prop,(∃ x80,w72.cell? (p41.add 2)=some (Iv x80)/\bif (x80==2) then (J76 1 w72) else (J76 0 w72))/\(∀ _u78:Nat ->Value,∀ slot79 w77,J76 slot79 w77 ->bif x3 then (bif (x62==2) then (bif (x68==(IntKind.i64.wrap (x46+frame74))) then (K (.bool (x69==(IntKind.i64.wrap (x47+slot79)))) w77) else (K (.bool false) w77)) else (K (.bool false) w77)) else (K (.bool false) w77))))))) w64) w51) w42) w29)) w4))
theorem akT (frames:Int) (slots:Int) (l:Sl) (id:Int) (n:Int) (h:alg frames slots l id n K w):Calls P aaG #[(Iv frames),(Iv slots),(Sv l),(Iv id),(Iv n)] w (Ret K):=ofVc (A:=aj9) Tryz.func13 (by kernel_rfl) (by kernel_rfl) h
end Go.Mp
end
section
set_option maxRecDepth 100000
namespace Go.Mp
open Go Go.Vc Go.Sp Go.Proofs Go.Kc
variable {E:Env} {L:List Asn} {w:World} {A:At} {S:Cs}
theorem acN (S:Cs):∀ (l:List Kc.Act) (x:Kc.Act),acts S (l++ [x])=((acts S l).act x).1
 | [],_=>rfl
 | y::l,x=>acN (S.act y).1 l x
theorem ah3 {W:World} {l:Sl} {xs:List Kc.Act} {REST:World ->Prop} (hA:acL W l xs) (hl:xs.length<=60) (ho:A.o=W.heap) (I:Kc.Inv S) (hn:S.pages.next<=1000) (h:Sep E (aaa A S++L) w)
  (k:∀ (gs us:Sl) (w':World),Kc.Inv (acts S xs) ->(acts S xs).pages.next<=S.pages.next+60 ->Sep E (aaa {A with gs:=gs,us:=us} (acts S xs)++L) w' ->REST w'):
  ∃ (I12:Int ->World ->Prop) (M13:Int ->World ->Nat),I12 0 w/\∀ _u15:Nat ->Value,∀ i16:Int,∀ w14:World,I12 i16 w14 ->bif (decide (i16<((l.n:Nat):Int))) then (elAt l.p l.n i16 6 fun a17=>∃ x18:Int,w14.cell? (a17.add 0)=some (.int .i64 x18)/\∃ x19:Int,w14.cell? (a17.add 1)=some (.int .i64 x19)/\
   ∃ x20:Int,w14.cell? (a17.add 2)=some (.int .i64 x20)/\∃ x21:Int,w14.cell? (a17.add 3)=some (.int .i64 x21)/\∃ x22:Int,w14.cell? (a17.add 4)=some (.int .i64 x22)
   /\∃ x23:Int,w14.cell? (a17.add 5)=some (.int .i64 x23)/\Calls P aag #[(.pointer (some ⟨A.c,0,none⟩)),(.agg #[(.int .i64 x18),(.int .i64 x19),(.int .i64 x20),(.int .i64
   x21),(.int .i64 x22),(.int .i64 x23)])] w14 fun e25 w24=>∃ x26:Int,∃ x27:Int,∃ x28:Int,e25= .returned (.tuple #[(.int .i64 x26),(.int .i64 x27),(.int .i64 x28)])
   /\(I12 (IntKind.i64.wrap (i16+1)) w24/\M13 (IntKind.i64.wrap (i16+1)) w24<M13 i16 w14)) else REST w14:=by
 refine ⟨fun i w'=>∃ (k:Nat) (gs us:Sl),i=k/\k<=xs.length/\Kc.Inv (acts S (xs.take k))/\(acts S (xs.take k)).pages.next<=S.pages.next+k/\Sep E (aaa {A with gs:=gs,us:=us} (acts S (xs.take k))++L) w',fun i _=>(xs.length - i).toNat,⟨0,A.gs,A.us,rfl,Nat.zero_le _,I,by show S.pages.next<=S.pages.next+0;omega,h⟩,?_⟩
 rintro _ _ w1 ⟨j,gs,us,rfl,hj,hI,hnx,h1⟩
 have hln:=hA.1
 refine bLt (fun hlt=> ?_) (fun hge=> ?_)
 ·have hjl:j<xs.length:=by omega
  obtain ⟨x,hx⟩:∃ x,xs[j]? =some x:=⟨_,List.getElem?_eq_getElem hjl⟩
  obtain ⟨a,hp,hc⟩:=hA.2 j x hx
  have hq:(aaa {A with gs:=gs,us:=us} (acts S (xs.take j))++L)[15]? =some (tabA W.heap):=by rw [<- ho];rfl
  have rd:∀ (i:Nat) v,(aeB x)[i]? =some v ->w1.cell? ((a.add (j*6)).add i)=some v:=fun i v hv=>oldT h1 hq (hc i v hv)
  refine ⟨a,hp,⟨by omega,by omega⟩,?_⟩
  rw [Int.toNat_natCast]
  refine ⟨_,rd 0 _ rfl,_,rd 1 _ rfl,_,rd 2 _ rfl,_,rd 3 _ rfl,_,rd 4 _ rfl,_,rd 5 _ rfl,use (c_Do (A:= {A with gs:=gs,us:=us}) hI (by omega) h1) ?_⟩
  rintro _ w2 ⟨rfl,gs',us',h2⟩
  have hsn:=acN S (xs.take j) x
  rw [<- aaj hx] at hsn
  rw [aah (by omega)]
  have hnn:=agq hI (by omega) x
  refine ⟨_,_,_,rfl,⟨j+1,gs',us',rfl,hjl,by rw [hsn];exact hI.act (by omega) x,by rw [hsn];omega,by rw [hsn];exact h2⟩,?_⟩
  show (((xs.length:Nat):Int) - ((j+1:Nat):Int)).toNat<(((xs.length:Nat):Int) - (j:Int)).toNat
  omega
 ·have:j=xs.length:=by omega
  subst this
  rw [List.take_length] at hI hnx h1
  exact k gs us w1 hI (by omega) h1
end Go.Mp
end
section
set_option maxRecDepth 100000
namespace Go.Proofs.YtkjijachkcmelaaGreatDoor
open Go Go.Vc Go.Sp Go.Mp Go.RowKit Go.ChangeShapes
theorem aDY {α:Type} {a:Array α} (h:a.size=5):∃ x0 x1 x2 x3 x4,a= #[x0,x1,x2,x3,x4]:=by
 obtain ⟨l⟩:=a
 match l,h with
 | [x0,x1,x2,x3,x4],_=>exact ⟨x0,x1,x2,x3,x4,rfl⟩
end Go.Proofs.YtkjijachkcmelaaGreatDoor
end
section
set_option maxRecDepth 100000
namespace Go.Mp
open Go Go.Vc Go.Sp Go.Proofs Go.Kc
variable {E:Env} {L:List Asn} {w:World} {A:At} {S:Cs}
theorem ayO {T:TS} {tree:List Kt.G} {s:Store} {pl:Int} (h:aa8 T tree s pl) {a:Int} (ha:0<=a) (hid:∃ id p,T.pg id=some p/\p.place=pl/\p.at_=a) (ch:List Int):abE (s.give a ch).pool=abE s.pool+1:=by
 obtain ⟨k,rfl⟩:∃ k:Nat,a=k:=⟨a.toNat,by omega⟩
 have hk:=(h.taken k).2 hid
 show abE (afa s.pool (k:Int)).1=_
 rw [aBY hk]
 have:=am6 (c:=false) hk
 unfold abE
 dsimp only
 rw [List.length_set]
 simp only [Bool.toNat_true,Bool.toNat_false] at this
 omega
theorem aBx {T:TS} {tree:List Kt.G} {s:Store} {pl:Int} (h:aa8 T tree s pl): -1<=abE s.pool/\abE s.pool<=1024:=by
 have:=h.few
 have:=List.count_le_length (a:=true) (l:=s.pool)
 unfold abE;omega
theorem aBF {W:World} {frames slots id n:Int} {l:Sl} {xs:List Kc.Act} (hA:acL W l xs) (h:Sep E (tabA W.heap::L) w):
  Calls P aaG #[.int .i64 frames,.int .i64 slots,.slice l.p l.n l.c,.int .i64 id,.int .i64 n] w (Ret fun v w'=>v= .bool true/\Sep E (tabA W.heap::L) w'):=by
 apply akT
 refine use (afP h) ?_
 rintro _ w1 ⟨rfl,h1⟩
 refine ⟨_,rfl,bF rfl (use (akK frames slots ⟨none,0,0⟩ l w1) ?_)⟩
 rintro _ _ ⟨rfl,rfl⟩
 refine ⟨_,rfl,bifI (fun _=>⟨rfl,h1⟩) (fun hov=> ?_)⟩
 have hxl:xs.length<=60:=by
  have:=hA.1
  simp only [Bool.or_eq_false_iff,decide_eq_false_iff_not] at hov
  omega
 refine Al.i h1 (fun b w2 h2=> ?_)
 have h2:Sep E (tabA W.heap::blk b (intL [4,4])::L) w2:=h2.swap
 refine use (afB (sz:=⟨some ⟨b,0,none⟩,2,2⟩) (l:= [4,4]) (Ints.blk_ (b:=b) (c:=2) (gs:= [4,4]) (q:=1) rfl) (Nat.le_refl _) h2) ?_
 rintro _ w3 ⟨A,rfl,ho,h3⟩
 have h3:Sep E (aaa A (Kc.new frames slots [4,4])++L) w3:=h3.cut
 refine ⟨_,rfl,ah3 hA hxl ho (Inv.new frames slots [4,4]) (by show (0:Int)<=1000;decide) h3 (fun gs us w4 I hnx h4=> ?_)⟩
 generalize acts (Kc.new frames slots [4,4]) xs=T at*
 obtain ⟨B,hB⟩:∃ B:At,B= {A with gs:=gs,us:=us} :=⟨_,rfl⟩
 have hBo:B.o=W.heap:=by rw [hB];exact ho
 have hBc:A.c=B.c:=by rw [hB]
 rw [<- hB] at h4
 rw [hBc]
 obtain ⟨p,hp⟩:∃ p,T.pages.get id=p:=⟨_,rfl⟩
 refine use (ahX id h4) ?_
 rintro _ w5 ⟨rfl,h5⟩
 rw [hp]
 refine ⟨_,_,_,_,_,_,_,_,_,_,rfl,Al.i h5 (fun b1 w6 h6=>zst (vs:=p.1.vs) _ h6 rfl (fun w7 h7=> ?_))⟩
 have h7:Sep E (aaa B T++blk b1 p.1.vs::L) w7:=Sep.inn h7
 refine use (aoc h7) ?_
 rintro _ w8 ⟨rfl,h8⟩
 refine ⟨_,_,rfl,use (auV (n:=n) I h8) ?_⟩
 rintro _ w9 ⟨rfl,h9⟩
 obtain ⟨R,hR⟩:∃ R,T.refer id n=R:=⟨_,rfl⟩
 rw [hR] at h9 ⊢
 refine ⟨_,rfl,use (ahX id h9) ?_⟩
 rintro _ w10 ⟨rfl,h10⟩
 obtain ⟨q,hq⟩:∃ q,R.1.pages.get id=q:=⟨_,rfl⟩
 rw [hq]
 refine ⟨_,_,_,_,_,_,_,_,_,_,rfl,Al.i h10 (fun b2 w11 h11=>zst (vs:=q.1.vs) _ h11 rfl (fun w12 h12=> ?_))⟩
 have h12:Sep E (aaa B R.1++blk b2 q.1.vs::blk b1 p.1.vs::L) w12:=Sep.inn h12
 refine use (aoc h12) ?_
 rintro _ w13 ⟨rfl,h13⟩
 have hend:Sep E (tabA W.heap::L) w13:=by rw [<- hBo];exact ac3 h13.cut.cut
 refine ⟨_,_,rfl,?_⟩
 rcases ab1 I id n with ⟨hno,he⟩ | ⟨pg,hpg,hc⟩
 ·rw [he] at hR
  subst hR
  have hp2:p.2=2:=by rw [<- hp];unfold TS.get;rw [hno]
  exact bNe (fun _=>bT rfl (bT rfl (bT (by simp) ⟨by simp,hend⟩))) (fun e=>absurd e (by omega))
 have hpp:p=(pg,0):=by rw [<- hp];unfold TS.get;rw [hpg]
 subst hpp
 refine bNe (fun e=>absurd rfl e) (fun _=> ?_)
 rcases hc with ⟨_,he⟩ | ⟨h0,_,he⟩ | hc
 ·rw [he] at hR
  subst hR
  have hq2:q.2=0:=by rw [<- hq,hp]
  exact bNe (fun _=>bT rfl (bT rfl (bT (by rw [hq2];rfl) (bT (by simp) ⟨by simp,hend⟩)))) (fun e=>absurd e (by simp))
 ·rw [he] at hR
  subst hR
  have hq2:q.2=0:=by
   rw [<- hq]
   have:(T.pages.setPg id {pg with refs:=IntKind.i64.wrap (pg.refs+n)}).pg id=some {pg with refs:=IntKind.i64.wrap (pg.refs+n)} :=ac8 _ _ _
   unfold TS.get
   dsimp only
   rw [this]
  refine bNe (fun e=>absurd rfl e) (fun _=>ld h13 17 rfl rfl rfl (bGt (fun _=>bT rfl (bT (by rw [hq2];rfl) (bT (by simp) ⟨by simp,hend⟩))) (fun hh=> ?_)))
  have h9:IntKind.i64.wrap (pg.refs+n)<=0:=hh
  omega
 obtain ⟨hw0,_,h2,_,_,hpgs,_,_,hfr,hsl,_⟩:=hc
 rw [hR] at h2 hpgs hfr hsl
 have hq2:q.2=2:=by
  rw [<- hq]
  have:R.1.pages.pg id=none:=by rw [hpgs,if_pos rfl]
  unfold TS.get;rw [this]
 have hat:=(I.tab.pl id pg hpg).1.2.2.1
 have hf1:=aBx I.fr
 have hf2:=aBx I.sl
 have ef:abE R.1.fr.pool=abE T.fr.pool+if pg.place=1 then 1 else 0:=by
  rw [hfr]
  by_cases e1:pg.place=1
  ·rw [if_pos e1,if_pos e1];exact ayO I.fr hat ⟨id,pg,hpg,e1,rfl⟩ _
  ·rw [if_neg e1,if_neg e1,Int.add_zero]
 have es:abE R.1.sl.pool=abE T.sl.pool+if pg.place=2 then 1 else 0:=by
  rw [hsl]
  by_cases e1:pg.place=2
  ·rw [if_pos e1,if_pos e1];exact ayO I.sl hat ⟨id,pg,hpg,e1,rfl⟩ _
  ·rw [if_neg e1,if_neg e1,Int.add_zero]
 refine bNe (fun e=>absurd h2 e) (fun _=>ld h13 17 rfl rfl rfl (bGt (fun hh=> ?_) (fun _=> ?_)))
 ·have h9:IntKind.i64.wrap (pg.refs+n)>0:=hh
  omega
 refine ⟨fun f w'=>f=(if pg.place=1 then 1 else 0)/\Sep E (aaa B R.1++blk b2 q.1.vs::blk b1 pg.vs::L) w',ld h13 17 rfl rfl rfl (bEq (fun e=>⟨(if_pos e).symm,h13⟩) (fun e=>⟨(if_neg e).symm,h13⟩)),?_⟩
 rintro _ f w14 ⟨rfl,h14⟩
 refine ⟨fun f w'=>f=(if pg.place=2 then 1 else 0)/\Sep E (aaa B R.1++blk b2 q.1.vs::blk b1 pg.vs::L) w',ld h14 17 rfl rfl rfl (bEq (fun e=>⟨(if_pos e).symm,h14⟩) (fun e=>⟨(if_neg e).symm,h14⟩)),?_⟩
 rintro _ f w15 ⟨rfl,h15⟩
 have hend:Sep E (tabA W.heap::L) w15:=by rw [<- hBo];exact ac3 h15.cut.cut
 have e1:IntKind.i64.wrap (abE T.fr.pool+if pg.place=1 then 1 else 0)=abE R.1.fr.pool:=by
  rw [ef];split<;>rw [w64 (by omega) (by omega)]
 have e2:IntKind.i64.wrap (abE T.sl.pool+if pg.place=2 then 1 else 0)=abE R.1.sl.pool:=by
  rw [es];split<;>rw [w64 (by omega) (by omega)]
 refine bT rfl (bT (by rw [hq2];rfl) (bT (by rw [e1];simp) ⟨by rw [e2];simp,hend⟩))
end Go.Mp
end
section
set_option maxRecDepth 100000
namespace Go.Proofs.YtkjijachkcmelaaGreatDoor
open Go Go.Vc Go.Sp Go.Mp Go.RowKit Go.ChangeShapes
theorem atv (os:Os) (started:os.Started) (H:Type) (enc:TypeId×Value ->H):
  ReturnsInHanded {} Chk os aaG .any (fun w args=>(Rows.coreRefersSpec.pre enc P aau [] false w args/\laidMetH P aa3 w)/\sizedMet enc P aau (OpenSpec.ofChange Rows.coreRefersSpec) false w args) (Rows.coreRefersSpec.post enc P aau false true false false):=by
 refine abO (C:=Chk) (tb:=aeL) (X:=fun w=>laidMetH P aa3 w) (fun _ _ hh h=>h.of_heap hh) own started (by kernel_rfl) adz
  (ChangeSpec.witness_shaped (enc:=enc) (C:=Chk) (os:=os) (X:=fun w _=>laidMetH P aa3 w) false (World.laidAll P os aa3) #[.int .i64 0,.int .i64 0,.slice none 0 0,.int .i64 0,.int .i64 0] 8 (World.laidAll_os _ _ _) (World.shaped_of_ZipB (by kernel_rfl) (by kernel_rfl)) (by kernel_rfl) (by kernel_rfl) (by kernel_rfl) (aeP os _))
  laidOut (by kernel_rfl) (by kernel_rfl) rfl (by kernel_rfl) ?_ ?_
 ·intro ds gs hd hg
  match ds,gs,hd,hg with
  | [d0,d1,d2,d3,d4],[],_,_=>rfl
 ·intro W base args hsz hargs _ hx
  have hw:=aek hx
  obtain ⟨x0,x1,x2,x3,x4,rfl⟩:=aDY hsz
  have a0:=hargs 0 _ _ rfl rfl
  have a1:=hargs 1 _ _ rfl rfl
  have a2:=hargs 2 _ _ rfl rfl
  have a3:=hargs 3 _ _ rfl rfl
  have a4:=hargs 4 _ _ rfl rfl
  obtain ⟨f,rfl,hf⟩:=aa9 a0
  obtain ⟨s,rfl,hs⟩:=aa9 a1
  obtain ⟨l,xs,rfl,hA⟩:=agr a2
  obtain ⟨id,rfl,hid⟩:=aa9 a3
  obtain ⟨n,rfl,hn⟩:=aa9 a4
  refine use (aBF hA hw) ?_
  rintro v w' ⟨rfl,h⟩
  exact ⟨_,rfl,rfl,af5 h⟩
theorem amm:Tryz.pinned.checked.prog.funcNamed Rows.coreRefersRow.func=some aaG:=by kernel_rfl
theorem azU:jfA P aau Rows.coreRefersSpec Rows.coreRefersRow=true:=by kernel_rfl
theorem azV:jfB P aaG Rows.coreRefersRow=true:=by kernel_rfl
theorem azW:jfC P aaG Rows.coreRefersRow=true:=by kernel_rfl
theorem azX:jfD P aaG Rows.coreRefersRow=true:=by kernel_rfl
theorem azY:jfE P aaG Rows.coreRefersRow=true:=by kernel_rfl
theorem azZ:jfF P aau Rows.coreRefersSpec Rows.coreRefersRow=true:=by kernel_rfl
theorem az0:jfG P aau Rows.coreRefersSpec Rows.coreRefersRow=true:=by kernel_rfl
theorem az1:jfH P Rows.coreRefersRow=true:=by kernel_rfl
theorem az2:jfI P aau Rows.coreRefersSpec Rows.coreRefersRow=true:=by kernel_rfl
theorem avc:Rows.CoreRefersSaid:=
 OpenClaim.holds_of_wide aaG aau rfl rfl rfl rfl rfl rfl rfl ⟨rfl,rfl,rfl,rfl,rfl⟩ rfl rfl rfl rfl rfl amm adz
  (aeh azU azV azW azX azY azZ az0 az1 az2)
  (of_decide_eq_true (by kernel_rfl)) (by unfold Func.isWrapper;rw [if_neg (by decide+kernel)];exact ⟨rfl,rfl⟩)
  (fun os started H enc _=>atv os started H enc)
theorem az3:Rows.coreRefersRow.wfByText (OpenSpec.ofChange Rows.coreRefersSpec)=true:=by kernel_rfl
theorem awO:Tryz.pinned.checked.prog.mainIs=some (true, "3b9054f10c9c5fb82da89a913622f02e1aaecefdee6eb776dafd30a2283a3747".toList):=by kernel_rfl
theorem avd:false=Tryz.pinned.checked.prog.looks []:=by kernel_rfl
theorem awN:false=Rows.coreRefersRow.goesBy Tryz.pinned.checked.prog:=by kernel_rfl
theorem ave:(aau.params.toList.all fun u=> !P.wantsStandIn u)=true:=by kernel_rfl
theorem coreRefers_card:Rows.CoreRefersCardSaid:=
 Claim7.holds_tied_plain_at .later [] [.data] true (true, "3b9054f10c9c5fb82da89a913622f02e1aaecefdee6eb776dafd30a2283a3747") false
  avc (fun _ h=>by cases h) az3 (fun _ h=>by cases h) coreRefers_row_tie rfl ⟨rfl,rfl⟩ awO rfl
  (fun f fn hf hfn=>by
   obtain rfl:f=aaG:=Option.some.inj (amm.symm.trans hf) |>.symm
   obtain rfl:fn=aau:=(Option.some.inj (adz.symm.trans hfn)).symm
   refine ⟨avd,fun j t ht=> ?_⟩
   have hm:t∈aau.params.toList:=by simpa using Array.mem_of_getElem? ht
   exact (show P.wantsStandIn t=false by simpa using List.all_eq_true.1 ave t hm))
  awN
end Go.Proofs.YtkjijachkcmelaaGreatDoor
end
