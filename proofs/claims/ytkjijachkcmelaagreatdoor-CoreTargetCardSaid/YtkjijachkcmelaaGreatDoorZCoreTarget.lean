/- Core: Where no frame can be had, the target is the root, or one of the chain that uses as much as it may: the law answers true and lets its arguments be; for every input. -/
import Derived.Test.YtkjijachkcmelaaGreatDoorC14
import Derived.Test.YtkjijachkcmelaaGreatDoorProg
import Derived.Test.YtkjijachkcmelaaGreatDoorChecked
import Derived.Lib.TrailingZeros
import Derived.LaidMore
import Derived.Lay
import Derived.OpenShut
import Derived.Stop.LaidErr
import Derived.Lib.LaidTab
import Derived.SevenTiedAt
import Derived.Test.YtkjijachkcmelaaGreatDoorRows
import Derived.Test.YtkjijachkcmelaaGreatDoorTie
import Derived.Test.YtkjijachkcmelaaGreatDoorCards
set_option linter.all false
section
namespace Go.Kc
open Go.Kt
def abE (T:List Bool):Int:=(T.length:Int) - (T.count true:Nat)
end Go.Kc
end
section
set_option maxRecDepth 100000
namespace Go.Kc
open Go Go.Vc Go.Sp
namespace By
variable {n:Nat} {X:List UInt8} {i j:Int}
theorem acx {t:List UInt8} (h:X.length=16*n) (hi:pg n i) (ht:t.length=16) (k:Nat):
  (wrAt X i t)[k]? =if 16*i.toNat<=k/\k<16*i.toNat+16 then t[k - 16*i.toNat]? else X[k]? :=by
 obtain ⟨h1,h2⟩:=hi
 unfold wrAt
 by_cases hk:k<16*i.toNat
 ·rw [if_neg (by omega),List.append_assoc,List.getElem?_append_left (by simp;omega)];simp [hk]
 ·by_cases hk2:k<16*i.toNat+16
  ·rw [if_pos (by omega),List.append_assoc,List.getElem?_append_right (by simp;omega),List.getElem?_append_left (by simp;omega)]
   congr 1;simp;omega
  ·rw [if_neg (by omega),List.getElem?_append_right (by simp;omega)]
   simp only [List.getElem?_drop,List.length_append,List.length_take]
   congr 1;omega
end By
end Go.Kc
end
section
namespace Go.Kc
open Go.Kt
theorem acO {C:List Cnt} (hC:C.length=64) {g n:Int} (hg:isG g=true) (hn:isA n=true) (x:Int):aab (aaK C g n).1 x=if x=g then n else aab C x:=by
 unfold aaK
 rw [hg,hn]
 simp only [Bool.and_true,if_true]
 unfold aab cOf
 cases hx:isG x with
 | false=>
  have:x≠g:=fun e=>by rw [e,hg] at hx;cases hx
  simp [this]
 | true=>
  simp only [if_true]
  rw [akf _ hC hg hx]
  split<;>simp
end Go.Kc
end
section
namespace Go.Mp
open Go Go.Vc
abbrev aaI:FuncId:=12
abbrev abg:FuncId:=42
abbrev ahd:FuncId:=44
abbrev aa0:FuncId:=103
abbrev abr:FuncId:=176
abbrev aaX:FuncId:=244
noncomputable abbrev aaw:Func:=Go.Proofs.Tryz.f12
theorem adB:P.funcs[aaI]? =some aaw:=Go.Proofs.Tryz.func12
end Go.Mp
end
section
set_option maxRecDepth 100000
namespace Go.Mp
open Go Go.Vc Go.Proofs
variable {K:Value ->World ->Prop} {w:World}
def ad2:Ann:= {sig:=fun r=>(bif r==1 then some ([0,1,2,3,4,6,7,8,9,10,5,11,12,13],[5,11]) else none)}
def aex (c:Option Addr) (K:Value ->World ->Prop) (w:World):Prop:=
 Dr (fun w1=>NN c fun a2=>∃ x3:Option Addr,w1.cell? ((a2.add 1).add 0)=some (Pv x3)/\NN c fun a4=>∃ x5:Option Addr,w1.cell? ((a4.add 4).add 0)=some (Pv x5)/\Calls P aa0 #[(Pv x3)] w1 fun e7 w6=>∃ x8,e7= .returned (Iv x8)/\∃ x9:Option Addr,w6.cell? ((a4.add 4).add 0)=some (Pv x9)/\((Pv x9):Value)=(Pv x5)/\Calls P aa0 #[(Pv x5)] w6 fun e11 w10=>∃ x12,e11= .returned (Iv x12)/\K (.tuple #[(Iv x8),(Iv x12)]) w10) w
theorem aev (c:Option Addr) (h:aex c K w):Calls P abg #[(Pv c)] w (Ret K):=ofVc (A:=ad2) Tryz.func42 (by kernel_rfl) (by kernel_rfl) h
def ad3:Ann:= {quiet:=fun d=> [13].contains d,sig:=fun r=>(bif r==1 then some ([0,1,2,3,5,6,7,8,4,9,10,11],[4,9]) else none)}
def acl (p:Option Addr) (K:Value ->World ->Prop) (w:World):Prop:=
 Dr (fun w1=>NN p fun a2=>∃ x3,w1.cell? (a2.add 0)=some (Pv x3)/\NN p fun a4=>∃ x5,w1.cell? (a4.add 0)=some (Pv x5)/\Calls P aen #[(Pv x3)] w1 fun e7 w6=>∃ x8,e7= .returned (Iv x8)/\∃ x9,w6.cell? (a4.add 0)=some (Pv x9)/\((Pv x9):Value)=(Pv x5)/\Calls P abr #[(Pv x5)] w6 fun e11 w10=>∃ x12,e11= .returned (Iv x12)/\K (Iv (IntKind.i64.wrap (x8 - x12))) w10) w
theorem aew (p:Option Addr) (h:acl p K w):Calls P aa0 #[(Pv p)] w (Ret K):=ofVc (A:=ad3) Tryz.func103 (by kernel_rfl) (by kernel_rfl) h
def ad1:Ann:= {quiet:=fun d=> [10,12,18,19].contains d,loop:=fun r=>(bif r==3 then [(3,.int .i64),(11,.int .i64)] else [])}
def ack (m:Option Addr) (K:Value ->World ->Prop) (w:World):Prop:=
 NN m fun a1=>∃ x2:Sl,w.cell? (a1.add 1)=some (Sv x2)/\∃ (I3:Int ->Int ->World ->Prop) (M4:Int ->Int ->World ->Nat),I3 0 0 w/\∀ _u6:Nat ->Value,∀ n7:Int,∀ x8:Int,∀ w5:World,I3 n7 x8 w5 ->bif (decide (x8<((x2.n:Nat):Int))) then (elAt x2.p x2.n x8 1 fun a9=>∃ x10:Int,w5.cell? a9=some (.int .u64 x10)/\Calls P aaX #[(.int .u64 x10)] w5 fun e12 w11=>∃ x13,e12= .returned (Iv x13)/\(I3 (IntKind.i64.wrap (n7+x13)) (IntKind.i64.wrap (x8+1)) w11/\M4 (IntKind.i64.wrap (n7+x13)) (IntKind.i64.wrap (x8+1)) w11<M4 n7 x8 w5)) else (K (Iv n7) w5)
theorem aeu (m:Option Addr) (h:ack m K w):Calls P abr #[(Pv m)] w (Ret K):=ofVc (A:=ad1) Tryz.func176 (by kernel_rfl) (by kernel_rfl) h
def acr:Ann:= {quiet:=fun d=> [4,5,7,8,10,11,13,14,16,18,19,22,23,26,27,30,31,33,34].contains d}
def abm (x:Int) (K:Value ->World ->Prop) (w:World):Prop:=
 0<=(1:Int)/\0<=(2:Int)/\0<=(4:Int)/\0<=(8:Int)/\0<=(16:Int)/\0<=(32:Int)/\K (Iv (andI .i64 (IntKind.i64.wrap (IntKind.u64.wrap ((IntKind.u64.wrap ((IntKind.u64.wrap ((andI .u64 (IntKind.u64.wrap (((IntKind.u64.wrap ((andI .u64 ((IntKind.u64.wrap ((andI .u64 (x.fdiv (2 ^ (min (1:Int).toNat 64))) 6148914691236517205)+(andI .u64 x 6148914691236517205))).fdiv (2 ^ (min (2:Int).toNat 64))) 3689348814741910323)+(andI .u64 (IntKind.u64.wrap ((andI .u64 (x.fdiv (2 ^ (min (1:Int).toNat 64))) 6148914691236517205)+(andI .u64 x 6148914691236517205))) 3689348814741910323))).fdiv (2 ^ (min (4:Int).toNat 64)))+(IntKind.u64.wrap ((andI .u64 ((IntKind.u64.wrap ((andI .u64 (x.fdiv (2 ^ (min (1:Int).toNat 64))) 6148914691236517205)+(andI .u64 x 6148914691236517205))).fdiv (2 ^ (min (2:Int).toNat 64))) 3689348814741910323)+(andI .u64 (IntKind.u64.wrap ((andI .u64 (x.fdiv (2 ^ (min (1:Int).toNat 64))) 6148914691236517205)+(andI .u64 x 6148914691236517205))) 3689348814741910323))))) 1085102592571150095)+((andI .u64 (IntKind.u64.wrap (((IntKind.u64.wrap ((andI .u64 ((IntKind.u64.wrap ((andI .u64 (x.fdiv (2 ^ (min (1:Int).toNat 64))) 6148914691236517205)+(andI .u64 x 6148914691236517205))).fdiv (2 ^ (min (2:Int).toNat 64))) 3689348814741910323)+(andI .u64 (IntKind.u64.wrap ((andI .u64 (x.fdiv (2 ^ (min (1:Int).toNat 64))) 6148914691236517205)+(andI .u64 x 6148914691236517205))) 3689348814741910323))).fdiv (2 ^ (min (4:Int).toNat 64)))+(IntKind.u64.wrap ((andI .u64 ((IntKind.u64.wrap ((andI .u64 (x.fdiv (2 ^ (min (1:Int).toNat 64))) 6148914691236517205)+(andI .u64 x 6148914691236517205))).fdiv (2 ^ (min (2:Int).toNat 64))) 3689348814741910323)+(andI .u64 (IntKind.u64.wrap ((andI .u64 (x.fdiv (2 ^ (min (1:Int).toNat 64))) 6148914691236517205)+(andI .u64 x 6148914691236517205))) 3689348814741910323))))) 1085102592571150095).fdiv (2 ^ (min (8:Int).toNat 64)))))+((IntKind.u64.wrap ((andI .u64 (IntKind.u64.wrap (((IntKind.u64.wrap ((andI .u64 ((IntKind.u64.wrap ((andI .u64 (x.fdiv (2 ^ (min (1:Int).toNat 64))) 6148914691236517205)+(andI .u64 x 6148914691236517205))).fdiv (2 ^ (min (2:Int).toNat 64))) 3689348814741910323)+(andI .u64 (IntKind.u64.wrap ((andI .u64 (x.fdiv (2 ^ (min (1:Int).toNat 64))) 6148914691236517205)+(andI .u64 x 6148914691236517205))) 3689348814741910323))).fdiv (2 ^ (min (4:Int).toNat 64)))+(IntKind.u64.wrap ((andI .u64 ((IntKind.u64.wrap ((andI .u64 (x.fdiv (2 ^ (min (1:Int).toNat 64))) 6148914691236517205)+(andI .u64 x 6148914691236517205))).fdiv (2 ^ (min (2:Int).toNat 64))) 3689348814741910323)+(andI .u64 (IntKind.u64.wrap ((andI .u64 (x.fdiv (2 ^ (min (1:Int).toNat 64))) 6148914691236517205)+(andI .u64 x 6148914691236517205))) 3689348814741910323))))) 1085102592571150095)+((andI .u64 (IntKind.u64.wrap (((IntKind.u64.wrap ((andI .u64 ((IntKind.u64.wrap ((andI .u64 (x.fdiv (2 ^ (min (1:Int).toNat 64))) 6148914691236517205)+(andI .u64 x 6148914691236517205))).fdiv (2 ^ (min (2:Int).toNat 64))) 3689348814741910323)+(andI .u64 (IntKind.u64.wrap ((andI .u64 (x.fdiv (2 ^ (min (1:Int).toNat 64))) 6148914691236517205)+(andI .u64 x 6148914691236517205))) 3689348814741910323))).fdiv (2 ^ (min (4:Int).toNat 64)))+(IntKind.u64.wrap ((andI .u64 ((IntKind.u64.wrap ((andI .u64 (x.fdiv (2 ^ (min (1:Int).toNat 64))) 6148914691236517205)+(andI .u64 x 6148914691236517205))).fdiv (2 ^ (min (2:Int).toNat 64))) 3689348814741910323)+(andI .u64 (IntKind.u64.wrap ((andI .u64 (x.fdiv (2 ^ (min (1:Int).toNat 64))) 6148914691236517205)+(andI .u64 x 6148914691236517205))) 3689348814741910323))))) 1085102592571150095).fdiv (2 ^ (min (8:Int).toNat 64))))).fdiv (2 ^ (min (16:Int).toNat 64)))))+((IntKind.u64.wrap ((IntKind.u64.wrap ((andI .u64 (IntKind.u64.wrap (((IntKind.u64.wrap ((andI .u64 ((IntKind.u64.wrap ((andI .u64 (x.fdiv (2 ^ (min (1:Int).toNat 64))) 6148914691236517205)+(andI .u64 x 6148914691236517205))).fdiv (2 ^ (min (2:Int).toNat 64))) 3689348814741910323)+(andI .u64 (IntKind.u64.wrap ((andI .u64 (x.fdiv (2 ^ (min (1:Int).toNat 64))) 6148914691236517205)+(andI .u64 x 6148914691236517205))) 3689348814741910323))).fdiv (2 ^ (min (4:Int).toNat 64)))+(IntKind.u64.wrap ((andI .u64 ((IntKind.u64.wrap ((andI .u64 (x.fdiv (2 ^ (min (1:Int).toNat 64))) 6148914691236517205)+(andI .u64 x 6148914691236517205))).fdiv (2 ^ (min (2:Int).toNat 64))) 3689348814741910323)+(andI .u64 (IntKind.u64.wrap ((andI .u64 (x.fdiv (2 ^ (min (1:Int).toNat 64))) 6148914691236517205)+(andI .u64 x 6148914691236517205))) 3689348814741910323))))) 1085102592571150095)+((andI .u64 (IntKind.u64.wrap (((IntKind.u64.wrap ((andI .u64 ((IntKind.u64.wrap ((andI .u64 (x.fdiv (2 ^ (min (1:Int).toNat 64))) 6148914691236517205)+(andI .u64 x 6148914691236517205))).fdiv (2 ^ (min (2:Int).toNat 64))) 3689348814741910323)+(andI .u64 (IntKind.u64.wrap ((andI .u64 (x.fdiv (2 ^ (min (1:Int).toNat 64))) 6148914691236517205)+(andI .u64 x 6148914691236517205))) 3689348814741910323))).fdiv (2 ^ (min (4:Int).toNat 64)))+(IntKind.u64.wrap ((andI .u64 ((IntKind.u64.wrap ((andI .u64 (x.fdiv (2 ^ (min (1:Int).toNat 64))) 6148914691236517205)+(andI .u64 x 6148914691236517205))).fdiv (2 ^ (min (2:Int).toNat 64))) 3689348814741910323)+(andI .u64 (IntKind.u64.wrap ((andI .u64 (x.fdiv (2 ^ (min (1:Int).toNat 64))) 6148914691236517205)+(andI .u64 x 6148914691236517205))) 3689348814741910323))))) 1085102592571150095).fdiv (2 ^ (min (8:Int).toNat 64)))))+((IntKind.u64.wrap ((andI .u64 (IntKind.u64.wrap (((IntKind.u64.wrap ((andI .u64 ((IntKind.u64.wrap ((andI .u64 (x.fdiv (2 ^ (min (1:Int).toNat 64))) 6148914691236517205)+(andI .u64 x 6148914691236517205))).fdiv (2 ^ (min (2:Int).toNat 64))) 3689348814741910323)+(andI .u64 (IntKind.u64.wrap ((andI .u64 (x.fdiv (2 ^ (min (1:Int).toNat 64))) 6148914691236517205)+(andI .u64 x 6148914691236517205))) 3689348814741910323))).fdiv (2 ^ (min (4:Int).toNat 64)))+(IntKind.u64.wrap ((andI .u64 ((IntKind.u64.wrap ((andI .u64 (x.fdiv (2 ^ (min (1:Int).toNat 64))) 6148914691236517205)+(andI .u64 x 6148914691236517205))).fdiv (2 ^ (min (2:Int).toNat 64))) 3689348814741910323)+(andI .u64 (IntKind.u64.wrap ((andI .u64 (x.fdiv (2 ^ (min (1:Int).toNat 64))) 6148914691236517205)+(andI .u64 x 6148914691236517205))) 3689348814741910323))))) 1085102592571150095)+((andI .u64 (IntKind.u64.wrap (((IntKind.u64.wrap ((andI .u64 ((IntKind.u64.wrap ((andI .u64 (x.fdiv (2 ^ (min (1:Int).toNat 64))) 6148914691236517205)+(andI .u64 x 6148914691236517205))).fdiv (2 ^ (min (2:Int).toNat 64))) 3689348814741910323)+(andI .u64 (IntKind.u64.wrap ((andI .u64 (x.fdiv (2 ^ (min (1:Int).toNat 64))) 6148914691236517205)+(andI .u64 x 6148914691236517205))) 3689348814741910323))).fdiv (2 ^ (min (4:Int).toNat 64)))+(IntKind.u64.wrap ((andI .u64 ((IntKind.u64.wrap ((andI .u64 (x.fdiv (2 ^ (min (1:Int).toNat 64))) 6148914691236517205)+(andI .u64 x 6148914691236517205))).fdiv (2 ^ (min (2:Int).toNat 64))) 3689348814741910323)+(andI .u64 (IntKind.u64.wrap ((andI .u64 (x.fdiv (2 ^ (min (1:Int).toNat 64))) 6148914691236517205)+(andI .u64 x 6148914691236517205))) 3689348814741910323))))) 1085102592571150095).fdiv (2 ^ (min (8:Int).toNat 64))))).fdiv (2 ^ (min (16:Int).toNat 64))))).fdiv (2 ^ (min (32:Int).toNat 64)))))) 127)) w
theorem acw (x:Int) (h:abm x K w):Calls P aaX #[(.int .u64 x)] w (Ret K):=ofVc (A:=acr) Tryz.func244 (by kernel_rfl) (by kernel_rfl) h
end Go.Mp
end
section
set_option maxRecDepth 100000
namespace Go.Kc
open Go Go.Vc
def num:List Nat ->Nat
 | []=>0
 | y::r=>y+256*num r
def rep (c:Nat):Nat ->Nat
 | 0=>0
 | k+1=>c+256*rep c k
theorem acu {q y m c:Nat} (hy:y<256) (hc:c<256):(y+256*q) &&& (c+256*m)=(y &&& c)+256*(q &&& m):=by
 have hyc:y &&& c<256:=Nat.and_lt_two_pow (n:=8) _ hc
 apply Nat.eq_of_testBit_eq
 intro i
 have e:∀ (a b:Nat),a<256 ->(a+256*b).testBit i=if i<8 then a.testBit i else b.testBit (i - 8):=by
  intro a b ha
  rw [Nat.add_comm,show (256:Nat)=2 ^ 8 by decide,Nat.testBit_two_pow_mul_add _ (by simpa using ha)]
 rw [Nat.testBit_and,e _ _ hy,e _ _ hc,e _ _ hyc]
 split<;>simp
def st1 (k x:Nat):Nat:=((x / 2) &&& rep 0x55 k)+(x &&& rep 0x55 k)
def st2 (k x:Nat):Nat:=((x / 4) &&& rep 0x33 k)+(x &&& rep 0x33 k)
def st3 (k x:Nat):Nat:=(x / 16+x) &&& rep 0x0f k
def by1 (y:Nat):Nat:=((y / 2) &&& 0x55)+(y &&& 0x55)
def by2 (y:Nat):Nat:=((y / 4) &&& 0x33)+(y &&& 0x33)
def by3 (y:Nat):Nat:=y / 16+y % 16
theorem awi:∀ y,y<256 ->by1 y<256:=by decide+kernel
theorem awj:∀ y,y<256 ->by2 (by1 y)<256/\by2 (by1 y) / 16<=4/\by2 (by1 y) % 16<=4:=by decide+kernel
theorem and1:∀ y,y<256 ->∀ r,r<2 ->(128*r+y / 2) &&& 0x55=(y / 2) &&& 0x55:=by decide+kernel
theorem and2:∀ y,y<256 ->∀ r,r<4 ->(64*r+y / 4) &&& 0x33=(y / 4) &&& 0x33:=by decide+kernel
theorem aiZ:∀ {l:List Nat},(∀ y∈l,y<256) ->st1 l.length (num l)=num (l.map by1)
 | [],_=>by decide
 | y::l,h=>by
  have hy:=h y (by simp)
  have ih:=aiZ (l:=l) (fun z hz=>h z (by simp [hz]))
  unfold st1 at ih ⊢
  have e:(y+256*num l) / 2=(128*(num l % 2)+y / 2)+256*(num l / 2):=by omega
  show ((y+256*num l) / 2 &&& (0x55+256*rep 0x55 l.length))+((y+256*num l) &&& (0x55+256*rep 0x55 l.length))=by1 y+256*num (l.map by1)
  rw [e,acu (by omega) (by omega),acu hy (by omega),and1 y hy _ (by omega),<- ih]
  unfold by1;omega
theorem ai0:∀ {l:List Nat},(∀ y∈l,y<256) ->st2 l.length (num l)=num (l.map by2)
 | [],_=>by decide
 | y::l,h=>by
  have hy:=h y (by simp)
  have ih:=ai0 (l:=l) (fun z hz=>h z (by simp [hz]))
  unfold st2 at ih ⊢
  have e:(y+256*num l) / 4=(64*(num l % 4)+y / 4)+256*(num l / 4):=by omega
  show ((y+256*num l) / 4 &&& (0x33+256*rep 0x33 l.length))+((y+256*num l) &&& (0x33+256*rep 0x33 l.length))=by2 y+256*num (l.map by2)
  rw [e,acu (by omega) (by omega),acu hy (by omega),and2 y hy _ (by omega),<- ih]
  unfold by2;omega
theorem av7 (n:Nat):n &&& 15=n % 16:=Nat.and_two_pow_sub_one_eq_mod n 4
theorem ai1:∀ {l:List Nat},(∀ y∈l,y<256/\y / 16<=4/\y % 16<=4) ->st3 l.length (num l)=num (l.map by3)
 | [],_=>by decide
 | y::l,h=>by
  have hy:=h y (by simp)
  have ih:=ai1 (l:=l) (fun z hz=>h z (by simp [hz]))
  have hr:num l % 16<=4:=by
   cases l with
   | nil=>decide
   | cons z r=>have:=h z (by simp);show (z+256*num r) % 16<=4;omega
  unfold st3 at ih ⊢
  show ((y+256*num l) / 16+(y+256*num l)) &&& (0x0f+256*rep 0x0f l.length)=by3 y+256*num (l.map by3)
  have e:(y+256*num l) / 16+(y+256*num l)=(y / 16+16*(num l % 16)+y)+256*(num l / 16+num l):=by omega
  rw [e,acu (by omega) (by omega),ih,av7]
  unfold by3;omega
def ones:Nat ->Nat ->Nat
 | 0,_=>0
 | k+1,x=>x % 2+ones k (x / 2)
theorem agb:∀ y,y<256 ->by3 (by2 (by1 y))=ones 8 y/\ones 8 y<=8:=by decide+kernel
theorem abl:∀ (j k x:Nat),ones (j+k) x=ones j x+ones k (x / 2 ^ j)
 | 0,k,x=>by simp [ones]
 | j+1,k,x=>by
  rw [show j+1+k=(j+k)+1 by omega]
  show x % 2+ones (j+k) (x / 2)=(x % 2+ones j (x / 2))+ones k (x / 2 ^ (j+1))
  rw [abl j k,Nat.div_div_eq_div_mul,Nat.pow_succ,Nat.mul_comm 2];omega
theorem ahG:∀ (j x y:Nat),x % 2 ^ j=y % 2 ^ j ->ones j x=ones j y
 | 0,_,_,_=>rfl
 | j+1,x,y,h=>by
  have h1:x % 2=y % 2:=by
   have:=congrArg (· % 2) h
   simp only [Nat.pow_succ,Nat.mod_mul_left_mod] at this
   exact this
  have h2:x / 2 % 2 ^ j=y / 2 % 2 ^ j:=by
   have:=congrArg (· / 2) h
   simp only [Nat.pow_succ,Nat.mul_comm _ 2,Nat.mod_mul_right_div_self] at this
   exact this
  show x % 2+ones j (x / 2)=y % 2+ones j (y / 2)
  rw [h1,ahG j _ _ h2]
theorem aiQ:∀ (l:List Bool) (k:Nat),l.length<=k ->ones k (wd l)=l.count true
 | [],k,_=>by
  have:∀ k,ones k 0=0:=by
   intro k;induction k with
   | zero=>rfl
   | succ k ih=>show 0 % 2+ones k (0 / 2)=0;rw [show 0 / 2=0 by decide,ih]
  simp [wd,this]
 | b::r,0,h=>by simp at h
 | b::r,k+1,h=>by
  show (b.toNat+2*wd r) % 2+ones k ((b.toNat+2*wd r) / 2)=_
  rw [show (b.toNat+2*wd r) / 2=wd r by cases b<;>simp<;>omega,aiQ r k (by simpa using h),List.count_cons]
  cases b<;>simp<;>omega
theorem afY {a:Nat} {r:List Nat} (h:a<256):num (a::r) / 256=num r:=by
 show (a+256*num r) / 256=num r
 omega
theorem aeV {a b:Nat} {r:List Nat} (h:a<256) (h2:b<256):num (a::b::r) / 65536=num r:=by
 rw [show (65536:Nat)=256*256 by decide,<- Nat.div_div_eq_div_mul,afY h,afY h2]
theorem amz {a b c d:Nat} {r:List Nat} (h:a<256) (h2:b<256) (h3:c<256) (h4:d<256):num (a::b::c::d::r) / 4294967296=num r:=by
 rw [show (4294967296:Nat)=65536*65536 by decide,<- Nat.div_div_eq_div_mul,aeV h h2,aeV h3 h4]
theorem akN:∀ {l:List Nat},(∀ y∈l,y<256) ->num l<256 ^ l.length
 | [],_=>by decide
 | y::r,h=>by
  have h1:=h y (by simp)
  have h2:=akN (l:=r) (fun z hz=>h z (by simp [hz]))
  show y+256*num r<256 ^ (r.length+1)
  rw [Nat.pow_succ];omega
theorem afZ {a b c d e f g h:Nat} (h0:a<256/\b<256/\c<256/\d<256/\e<256/\f<256/\g<256/\h<256):num [a,b,c,d,e,f,g,h] % 18446744073709551616=num [a,b,c,d,e,f,g,h]:=by
 have h8:(256:Nat) ^ 8=18446744073709551616:=by decide
 rw [<- h8]
 refine Nat.mod_eq_of_lt (akN (l:= [a,b,c,d,e,f,g,h]) ?_)
 simp only [List.mem_cons,List.not_mem_nil,or_false,forall_eq_or_imp,forall_eq]
 exact h0
theorem sum8 {c0 c1 c2 c3 c4 c5 c6 c7:Nat} (g0:c0<=8) (g1:c1<=8) (g2:c2<=8) (g3:c3<=8) (g4:c4<=8) (g5:c5<=8) (g6:c6<=8) (g7:c7<=8) (c d e:Nat) (hc:c=num [c0,c1,c2,c3,c4,c5,c6,c7]) (hd:d=(c+c / 256) % 18446744073709551616) (he:e=(d+d / 65536) % 18446744073709551616):
  (e+e / 4294967296) % 18446744073709551616 % 128=c0+c1+c2+c3+c4+c5+c6+c7:=by
 subst he hd hc
 rw [afY (by omega)]
 have e1:num [c0,c1,c2,c3,c4,c5,c6,c7]+num [c1,c2,c3,c4,c5,c6,c7]=num [c0+c1,c1+c2,c2+c3,c3+c4,c4+c5,c5+c6,c6+c7,c7]:=by simp only [num];omega
 rw [e1,afZ (by refine ⟨?_,?_,?_,?_,?_,?_,?_,?_⟩<;>omega),aeV (by omega) (by omega)]
 have e2:num [c0+c1,c1+c2,c2+c3,c3+c4,c4+c5,c5+c6,c6+c7,c7]+num [c2+c3,c3+c4,c4+c5,c5+c6,c6+c7,c7]=
  num [c0+c1+c2+c3,c1+c2+c3+c4,c2+c3+c4+c5,c3+c4+c5+c6,c4+c5+c6+c7,c5+c6+c7,c6+c7,c7]:=by simp only [num];omega
 rw [e2,afZ (by refine ⟨?_,?_,?_,?_,?_,?_,?_,?_⟩<;>omega),amz (by omega) (by omega) (by omega) (by omega)]
 have e3:num [c0+c1+c2+c3,c1+c2+c3+c4,c2+c3+c4+c5,c3+c4+c5+c6,c4+c5+c6+c7,c5+c6+c7,c6+c7,c7]+num [c4+c5+c6+c7,c5+c6+c7,c6+c7,c7]=
  num [c0+c1+c2+c3+c4+c5+c6+c7,c1+c2+c3+c4+c5+c6+c7,c2+c3+c4+c5+c6+c7,c3+c4+c5+c6+c7,c4+c5+c6+c7,c5+c6+c7,c6+c7,c7]:=by simp only [num];omega
 rw [e3,afZ (by refine ⟨?_,?_,?_,?_,?_,?_,?_,?_⟩<;>omega)]
 show (c0+c1+c2+c3+c4+c5+c6+c7+256*num [c1+c2+c3+c4+c5+c6+c7,c2+c3+c4+c5+c6+c7,c3+c4+c5+c6+c7,c4+c5+c6+c7,c5+c6+c7,c6+c7,c7]) % 128=_
 generalize num [c1+c2+c3+c4+c5+c6+c7,c2+c3+c4+c5+c6+c7,c3+c4+c5+c6+c7,c4+c5+c6+c7,c5+c6+c7,c6+c7,c7]=X
 omega
theorem ajv {x:Nat} (hx:x<18446744073709551616):
  let c:=st3 8 (st2 8 (st1 8 x))
  let d:=(c+c / 256) % 18446744073709551616
  let e:=(d+d / 65536) % 18446744073709551616
  let f:=(e+e / 4294967296) % 18446744073709551616
  f % 128=ones 64 x:=by
 have hx':x=num [x % 256,x / 256 % 256,x / 65536 % 256,x / 16777216 % 256,x / 4294967296 % 256,x / 1099511627776 % 256,x / 281474976710656 % 256,x / 72057594037927936 % 256]:=by
  simp only [num];omega
 generalize hl: [x % 256,x / 256 % 256,x / 65536 % 256,x / 16777216 % 256,x / 4294967296 % 256,x / 1099511627776 % 256,x / 281474976710656 % 256,x / 72057594037927936 % 256]=l at hx'
 have hlen:l.length=8:=by rw [<- hl];rfl
 have hlt:∀ y∈l,y<256:=by rw [<- hl];intro y hy;simp at hy;omega
 have h1:st1 8 x=num (l.map by1):=by rw [hx',<- hlen];exact aiZ hlt
 have h2:st2 8 (num (l.map by1))=num ((l.map by1).map by2):=by
  have:=ai0 (l:=l.map by1) (fun y hy=>by obtain ⟨z,hz,rfl⟩:=List.mem_map.1 hy;exact awi z (hlt z hz))
  rw [List.length_map,hlen] at this;exact this
 have h3:st3 8 (num ((l.map by1).map by2))=num (((l.map by1).map by2).map by3):=by
  have:=ai1 (l:=(l.map by1).map by2) (fun y hy=>by
   obtain ⟨z,hz,rfl⟩:=List.mem_map.1 hy
   obtain ⟨u,hu,rfl⟩:=List.mem_map.1 hz
   exact awj u (hlt u hu))
  rw [List.length_map,List.length_map,hlen] at this;exact this
 have h4:(((l.map by1).map by2).map by3)=l.map (ones 8):=by
  rw [List.map_map,List.map_map]
  exact List.map_congr_left (fun y hy=>(agb y (hlt y hy)).1)
 have hle:∀ y∈l,ones 8 y<=8:=fun y hy=>(agb y (hlt y hy)).2
 have ho:ones 64 x=(l.map (ones 8)).sum:=by
  have hb:∀ (k:Nat) (y:Nat),ones 8 (y % 256)=ones 8 y:=fun k y=>ahG 8 _ _ (by simp)
  rw [<- hl]
  have q0:ones 64 x=ones 8 x+ones 56 (x / 256):=abl 8 56 x
  have q1:ones 56 (x / 256)=ones 8 (x / 256)+ones 48 (x / 65536):=by have:=abl 8 48 (x / 256);rwa [Nat.div_div_eq_div_mul] at this
  have q2:ones 48 (x / 65536)=ones 8 (x / 65536)+ones 40 (x / 16777216):=by have:=abl 8 40 (x / 65536);rwa [Nat.div_div_eq_div_mul] at this
  have q3:ones 40 (x / 16777216)=ones 8 (x / 16777216)+ones 32 (x / 4294967296):=by have:=abl 8 32 (x / 16777216);rwa [Nat.div_div_eq_div_mul] at this
  have q4:ones 32 (x / 4294967296)=ones 8 (x / 4294967296)+ones 24 (x / 1099511627776):=by have:=abl 8 24 (x / 4294967296);rwa [Nat.div_div_eq_div_mul] at this
  have q5:ones 24 (x / 1099511627776)=ones 8 (x / 1099511627776)+ones 16 (x / 281474976710656):=by have:=abl 8 16 (x / 1099511627776);rwa [Nat.div_div_eq_div_mul] at this
  have q6:ones 16 (x / 281474976710656)=ones 8 (x / 281474976710656)+ones 8 (x / 72057594037927936):=by have:=abl 8 8 (x / 281474976710656);rwa [Nat.div_div_eq_div_mul] at this
  simp only [List.map_cons,List.map_nil,List.sum_cons,List.sum_nil,hb 0]
  omega
 have hle2:∀ y∈ [x % 256,x / 256 % 256,x / 65536 % 256,x / 16777216 % 256,x / 4294967296 % 256,x / 1099511627776 % 256,x / 281474976710656 % 256,x / 72057594037927936 % 256],ones 8 y<=8:=by rw [hl];exact hle
 simp only [List.mem_cons,List.not_mem_nil,or_false,forall_eq_or_imp,forall_eq] at hle2
 obtain ⟨g0,g1,g2,g3,g4,g5,g6,g7⟩:=hle2
 have hs:=sum8 g0 g1 g2 g3 g4 g5 g6 g7 _ _ _ (show st3 8 (st2 8 (st1 8 x))=_ by rw [h1,h2,h3,h4,<- hl];rfl) rfl rfl
 refine hs.trans ?_
 rw [ho,<- hl]
 simp only [List.map_cons,List.map_nil,List.sum_cons,List.sum_nil]
 omega
end Go.Kc
end
section
set_option maxRecDepth 100000
namespace Go.Mp
open Go Go.Vc Go.Sp Go.Proofs Go.Kc
variable {E:Env} {L:List Asn} {w W:World}
variable {b:Nat} {T:List Bool}
theorem ak1 {x:Nat} (hx:x<18446744073709551616) (w:World):Calls P aaX #[.int .u64 (x:Nat)] w (Ret fun v w'=>v= .int .i64 (ones 64 x:Nat)/\w'=w):=by
 apply acw
 unfold abm
 have m0:(6148914691236517205:Int)=((rep 0x55 8:Nat):Int):=by decide
 have m1:(3689348814741910323:Int)=((rep 0x33 8:Nat):Int):=by decide
 have m2:(1085102592571150095:Int)=((rep 0x0f 8:Nat):Int):=by decide
 have r0:rep 0x55 8<9223372036854775808:=by decide
 have r1:rep 0x33 8<9223372036854775808:=by decide
 have r2:rep 0x0f 8<9223372036854775808:=by decide
 rw [m0,m1,m2]
 have a1:IntKind.u64.wrap ((andI .u64 ((x:Int).fdiv (2 ^ (min (1:Int).toNat 64))) ((rep 0x55 8:Nat):Int))+(andI .u64 (x:Int) ((rep 0x55 8:Nat):Int)))=((st1 8 x:Nat):Int):=by
  have h1:x / 2 &&& rep 0x55 8<=rep 0x55 8:=Nat.and_le_right
  have h2:x &&& rep 0x55 8<=rep 0x55 8:=Nat.and_le_right
  rw [show ((x:Int).fdiv (2 ^ (min (1:Int).toNat 64)))=((x / 2:Nat):Int) from sh x 1,aem (by omega) (by omega),aem hx (by omega),<- Int.natCast_add,u64n (by omega)];rfl
 have b1:st1 8 x<18446744073709551616:=by
  have h1:x / 2 &&& rep 0x55 8<=rep 0x55 8:=Nat.and_le_right
  have h2:x &&& rep 0x55 8<=rep 0x55 8:=Nat.and_le_right
  unfold st1;omega
 rw [a1]
 generalize hy:st1 8 x=y at*
 have a2:IntKind.u64.wrap ((andI .u64 ((y:Int).fdiv (2 ^ (min (2:Int).toNat 64))) ((rep 0x33 8:Nat):Int))+(andI .u64 (y:Int) ((rep 0x33 8:Nat):Int)))=((st2 8 y:Nat):Int):=by
  have h1:y / 4 &&& rep 0x33 8<=rep 0x33 8:=Nat.and_le_right
  have h2:y &&& rep 0x33 8<=rep 0x33 8:=Nat.and_le_right
  rw [show ((y:Int).fdiv (2 ^ (min (2:Int).toNat 64)))=((y / 4:Nat):Int) from sh y 2,aem (by omega) (by omega),aem b1 (by omega),<- Int.natCast_add,u64n (by omega)];rfl
 have b2:st2 8 y<=2*rep 0x33 8:=by
  have h1:y / 4 &&& rep 0x33 8<=rep 0x33 8:=Nat.and_le_right
  have h2:y &&& rep 0x33 8<=rep 0x33 8:=Nat.and_le_right
  unfold st2;omega
 rw [a2]
 generalize hz:st2 8 y=z at*
 have hz64:z / 16+z<18446744073709551616:=by
  have:rep 0x33 8=3689348814741910323:=by decide
  omega
 have a3:andI .u64 (IntKind.u64.wrap (((z:Int).fdiv (2 ^ (min (4:Int).toNat 64)))+(z:Int))) ((rep 0x0f 8:Nat):Int)=((st3 8 z:Nat):Int):=by
  rw [show ((z:Int).fdiv (2 ^ (min (4:Int).toNat 64)))=((z / 16:Nat):Int) from sh z 4,<- Int.natCast_add,u64n hz64,aem hz64 (by omega)];rfl
 rw [a3]
 have hs:=ajv hx
 rw [hy,hz] at hs
 generalize st3 8 z=c at*
 have a4:IntKind.u64.wrap ((c:Int)+((c:Int).fdiv (2 ^ (min (8:Int).toNat 64))))=(((c+c / 256) % 18446744073709551616:Nat):Int):=by
  rw [show ((c:Int).fdiv (2 ^ (min (8:Int).toNat 64)))=((c / 256:Nat):Int) from sh c 8,<- Int.natCast_add,u64m]
 rw [a4]
 dsimp only at hs
 generalize (c+c / 256) % 18446744073709551616=d at*
 have a5:IntKind.u64.wrap ((d:Int)+((d:Int).fdiv (2 ^ (min (16:Int).toNat 64))))=(((d+d / 65536) % 18446744073709551616:Nat):Int):=by
  rw [show ((d:Int).fdiv (2 ^ (min (16:Int).toNat 64)))=((d / 65536:Nat):Int) from sh d 16,<- Int.natCast_add,u64m]
 rw [a5]
 generalize (d+d / 65536) % 18446744073709551616=e at*
 have a6:IntKind.u64.wrap ((e:Int)+((e:Int).fdiv (2 ^ (min (32:Int).toNat 64))))=(((e+e / 4294967296) % 18446744073709551616:Nat):Int):=by
  rw [show ((e:Int).fdiv (2 ^ (min (32:Int).toNat 64)))=((e / 4294967296:Nat):Int) from sh e 32,<- Int.natCast_add,u64m]
 rw [a6]
 generalize (e+e / 4294967296) % 18446744073709551616=f at*
 refine ⟨by decide,by decide,by decide,by decide,by decide,by decide,?_,rfl⟩
 have a7:andI .i64 (IntKind.i64.wrap (f:Int)) 127=((f % 128:Nat):Int):=by
  have e1:BitVec.ofInt 64 (IntKind.i64.wrap (f:Int))=BitVec.ofNat 64 f:=by
   apply BitVec.eq_of_toNat_eq
   rw [BitVec.toNat_ofInt,BitVec.toNat_ofNat]
   unfold IntKind.wrap
   simp only [IntKind.signed,IntKind.bits,Bool.true_and]
   split<;>omega
  have h1:(BitVec.ofInt 64 (IntKind.i64.wrap (f:Int)) &&& BitVec.ofInt 64 127).toNat=f % 128:=by
   rw [e1,BitVec.toNat_and,BitVec.toNat_ofNat]
   have:(BitVec.ofInt 64 127).toNat=127:=by decide
   rw [this]
   have h2:=Nat.and_two_pow_sub_one_eq_mod (f % 2 ^ 64) 7
   rw [show (2:Nat) ^ 7 - 1=127 by decide] at h2
   rw [h2];omega
  show IntKind.i64.wrap ((BitVec.ofInt 64 (IntKind.i64.wrap (f:Int)) &&& BitVec.ofInt 64 127).toNat:Int)=_
  rw [h1];exact w64 (by omega) (by omega)
 rw [a7,hs]
theorem aiP:∀ (k x:Nat),ones k x<=k
 | 0,_=>Nat.le_refl _
 | k+1,x=>by have:=aiP k (x / 2);show x % 2+ones k (x / 2)<=k+1;omega
theorem aip (T:List Bool) (j:Nat):(T.take (64*(j+1))).count true=(T.take (64*j)).count true+ones 64 (wdAt T j):=by
 have e:T.take (64*(j+1))=T.take (64*j)++(T.drop (64*j)).take 64:=by
  rw [show 64*(j+1)=64*j+64 by omega,List.take_add]
 unfold wdAt
 rw [e,List.count_append,aiQ ((T.drop (64*j)).take 64) 64 (by simp;omega)]
theorem ain {q:Nat} (h:Sep E L w) (hq:L[q]? =some (acS b T)):Calls P abr #[.pointer (some ⟨b,0,none⟩)] w (Ret fun v w'=>v= .int .i64 (T.count true:Nat)/\w'=w):=by
 apply aeu
 unfold ack
 obtain ⟨s,hn,hb,h1⟩:=acS.get (h.fr q hq)
 refine ⟨_,rfl,s,h1.cell 1,?_⟩
 refine ⟨fun n x w'=>w'=w/\∃ j:Nat,x=j/\j<=nW T.length/\n=((T.take (64*j)).count true:Nat),fun _ x _=>(nW T.length - x).toNat,⟨rfl,0,rfl,Nat.zero_le _,by simp⟩,?_⟩
 rintro _ n x w1 ⟨rfl,j,rfl,hj,rfl⟩
 have hcl:=List.count_le_length (a:=true) (l:=T.take (64*j))
 have hcl2:=List.length_take_le (64*j) T
 have hnW:nW T.length<=2000:=by unfold nW;omega
 refine bLt (fun hlt=> ?_) (fun hge=> ?_)
 ·have hj':j<nW T.length:=by omega
  refine rowA.el 1 h1 rfl (by omega) (by omega) (fun b' hb' hc=>⟨((wdAt T j:Nat):Int),?_,?_⟩)
  ·have:=hc 0 (by decide)
   rw [Nat.add_zero] at this
   rw [this,Nat.mul_one,Int.toNat_natCast,agn hj']
  ·refine use (ak1 (af7 T j) w1) ?_
   rintro _ w3 ⟨rfl,rfl⟩
   have ho:=aiP 64 (wdAt T j)
   have e1:IntKind.i64.wrap ((j:Int)+1)=((j+1:Nat):Int):=by rw [w64 (by omega) (by omega)];omega
   refine ⟨_,rfl,⟨rfl,j+1,e1,hj',?_⟩,by dsimp only;rw [e1];omega⟩
   rw [aip,w64 (by omega) (by omega)];omega
 ·have:j=nW T.length:=by omega
  subst this
  refine ⟨?_,rfl⟩
  rw [List.take_of_length_le (by unfold nW;omega)]
variable {p:Nat}
theorem afi (h:Sep E (abb p T::L) w):Calls P aa0 #[.pointer (some ⟨p,0,none⟩)] w (Ret fun v w'=>v= .int .i64 (abE T)/\Sep E (abb p T::L) w'):=by
 apply aew
 unfold acl
 refine Dr.i h (fun w1 h1=> ?_)
 obtain ⟨b,hb,h2⟩:=abb.get h1
 refine ⟨_,rfl,_,h2.cell 0,_,rfl,_,h2.cell 0,use (am2 (q:=1) h2 rfl) ?_⟩
 rintro _ w2 ⟨rfl,rfl⟩
 refine ⟨_,rfl,_,h2.cell 0,rfl,use (ain (q:=1) h2 rfl) ?_⟩
 rintro _ w3 ⟨rfl,rfl⟩
 have:=List.count_le_length (a:=true) (l:=T)
 refine ⟨_,rfl,?_,h1⟩
 unfold abE
 rw [w64 (by omega) (by omega)]
end Go.Mp
end
section
set_option maxRecDepth 100000
namespace Go.Mp
open Go Go.Vc Go.Sp Go.Proofs Go.Kc
variable {E:Env} {L:List Asn} {w:World} {A:At} {S:Cs}
theorem aoc (h:Sep E (aaa A S++L) w):Calls P abg #[.pointer (some ⟨A.c,0,none⟩)] w (Ret fun v w'=>v= .tuple #[.int .i64 (abE S.fr.pool),.int .i64 (abE S.sl.pool)]/\Sep E (aaa A S++L) w'):=by
 apply aev
 refine Dr.i h (fun w1 h1=>⟨_,rfl,ld h1 0 rfl rfl rfl ⟨_,rfl,ld h1 0 rfl rfl rfl (use (afi (h1.fr 2 rfl)) ?_)⟩⟩)
 rintro _ w2 ⟨rfl,h2⟩
 have h2:=h2.put (q:=2) rfl
 have h2:Sep E (aaa A S++L) w2:=h2
 refine ⟨_,rfl,ld h2 0 rfl rfl rfl ⟨rfl,use (afi (h2.fr 5 rfl)) ?_⟩⟩
 rintro _ w3 ⟨rfl,h3⟩
 have h3:=h3.put (q:=5) rfl
 exact ⟨_,rfl,rfl,h3⟩
end Go.Mp
end
section
set_option maxRecDepth 100000
namespace Go.Mp
open Go Go.Vc Go.Proofs
variable {K:Value ->World ->Prop} {w:World}
def akb:Ann:= {quiet:=fun d=> [39,41,47,48,50,66,67,70,78,104,123,130,133].contains d,sig:=fun r=>(bif r==17 then some ([0,1,2,3,4,5,6,7,8,9,10,11,12],[12]) else bif r==24 then some ([0,1,2,3,5,6,7,8,4,9,10,11],[4]) else none),loop:=fun r=>(bif r==9 then [(12,.int .i64)] else bif r==13 then [(13,.int .i64)] else []),join:=fun r=>(bif r==17 then some [(79,.bool)] else bif r==25 then some [(24,.bool)] else none)}
def agj (frames:Int) (slots:Int) (l:Sl) (g:Int) (K:Value ->World ->Prop) (w:World):Prop:=
 Calls P aao #[] w fun e2 w1=>∃ x3,e2= .returned (.bool x3)/\bif (!x3) then (K (.bool false) w1) else (Calls P aaZ #[(Iv frames),(Iv slots),(.slice none 0 0),(Sv l)] w1 fun e5 w4=>∃ x6,e5= .returned (.bool x6)/\bif x6 then (K (.bool x3) w4) else (Al (.cells #[(Iv 4),(Iv 4)] 3) (fun p7 w8=>Calls P abD #[(Iv frames),(Iv slots),(.slice (some p7) 2 2)] w8 fun e10 w9=>∃ x11,e10= .returned (Pv x11)/\∃ x13:Sl,∃ w12:World,Sem.run P (Instr.makeSlice 22 (Iv 64) (Iv 64)) w9= .ok (Sv x13) w12/\∃ (I14:Int ->World ->Prop) (M15:Int ->World ->Nat),I14 0 w12/\∀ _u17:Nat ->Value,∀ i18 w16,I14 i18 w16 ->bif (decide (i18<64)) then (elAt x13.p x13.n i18 1 fun a19=>St a19 (Iv 1099511627776) (fun w20=>(I14 (IntKind.i64.wrap (i18+1)) w20/\M15 (IntKind.i64.wrap (i18+1)) w20<M15 i18 w16)) w16) else (∃ (I21:Int ->World ->Prop) (M22:Int ->World ->Nat),I21 0 w16/\∀ _u24:Nat ->Value,∀ i25 w23,I21 i25 w23 ->bif (decide (i25<((l.n:Nat):Int))) then (elAt l.p l.n i25 6 fun a26=>∃ x27,w23.cell? (a26.add 0)=some (Iv x27)/\∃ x28,w23.cell? (a26.add 1)=some (Iv x28)/\∃ x29,w23.cell? (a26.add 2)=some (Iv x29)/\∃ x30,w23.cell? (a26.add 3)=some (Iv x30)/\∃ x31,w23.cell? (a26.add 4)=some (Iv x31)/\∃ x32,w23.cell? (a26.add 5)=some (Iv x32)/\Calls P aag #[(Pv x11),(.agg #[(Iv x27),(Iv x28),(Iv x29),(Iv x30),(Iv x31),(Iv x32)])] w23 fun e34 w33=>∃ x35:Int,∃ x36:Int,∃ x37:Int,e34= .returned (.tuple #[(Iv x35),(Iv x36),(Iv x37)])/\∃ J38:Bool ->World ->Prop,(elAt l.p l.n i25 6 fun a42=>∃ x43,w33.cell? (a42.add 0)=some (Iv x43)/\(12:Int)≠0/\bif ((x43.tmod 12)==2) then (bif (x37==0) then (elAt l.p l.n i25 6 fun a44=>∃ x45,w33.cell? (a44.add 2)=some (Iv x45)/\J38 (x45==2) w33) else (J38 false w33)) else (J38 false w33))/\(∀ _u40:Nat ->Value,∀ x41 w39,J38 x41 w39 ->bif x41 then (Dr (fun w46=>elAt l.p l.n i25 6 fun a47=>∃ x48,w46.cell? (a47.add 1)=some (Iv x48)/\elAt l.p l.n i25 6 fun a49=>∃ x50,w46.cell? (a49.add 3)=some (Iv x50)/\elAt x13.p x13.n x48 1 fun a51=>St a51 (Iv x50) (fun w52=>(I21 (IntKind.i64.wrap (i25+1)) w52/\M22 (IntKind.i64.wrap (i25+1)) w52<M22 i25 w23)) w46) w39) else ((I21 (IntKind.i64.wrap (i25+1)) w39/\M22 (IntKind.i64.wrap (i25+1)) w39<M22 i25 w23)))) else (Calls P aci #[(Pv x11)] w23 fun e54 w53=>∃ x55,e54= .returned (Pv x55)/\Calls P abN #[(Pv x55),(Iv g)] w53 fun e57 w56=>∃ x58:Sl,e57= .returned (Sv x58)/\Calls P aa1 #[(Pv x11),(Iv g)] w56 fun e60 w59=>∃ x61:Int,∃ x62:Int,∃ x63:Int,e60= .returned (.tuple #[(Iv x61),(Iv x62),(Iv x63)])/\bif (x63 !=12) then (K (.bool x3) w59) else (Calls P abg #[(Pv x11)] w59 fun e65 w64=>∃ x66:Int,∃ x67:Int,e65= .returned (.tuple #[(Iv x66),(Iv x67)])/\Calls P ahd #[(Sv x58),(Iv x62)] w64 fun e69 w68=>∃ x70,e69= .returned (.bool x70)/\∃ J71:Bool ->World ->Prop,(Dr (fun w75=>bif x70 then (elAt x13.p x13.n x62 1 fun a76=>∃ x77,w75.cell? a76=some (Iv x77)/\Calls P aae #[(Pv x11),(Iv x62)] w75 fun e79 w78=>∃ x80,e79= .returned (Iv x80)/\∃ x81,w78.cell? a76=some (Iv x81)/\((Iv x81):Value)=(Iv x77)/\J71 (decide (x80≥x77)) w78) else (J71 false w75)) w68)/\(∀ _u73:Nat ->Value,∀ full74 w72,J71 full74 w72 ->bif x3 then (bif full74 then (Calls P aa6 #[(Pv x11),(Iv x62)] w72 fun e83 w82=>∃ x84,e83= .returned (.bool x84)/\K (.bool (!x84)) w82) else (bif (x62==0) then (bif (x66==0) then (Calls P aa6 #[(Pv x11),(Iv x62)] w72 fun e86 w85=>∃ x87,e86= .returned (.bool x87)/\K (.bool (!x87)) w85) else (K (.bool false) w72)) else (K (.bool false) w72))) else (K (.bool false) w72)))))) w4))
theorem akV (frames:Int) (slots:Int) (l:Sl) (g:Int) (h:agj frames slots l g K w):Calls P aaI #[(Iv frames),(Iv slots),(Sv l),(Iv g)] w (Ret K):=ofVc (A:=akb) Tryz.func12 (by kernel_rfl) (by kernel_rfl) h
def ao1:Ann:= {quiet:=fun d=> [8,9,11,17].contains d,loop:=fun r=>(bif r==2 then [(5,.int .i64)] else [])}
def aqP (l:Sl) (n:Int) (K:Value ->World ->Prop) (w:World):Prop:=
 ∃ (I1:Int ->World ->Prop) (M2:Int ->World ->Nat),I1 0 w/\∀ _u4:Nat ->Value,∀ i5 w3,I1 i5 w3 ->bif (decide (i5<((l.n:Nat):Int))) then (elAt l.p l.n i5 1 fun a6=>∃ x7,w3.cell? a6=some (Iv x7)/\bif (x7==n) then (K (.bool true) w3) else ((I1 (IntKind.i64.wrap (i5+1)) w3/\M2 (IntKind.i64.wrap (i5+1)) w3<M2 i5 w3))) else (K (.bool false) w3)
theorem aqA (l:Sl) (n:Int) (h:aqP l n K w):Calls P ahd #[(Sv l),(Iv n)] w (Ret K):=ofVc (A:=ao1) Tryz.func44 (by kernel_rfl) (by kernel_rfl) h
end Go.Mp
end
section
set_option maxRecDepth 100000
namespace Go.Proofs.YtkjijachkcmelaaGreatDoor
open Go Go.Vc Go.Sp Go.Mp Go.RowKit Go.ChangeShapes
theorem ao9 {α:Type} {a:Array α} (h:a.size=4):∃ x0 x1 x2 x3,a= #[x0,x1,x2,x3]:=by
 obtain ⟨l⟩:=a
 match l,h with
 | [x0,x1,x2,x3],_=>exact ⟨x0,x1,x2,x3,rfl⟩
end Go.Proofs.YtkjijachkcmelaaGreatDoor
end
section
set_option maxRecDepth 100000
namespace Go.Mp
open Go Go.Vc Go.Sp Go.Proofs Go.Kc
variable {E:Env} {L:List Asn} {w:World} {A:At} {S:Cs}
theorem adS {W:World} {l:Sl} {xs:List Kc.Act} {j:Nat} {x:Kc.Act} {F:Addr ->Prop} (hA:acL W l xs) (hx:xs[j]? =some x) (k:∀ a:Addr,(∀ (i:Nat) v,(aeB x)[i]? =some v ->W.cell? (a.add i)=some v) ->F a):elAt l.p l.n (j:Int) 6 F:=by
 obtain ⟨a,hp,hc⟩:=hA.2 j x hx
 have hlt:=(List.getElem?_eq_some_iff.1 hx).1
 have hln:=hA.1
 refine ⟨a,hp,⟨by omega,by omega⟩,?_⟩
 rw [Int.toNat_natCast]
 exact k _ hc
theorem adT {W:World} {x:Kc.Act} {a:Addr} (ho:A.o=W.heap) (h:Sep E (aaa A S++L) w) (hc:∀ (i:Nat) v,(aeB x)[i]? =some v ->W.cell? (a.add i)=some v) (i:Nat) (v:Value) (hv:(aeB x)[i]? =some v):w.cell? (a.add i)=some v:=
 oldT (q:=15) h (by rw [<- ho];rfl) (hc i v hv)
theorem doEl {W:World} {l:Sl} {xs:List Kc.Act} {j:Nat} {x:Kc.Act} {K:Int ->World ->Prop} (hA:acL W l xs) (hx:xs[j]? =some x) (ho:A.o=W.heap) (I:Kc.Inv S) (hn:S.pages.next<16777216) (h:Sep E (aaa A S++L) w)
  (k:∀ (gs us:Sl) (w':World),Sep E (aaa {A with gs:=gs,us:=us} (S.act x).1++L) w' ->K (S.act x).2.2.2 w'):
  elAt l.p l.n (j:Int) 6 fun a17=>∃ x18:Int,w.cell? (a17.add 0)=some (.int .i64 x18)/\∃ x19:Int,w.cell? (a17.add 1)=some (.int .i64 x19)/\
   ∃ x20:Int,w.cell? (a17.add 2)=some (.int .i64 x20)/\∃ x21:Int,w.cell? (a17.add 3)=some (.int .i64 x21)/\∃ x22:Int,w.cell? (a17.add 4)=some (.int .i64 x22)
   /\∃ x23:Int,w.cell? (a17.add 5)=some (.int .i64 x23)/\Calls P aag #[(.pointer (some ⟨A.c,0,none⟩)),(.agg #[(.int .i64 x18),(.int .i64 x19),(.int .i64 x20),(.int .i64
   x21),(.int .i64 x22),(.int .i64 x23)])] w fun e25 w24=>∃ x26:Int,∃ x27:Int,∃ x28:Int,e25= .returned (.tuple #[(.int .i64 x26),(.int .i64 x27),(.int .i64 x28)])/\K x28 w24:=by
 refine adS hA hx (fun a hc=> ?_)
 have rd:=adT ho h hc
 refine ⟨_,rd 0 _ rfl,_,rd 1 _ rfl,_,rd 2 _ rfl,_,rd 3 _ rfl,_,rd 4 _ rfl,_,rd 5 _ rfl,use (c_Do (x:=x) I hn h) ?_⟩
 rintro _ w2 ⟨rfl,gs',us',h2⟩
 exact ⟨_,_,_,rfl,k gs' us' w2 h2⟩
theorem Sep.elStQ {s:Sl} {l:List Int} {i x:Int} {F:World ->Prop} {q:Nat} (h:Sep E L w) (hq:L[q]? =some (rowA s 1 (intL l))) (hn:s.n=l.length) (h0:0<=i) (h1:i<l.length) (k:∀ w1,Sep E (L.set q (rowA s 1 (intL (l.set i.toNat x)))) w1 ->F w1):elAt s.p s.n i 1 fun a=>St a (.int .i64 x) F w:=
 elSt (h.fr q hq) hn h0 h1 (fun w1 h2=>k w1 (Sep.put hq h2))
end Go.Mp
end
section
set_option maxRecDepth 100000
namespace Go.Kc
open Go Go.Kt Go.Sp
variable {S:Cs}
namespace By
variable {n:Nat} {X t:List UInt8} {i j:Int}
theorem abz (h:X.length=16*n) (hi:0<=i) (hj:0<=j) (hne:i≠j):rd n (wr n X i t).1 j=rd n X j:=by
 unfold rd
 by_cases hp:pg n j
 ·rw [if_pos hp,if_pos hp]
  congr 1
  unfold wr
  split
  ·next hh=>
   apply List.ext_getElem?
   intro k
   by_cases hk:k<16
   ·rw [aaV hk,aaV hk,acx h hh.1 hh.2,if_neg (by omega)]
   ·rw [List.getElem?_eq_none (by unfold pgAt;simp;omega),List.getElem?_eq_none (by unfold pgAt;simp;omega)]
  ·rfl
 ·rw [if_neg hp,if_neg hp]
theorem acn (h:X.length=16*n) (hp:pg n i) (ht:t.length=16):rd n (wr n X i t).1 i=(t,0):=by
 unfold rd
 rw [if_pos hp]
 congr 1
 unfold wr
 rw [if_pos ⟨hp,ht⟩]
 apply List.ext_getElem?
 intro k
 by_cases hk:k<16
 ·rw [aaV hk,acx h hp ht,if_pos (by omega),Nat.add_sub_cancel_left]
 ·rw [List.getElem?_eq_none (by unfold pgAt;simp;omega),List.getElem?_eq_none (by omega)]
theorem aeX (h:X.length=16*n) (hi:0<=i) (hj:0<=j) (hne:i≠j):rd n (cl n X i).1 j=rd n X j:=abz h hi hj hne
theorem aeY {a:Int} {b:UInt8} (hi:0<=i) (hj:0<=j) (hne:i≠j):rd n (pt n X i a b).1 j=rd n X j:=by
 unfold rd
 by_cases hp:pg n j
 ·rw [if_pos hp,if_pos hp]
  congr 1
  unfold pt
  split
  ·next hh=>
   apply List.ext_getElem?
   intro k
   by_cases hk:k<16
   ·rw [aaV hk,aaV hk,List.getElem?_set_ne (by omega)]
   ·rw [List.getElem?_eq_none (by unfold pgAt;simp;omega),List.getElem?_eq_none (by unfold pgAt;simp;omega)]
  ·rfl
 ·rw [if_neg hp,if_neg hp]
theorem abR (h:X.length=16*n) (hp:pg n i):(rd n X i).1.length=16:=by
 unfold rd
 rw [if_pos hp]
 exact aeJ h hp
end By
structure Went (S:Cs) (id:Int) (p:Pg) (S':Cs):Prop where
 fr:S'.fr=S.fr.give p.at_ (aac S.tree p.owner)
 oth:∀ x,x≠id ->S'.pages.pg x=S.pages.pg x
 how:(0<=p.kf/\S'.sl=S.sl)\/(p.kf<0/\S'.files=S.files/\∃ a:Nat,S.sl.pool[a]? =some false/\(∀ g∈aac S.tree p.owner,cUse S.sl.used g+1<=aab S.sl.used g)/\
  S'.sl=⟨S.sl.pool.set a true,(By.wr S.sl.pool.length S.sl.by_ a (S.text p)).1,cAdd S.sl.used (aac S.tree p.owner) 1⟩/\S'.pages.pg id=some (p.to 2 a))
theorem acJ (h:Inv S) {id:Int} {p:Pg} (hp:S.pages.pg id=some p) (h1:p.place=1) (ho:(S.out id).2=true):Went S id p (S.out id).1:=by
 have _:=h1
 unfold Cs.out at ho ⊢
 rw [h.page hp] at ho ⊢
 dsimp only at ho ⊢
 by_cases hk:0<=p.kf
 ·rw [if_pos hk]
  dsimp only
  obtain ⟨q,hq,e1,e2,e3,e4,e5,e6⟩:=agu id p p hp
  obtain ⟨c1,c2,c3,c4,c5,c6,c7⟩:=adW (S:=S) id p
  have hcl:=h.clean id p
  rw [hcl.put0 hq]
  refine ⟨?_,fun x hx=> ?_,.inl ⟨hk,c3⟩⟩
  ·show (S.clean id p).fr.give p.at_ (S.chain p.owner)=_
   rw [c2];rfl
  ·show ((S.clean id p).pages.putT id q 0 0).pg x=_
   rw [abB,if_neg hx]
   unfold Cs.clean
   split
   ·show (S.pages.mark id false).1.pg x=_
    rw [(abv _ _ _).2.2.2]
    cases S.pages.pg x with
    | none=>rfl
    | some r=>show some (if x=id then _ else r)=_;rw [if_neg hx]
   ·rfl
 ·rw [if_neg hk] at ho ⊢
  split at ho
  ·next hw=>
   rw [if_pos hw]
   dsimp only
   unfold Cs.away at hw ⊢
   split at hw
   ·cases hw
   next hany=>
   rw [if_neg hany]
   dsimp only at hw ⊢
   split at hw
   ·cases hw
   next hf=>
   rw [if_neg hf]
   dsimp only
   obtain ⟨a,ha,_,he⟩:=agM (by simpa using hf)
   rw [he]
   dsimp only
   have hlive:=h.own _ _ hp
   have hlim:∀ g∈aac S.tree p.owner,cUse S.sl.used g+1<=aab S.sl.used g:=by
    intro g hg
    have:=(not_exists.1 (fun hh=>hany (List.any_eq_true.2 hh))) g
    simp only [decide_eq_true_eq,not_and,Int.not_le] at this
    have:=this hg
    omega
   have htry:cTry S.sl.used (S.chain p.owner) 1=(cAdd S.sl.used (aac S.tree p.owner) 1, -1,0):=by
    by_cases h0:(cTry S.sl.used (S.chain p.owner) 1).2.2=0
    ·exact (afN h0).2.1
    ·obtain ⟨g,hg,_,_,hlt⟩:=aeO (acW h.wf hlive ⟨by decide,by decide⟩) h0
     have:=hlim g hg;omega
   rw [htry]
   have hnf:∀ q id',S.pages.pg id'=some q ->q.place=2 ->q.at_=(a:Int) ->(2:Int)≠0 ->id'=id:=by
    intro q id' hq e1 e2 _
    have:=(h.sl.taken a).2 ⟨id',q,hq,e1,e2⟩
    rw [ha] at this;cases this
   rw [h.tab.put_eq hp ⟨by decide,by decide,by omega,fun hh=>absurd hh (by decide)⟩ hnf]
   refine ⟨rfl,fun x hx=>upd_ne _ _ hx,.inr ⟨by omega,rfl,a,ha,hlim,?_,ac8 _ _ _⟩⟩
   show (⟨_,(By.wr (S.sl.pool.set a true).length _ _ _).1,_⟩:Store)=_
   rw [List.length_set]
  ·cases ho
def Has (S:Cs) (id:Int) (t:List UInt8):Prop:=∃ p,S.pages.pg id=some p/\p.kf<0/\0<p.refs/\S.text p=t
theorem Has.lt (h:Inv0 S) {id:Int} {t:List UInt8} (H:Has S id t):id<S.pages.next:=by
 obtain ⟨p,hp,_⟩:=H
 exact (h.tab.ids _ _ hp).2
variable {S':Cs} {id:Int} {t:List UInt8}
theorem aaW {p:Pg} (h1:p.place=1):S.text p=(By.rd S.fr.pool.length S.fr.by_ p.at_).1:=by unfold Cs.text;rw [if_pos h1]
theorem aa4 {p:Pg} (h1:p.place=2):S.text p=(By.rd S.sl.pool.length S.sl.by_ p.at_).1:=by unfold Cs.text;rw [if_neg (by omega),if_pos h1]
theorem abQ (h:Inv S) {p:Pg} (hp:S.pages.pg id=some p) (hk:p.kf<0):p.place=1\/p.place=2:=by
 have h1:=(h.tab.pl _ _ hp).1
 have h2:=h.anon _ _ hp hk
 omega
theorem abI {pl:Int} {s:Store} (hs:aa8 S.pages S.tree s pl) {p:Pg} (hp:S.pages.pg id=some p) (h1:p.place=pl) (ha:0<=p.at_):By.pg s.pool.length p.at_/\s.pool[p.at_.toNat]? =some true:=by
 have:=(hs.taken p.at_.toNat).2 ⟨id,p,hp,h1,by omega⟩
 have hlt:=(List.getElem?_eq_some_iff.1 this).1
 exact ⟨⟨ha,by omega⟩,this⟩
theorem Has.keep (h:Inv S) (H:Has S id t) (hpg:∀ p,S.pages.pg id=some p ->p.kf<0 ->0<p.refs ->∃ q,S'.pages.pg id=some q/\q.kf=p.kf/\q.refs=p.refs/\q.place=p.place/\q.at_=p.at_)
  (hfr:∀ p,S.pages.pg id=some p ->p.place=1 ->By.rd S'.fr.pool.length S'.fr.by_ p.at_=By.rd S.fr.pool.length S.fr.by_ p.at_)
  (hsl:∀ p,S.pages.pg id=some p ->p.place=2 ->By.rd S'.sl.pool.length S'.sl.by_ p.at_=By.rd S.sl.pool.length S.sl.by_ p.at_):Has S' id t:=by
 obtain ⟨p,hp,hk,hr,ht⟩:=H
 obtain ⟨q,hq,e1,e2,e3,e4⟩:=hpg p hp hk hr
 refine ⟨q,hq,by rw [e1];exact hk,by rw [e2];exact hr,?_⟩
 rcases abQ h hp hk with e | e
 ·rw [aaW (by rw [e3,e]),e4,hfr p hp e,<- aaW e];exact ht
 ·rw [aa4 (by rw [e3,e]),e4,hsl p hp e,<- aa4 e];exact ht
theorem Has.len (h:Inv S) (H:Has S id t):t.length=16:=by
 obtain ⟨p,hp,hk,hr,ht⟩:=H
 have h1:=(h.tab.pl _ _ hp).1
 rw [<- ht]
 rcases abQ h hp hk with e | e
 ·rw [aaW e];exact By.abR h.fr.len (abI h.fr hp e h1.2.2.1).1
 ·rw [aa4 e];exact By.abR h.sl.len (abI h.sl hp e h1.2.2.1).1
theorem abC {n:Nat} {s:Store} {a b:Int} {ch:List Int} (hn:n=s.pool.length) (h:s.by_.length=16*s.pool.length) (ha:0<=a) (hb:0<=b) (hne:a≠b):By.rd (s.give a ch).pool.length (s.give a ch).by_ b=By.rd n s.by_ b:=by
 subst hn
 show By.rd (afa s.pool a).1.length (By.cl s.pool.length s.by_ a).1 b=_
 rw [aal]
 exact By.aeX h ha hb hne
theorem Has.went (h:Inv S) (H:Has S id t) {x:Int} {p:Pg} (hp:S.pages.pg x=some p) (h1:p.place=1) (hS:Went S x p S'):Has S' id t:=by
 have hat:=(h.tab.pl _ _ hp).1.2.2.1
 by_cases hx:id=x
 ·subst hx
  obtain ⟨p',hp',hk,hr,ht⟩:=H
  rw [hp] at hp'
  cases hp'
  rcases hS.how with ⟨hk',_⟩ | ⟨_,_,a,ha,_,hsl,hpg⟩
  ·omega
  ·refine ⟨_,hpg,hk,hr,?_⟩
   have hal:=(List.getElem?_eq_some_iff.1 ha).1
   rw [aa4 rfl,hsl]
   show (By.rd (S.sl.pool.set a true).length (By.wr S.sl.pool.length S.sl.by_ a (S.text p)).1 (a:Int)).1=t
   rw [List.length_set,By.acn h.sl.len ⟨by omega,by omega⟩ (Has.len h ⟨p,hp,hk,hr,rfl⟩)]
   exact ht
 ·refine H.keep h (fun q hq _ _=>⟨q,by rw [hS.oth _ hx];exact hq,rfl,rfl,rfl,rfl⟩) (fun q hq e=> ?_) (fun q hq e=> ?_)
  ·have hqa:=(h.tab.pl _ _ hq).1.2.2.1
   rw [hS.fr]
   exact abC rfl h.fr.len hat hqa (fun e2=>hx (h.tab.one hp hq (by omega) (by omega) e2.symm))
  ·rcases hS.how with ⟨_,hsl⟩ | ⟨_,_,a,ha,_,hsl,_⟩
   ·rw [hsl]
   ·have hqa:=(h.tab.pl _ _ hq).1.2.2.1
    have hta:=(abI h.sl hq e hqa).2
    rw [hsl]
    show By.rd (S.sl.pool.set a true).length _ _=_
    rw [List.length_set]
    exact By.abz h.sl.len (by omega) hqa (fun e2=>by
     rw [<- e2,Int.toNat_natCast,ha] at hta;cases hta)
theorem Has.outs (H:Has S id t) (h:Inv S) (ho:Outs S S'):Has S' id t:=by
 induction ho with
 | refl S=>exact H
 | step hp h1 h2 _ ih=>exact ih (Has.went h H hp h1 (acJ h hp h1 h2)) (h.out hp h1)
theorem Has.framed (h:Inv S) (H:Has S id t) {a:Nat} (ha:S.fr.pool[a]? =some false) {text:List UInt8} (hpg:S'.pages.pg id=S.pages.pg id) (hpo:S'.fr.pool.length=S.fr.pool.length) (hby:S'.fr.by_=(By.wr S.fr.pool.length S.fr.by_ a text).1)
  (hsl:∀ p,S.pages.pg id=some p ->p.place=2 ->By.rd S'.sl.pool.length S'.sl.by_ p.at_=By.rd S.sl.pool.length S.sl.by_ p.at_):Has S' id t:=by
 refine H.keep h (fun p hp _ _=>⟨p,by rw [hpg];exact hp,rfl,rfl,rfl,rfl⟩) (fun p hp e=> ?_) hsl
 have hpa:=(h.tab.pl _ _ hp).1.2.2.1
 have hta:=(abI h.fr hp e hpa).2
 rw [hpo,hby]
 exact By.abz h.fr.len (by omega) hpa (fun e2=>by rw [<- e2,Int.toNat_natCast,ha] at hta;cases hta)
theorem Has.withT (h:Inv S) (hn:S.pages.next<16777216) (H:Has S id t) {g:Int} (hl:S.live g=true) (text:List UInt8):Has (S.withT g text).1 id t:=by
 rcases acb h hn hl text with ⟨S0,a,k,he,_,hpg⟩ | ⟨S0,t',k,he⟩
 ·have h0:=k.outs.inv h
  have H0:=H.outs h k.outs
  have hid:id≠S.pages.next:=by have:=H.lt h.toInv0;omega
  refine H0.framed h0 k.free (text:=text) (by rw [hpg,if_neg hid]) ?_ ?_ (fun p _ _=> ?_)
  ·rw [he];show (S0.fr.pool.set a true).length=_;rw [List.length_set]
  ·rw [he]
   show (By.wr (S0.fr.pool.set a true).length S0.fr.by_ a text).1=_
   rw [List.length_set]
  ·rw [he];rfl
 ·rw [he];exact H.outs h k.outs
theorem Has.fresh (h:Inv S) (hn:S.pages.next<16777216) (H:Has S id t) (g:Int):Has (S.fresh g).1 id t:=by
 unfold Cs.fresh
 split
 ·exact H
 ·next hl=>exact H.withT h hn (by simpa using hl) _
theorem Has.copy (h:Inv S) (hn:S.pages.next<16777216) (H:Has S id t) (x g:Int):Has (S.copy x g).1 id t:=by
 unfold Cs.copy
 dsimp only
 split
 ·exact H
 ·next hl=>
  have hl:S.live g=true:=by
   cases hh:S.live g with
   | true=>rfl
   | false=>exact absurd (.inr (.inl hh)) hl
  exact H.withT h hn hl _
theorem Has.same (h:Inv S) (H:Has S id t) (h1:S'.pages.pg id=S.pages.pg id) (h2:S'.fr.pool.length=S.fr.pool.length/\S'.fr.by_=S.fr.by_) (h3:S'.sl.pool.length=S.sl.pool.length/\S'.sl.by_=S.sl.by_):Has S' id t:=
 H.keep h (fun p hp _ _=>⟨p,by rw [h1];exact hp,rfl,rfl,rfl,rfl⟩) (fun p _ _=>by rw [h2.1,h2.2]) (fun p _ _=>by rw [h3.1,h3.2])
theorem Has.brought (h:Inv S) (H:Has S id t) {x o:Int} {p:Pg} {S0:Cs} {a:Nat} {r:Cs×Int×Int} (hp:S.pages.pg x=some p) (h1:p.place≠1) (b:al7 S S0 x p o a r):Has r.1 id t:=by
 have h0:=b.took.outs.inv h
 have H0:=H.outs h b.took.outs
 have hal:=(List.getElem?_eq_some_iff.1 b.took.free).1
 by_cases hx:id=x
 ·subst hx
  obtain ⟨p',hp',hk,hr,ht⟩:=H0
  rw [b.page] at hp'
  cases hp'
  refine ⟨{p with owner:=o,place:=1,at_:=(a:Int)},by rw [b.pg,if_pos rfl],hk,hr,?_⟩
  rw [aaW rfl,b.by_,b.pool,List.length_set,By.acn h0.fr.len ⟨by omega,by omega⟩ (Has.len h0 ⟨p,b.page,hk,hr,rfl⟩)]
  exact ht
 ·refine H0.framed h0 b.took.free (text:=S0.text p) (by rw [b.pg,if_neg hx]) (by rw [b.pool,List.length_set]) b.by_ (fun q hq e=> ?_)
  rw [b.sl]
  by_cases e2:p.place=2
  ·rw [if_pos e2]
   have hqa:=(h0.tab.pl _ _ hq).1.2.2.1
   have hpa:=(h0.tab.pl _ _ b.page).1.2.2.1
   exact abC rfl h0.sl.len hpa hqa (fun e3=>hx (h0.tab.one b.page hq (by omega) (by omega) e3.symm))
  ·rw [if_neg e2]
theorem Has.bring (h:Inv S) (H:Has S id t) (x g:Int):Has (S.bring x g).1 id t:=by
 by_cases hb:S.pages.pg x=none\/S.live g=false\/∃ p,S.pages.pg x=some p/\p.place=0/\p.kf<0
 ·rw [abS h.toInv0 hb];exact H
 ·obtain ⟨p,hp⟩:∃ p,S.pages.pg x=some p:=by
   cases hq:S.pages.pg x with
   | none=>exact absurd (.inl hq) hb
   | some p=>exact ⟨p,rfl⟩
  have hl:S.live g=true:=by
   cases hh:S.live g with
   | true=>rfl
   | false=>exact absurd (.inr (.inl hh)) hb
  by_cases h1:p.place=1
  ·rw [acA h.toInv0 hp h1 hl]
   exact H.same h rfl ⟨rfl,rfl⟩ ⟨rfl,rfl⟩
  ·rcases acs h.toInv0 h.anon hp hl (fun e=>hb (.inr (.inr ⟨p,hp,e⟩))) h1 with ⟨S0,a,b,_⟩ | ⟨S0,t',b,he⟩
   ·exact H.brought h hp h1 b
   ·rw [he];exact H.outs h b.outs
end Go.Kc
end
section
set_option maxRecDepth 100000
namespace Go.Kc
open Go Go.Kt Go.Sp
variable {S S':Cs} {id:Int} {t:List UInt8}
theorem Has.openF (h:Inv S) (hn:S.pages.next<16777216) (H:Has S id t) (k:Int×Int) (g:Int):Has (S.openF k g).1 id t:=by
 unfold Cs.openF
 dsimp only
 split
 ·exact H
 ·next hh=>
  have hl:S.live g=true:=by
   cases hh':S.live g with
   | true=>rfl
   | false=>exact absurd (.inr hh') hh
  have hf:fHas S.files k=true:=by
   cases hh':fHas S.files k with
   | true=>rfl
   | false=>exact absurd (.inl hh') hh
  by_cases hm:S.pages.of k<0
  ·rw [decide_eq_true hm]
   simp only [if_true]
   obtain ⟨kf,ki⟩:=k
   have hkf:=aeK hf
   have hmk:=adQ S.pages (kf:=kf) (ki:=ki) (o:=g) ⟨h.tab.next,hn⟩ (.inr hm)
   rw [show (S.pages.make kf ki g).2.1=S.pages.next by rw [hmk.1]]
   have hI:=h.toInv0.make hn (kf:=kf) (ki:=ki) hl (.inr ⟨hm,hf⟩)
   have hkey:aaR S.pages kf ki=(kf,ki):=by unfold aaR;rw [if_neg (by have:0<=kf:=hkf;omega)]
   have hanon:∀ x p,(S.pages.make kf ki g).1.pg x=some p ->p.kf<0 ->p.place≠0:=by
    intro x q hq hq0
    rw [hmk.2.2] at hq
    split at hq
    ·rw [<- Option.some.inj hq,hkey] at hq0
     have:kf<0:=hq0
     have:0<=kf:=hkf
     omega
    ·exact h.anon _ _ hq hq0
   have hJ:Inv {S with pages:=(S.pages.make kf ki g).1} :=⟨hI,hanon⟩
   have hid:id≠S.pages.next:=by have:=H.lt h.toInv0;omega
   have HJ:Has {S with pages:=(S.pages.make kf ki g).1} id t:=H.same h (by show (S.pages.make kf ki g).1.pg id=_;rw [hmk.2.2,if_neg hid]) ⟨rfl,rfl⟩ ⟨rfl,rfl⟩
   have HB:=HJ.bring hJ S.pages.next g
   have IB:=hJ.bring S.pages.next g
   split
   ·exact HB
   ·refine HB.same IB ?_ ⟨rfl,rfl⟩ ⟨rfl,rfl⟩
    show (TS.drop _ _).1.pg id=_
    unfold TS.drop
    split
    ·rfl
    ·split
     ·rfl
     ·exact upd_ne _ _ hid
  ·rw [decide_eq_false hm]
   simp only [Bool.false_eq_true,if_false]
   have:=H.bring h (S.pages.of k) g
   split<;>exact this
theorem Has.get (h:Inv S) (H:Has S id t) (x a:Int):Has (S.get x a).1 id t:=by
 unfold Cs.get
 dsimp only
 split
 ·exact H
 ·dsimp only
  split
  ·exact H.same h rfl ⟨rfl,rfl⟩ ⟨rfl,rfl⟩
  ·exact H
theorem aeg {x:Int} (hh:(S.here x).2=true):∃ p,S.pages.pg x=some p/\p.place=1/\(S.here x).1=p.at_:=by
 unfold Cs.here TS.get at hh
 cases hp:S.pages.pg x with
 | none=>rw [hp] at hh;simp at hh
 | some p=>
  rw [hp] at hh
  refine ⟨p,rfl,by simpa using hh,?_⟩
  unfold Cs.here TS.get;rw [hp]
theorem Has.put (h:Inv S) (H:Has S id t) {x:Int} (hx:x≠id) (a:Int) (b:UInt8):Has (S.put x a b).1 id t:=by
 unfold Cs.put
 dsimp only
 split
 ·exact H
 ·next hh=>
  have hh:(S.here x).2=true:=by simpa using hh
  obtain ⟨p,hp,h1,he⟩:=aeg hh
  split
  ·have hat:=(h.tab.pl _ _ hp).1.2.2.1
   refine H.keep h (fun q hq _ _=>⟨q,?_,rfl,rfl,rfl,rfl⟩) (fun q hq e=> ?_) (fun q _ _=>rfl)
   ·show (S.pages.mark x true).1.pg id=_
    rw [(abv _ _ _).2.2.2,hq]
    show some (if id=x then _ else q)=_
    rw [if_neg (fun e=>hx e.symm)]
   ·have hqa:=(h.tab.pl _ _ hq).1.2.2.1
    show By.rd S.fr.pool.length (By.pt S.fr.pool.length S.fr.by_ (S.here x).1 a b).1 q.at_=_
    rw [he]
    exact By.aeY hat hqa (fun e2=>hx (h.tab.one hq hp (by omega) (by omega) e2))
  ·exact H
theorem Has.refer (h:Inv S) (H:Has S id t) {x:Int} (hx:x≠id) (n:Int):Has (S.refer x n).1 id t:=by
 rcases ab1 h x n with ⟨_,he⟩ | ⟨p,hp,⟨_,he⟩ | ⟨_,_,he⟩ | ⟨_,_,_,_,_,hpg,_,_,hfr,hsl,_⟩⟩
 ·rw [he];exact H
 ·rw [he];exact H
 ·rw [he];exact H.same h (upd_ne _ _ (fun e=>hx e.symm)) ⟨rfl,rfl⟩ ⟨rfl,rfl⟩
 ·have hat:=(h.tab.pl _ _ hp).1.2.2.1
  refine H.keep h (fun q hq _ _=>⟨q,by rw [hpg,if_neg (fun e=>hx e.symm)];exact hq,rfl,rfl,rfl,rfl⟩) (fun q hq e=> ?_) (fun q hq e=> ?_)
  ·rw [hfr]
   by_cases e1:p.place=1
   ·rw [if_pos e1]
    exact abC rfl h.fr.len hat (h.tab.pl _ _ hq).1.2.2.1 (fun e2=>hx (h.tab.one hq hp (by omega) (by omega) e2))
   ·rw [if_neg e1]
  ·rw [hsl]
   by_cases e1:p.place=2
   ·rw [if_pos e1]
    exact abC rfl h.sl.len hat (h.tab.pl _ _ hq).1.2.2.1 (fun e2=>hx (h.tab.one hq hp (by omega) (by omega) e2))
   ·rw [if_neg e1]
theorem Has.remove (h:Inv S) (H:Has S id t) (g:Int):Has (S.remove g).1 id t:=by
 unfold Cs.remove
 dsimp only
 split
 ·refine H.keep h (fun q hq _ _=>⟨if q.owner=g then {q with owner:=ab9 S.tree g} else q,?_,?_,?_,?_,?_⟩) (fun q _ _=>rfl) (fun q _ _=>rfl)
  ·show (S.pages.ownAll (S.pages.those g) (ab9 S.tree g)).pg id=_
   rw [agL h.tab,hq];rfl
  all_goals split<;>rfl
 ·exact H
theorem Has.addGroup (h:Inv S) (H:Has S id t) (p:Int):Has (S.addGroup p).1 id t:=by
 unfold Cs.addGroup
 dsimp only
 split
 ·exact H.same h rfl ⟨rfl,rfl⟩ ⟨rfl,rfl⟩
 ·exact H
theorem Has.limit (h:Inv S) (H:Has S id t) (g what n:Int):Has (S.limit g what n).1 id t:=by
 have key:∀ r:Cs×Int,r.1.pages=S.pages ->r.1.fr.pool=S.fr.pool/\r.1.fr.by_=S.fr.by_ ->r.1.sl.pool=S.sl.pool/\r.1.sl.by_=S.sl.by_ ->Has r.1 id t:=
  fun r h1 h2 h3=>H.same h (by rw [h1]) ⟨by rw [h2.1],h2.2⟩ ⟨by rw [h3.1],h3.2⟩
 unfold Cs.limit
 split
 ·exact H
 split
 ·exact H
 split
 ·exact key _ rfl ⟨rfl,rfl⟩ ⟨rfl,rfl⟩
 split
 ·exact key _ rfl ⟨rfl,rfl⟩ ⟨rfl,rfl⟩
 split
 ·exact key _ rfl ⟨rfl,rfl⟩ ⟨rfl,rfl⟩
 split
 ·exact key _ rfl ⟨rfl,rfl⟩ ⟨rfl,rfl⟩
 split
 ·split
  ·exact H
  ·exact key _ rfl ⟨rfl,rfl⟩ ⟨rfl,rfl⟩
 ·exact H
theorem Has.act (h:Inv S) (hn:S.pages.next<16777216) (H:Has S id t) (x:Act) (hx:¬ (x.b=id/\(x.k.tmod 12=7\/x.k.tmod 12=9))):Has (S.act x).1 id t:=by
 exact ag3 (P:=fun r=>Has r.1 id t) S x (fun _=>H.addGroup h _) (fun _=>H.remove h _) (fun _=>H.limit h _ _ _) (fun _=>H.fresh h hn _) (fun _=>H.openF h hn _ _) (fun _=>H.bring h _ _) (fun _=>H.copy h hn _ _)
  (fun e=>H.put h (fun e2=>hx ⟨e2,.inl e⟩) _ _) (fun _=>H.get h _ _) (fun e=>H.refer h (fun e2=>hx ⟨e2,.inr e⟩) _) (fun _=>H.same h rfl ⟨rfl,rfl⟩ ⟨rfl,rfl⟩) (fun _=>H.outs h (adY h _ _))
end Go.Kc
end
section
set_option maxRecDepth 100000
namespace Go.Kc
open Go Go.Kt Go.Sp
variable {S S':Cs}
theorem adh {C:List Cnt} (hC:C.length=64) (l:List Int) {n:Int} (hn:0<=n) (g:Int):cUse (aaC C l n).1 g<=cUse C g:=by
 cases hr:ab2 l n with
 | false=>unfold aaC;rw [hr];exact Int.le_refl _
 | true=>
  by_cases hb:∃ x∈l,cUse C x<n
  ·rw [ahp hr hb];exact Int.le_refl _
  ·rw [aeN hr (fun x hx=>Int.not_lt.1 (fun hlt=>hb ⟨x,hx,hlt⟩))]
   have:=abJ.1 hr
   rw [acm hC this.1 this.2.1]
   split<;>omega
structure Lim (S S':Cs):Prop where
 lim:∀ g,aab S'.fr.used g=aab S.fr.used g/\aab S'.sl.used g=aab S.sl.used g
 mem:∀ g,S'.memory g<=S.memory g\/S'.memory g<=aab S.fr.used g
 swp:∀ g,S'.swap g<=S.swap g\/S'.swap g<=aab S.sl.used g
 pool:S'.fr.pool.length=S.fr.pool.length/\S'.sl.pool.length=S.sl.pool.length
theorem Lim.refl (S:Cs):Lim S S:=⟨fun _=>⟨rfl,rfl⟩,fun _=> .inl (Int.le_refl _),fun _=> .inl (Int.le_refl _),rfl,rfl⟩
theorem Lim.same (h1:S'.fr.used=S.fr.used) (h2:S'.sl.used=S.sl.used) (h3:S'.fr.pool.length=S.fr.pool.length) (h4:S'.sl.pool.length=S.sl.pool.length):Lim S S':=by
 refine ⟨fun g=>by rw [h1,h2];exact ⟨rfl,rfl⟩,fun g=> .inl ?_,fun g=> .inl ?_,h3,h4⟩
 ·unfold Cs.memory;rw [h1];exact Int.le_refl _
 ·unfold Cs.swap;rw [h2];exact Int.le_refl _
theorem Lim.trans {A B C:Cs} (h:Lim A B) (h':Lim B C):Lim A C:=by
 refine ⟨fun g=>⟨(h'.lim g).1.trans (h.lim g).1,(h'.lim g).2.trans (h.lim g).2⟩,fun g=> ?_,fun g=> ?_,h'.pool.1.trans h.pool.1,h'.pool.2.trans h.pool.2⟩
 ·have h1:=h.mem g;have h2:=h'.mem g;have h3:=(h.lim g).1;omega
 ·have h1:=h.swp g;have h2:=h'.swp g;have h3:=(h.lim g).2;omega
theorem Lim.used (hC:S.fr.used.length=64) (hD:S.sl.used.length=64)
  (h1:S'.fr.used=S.fr.used\/(∃ l n,0<=n/\S'.fr.used=(aaC S.fr.used l n).1)\/∃ l,((∀ x∈l,0<=x/\x<64)/\l.Nodup)/\(∀ g∈l,cUse S.fr.used g+1<=aab S.fr.used g)/\S'.fr.used=cAdd S.fr.used l 1)
  (h2:S'.sl.used=S.sl.used\/(∃ l n,0<=n/\S'.sl.used=(aaC S.sl.used l n).1)\/∃ l,((∀ x∈l,0<=x/\x<64)/\l.Nodup)/\(∀ g∈l,cUse S.sl.used g+1<=aab S.sl.used g)/\S'.sl.used=cAdd S.sl.used l 1) (h3:S'.fr.pool.length=S.fr.pool.length) (h4:S'.sl.pool.length=S.sl.pool.length):Lim S S':=by
 have key:∀ {C C':List Cnt},C.length=64 ->(C'=C\/(∃ l n,0<=n/\C'=(aaC C l n).1)\/∃ l,((∀ x∈l,0<=x/\x<64)/\l.Nodup)/\(∀ g∈l,cUse C g+1<=aab C g)/\C'=cAdd C l 1) ->
   ∀ g,aab C' g=aab C g/\(cUse C' g<=cUse C g\/cUse C' g<=aab C g):=by
  intro C C' hC h g
  rcases h with rfl | ⟨l,n,hn,rfl⟩ | ⟨l,hl,hle,rfl⟩
  ·exact ⟨rfl,.inl (Int.le_refl _)⟩
  ·exact ⟨afx hC _ _ _,.inl (adh hC _ hn _)⟩
  ·refine ⟨adU hC hl.1 hl.2,?_⟩
   rw [acm hC hl.1 hl.2]
   by_cases hg:g∈l
   ·rw [if_pos hg];exact .inr (hle g hg)
   ·rw [if_neg hg];exact .inl (by omega)
 exact ⟨fun g=>⟨(key hC h1 g).1,(key hD h2 g).1⟩,fun g=>(key hC h1 g).2,fun g=>(key hD h2 g).2,h3,h4⟩
theorem Lim.went (h:Inv S) {x:Int} {p:Pg} (hp:S.pages.pg x=some p) (hS:Went S x p S'):Lim S S':=by
 have hc:=aan h.wf (h.own _ _ hp)
 refine Lim.used h.fr.used.len h.sl.used.len (.inr (.inl ⟨aac S.tree p.owner,1,by decide,by rw [hS.fr];rfl⟩)) ?_ (by rw [hS.fr];exact aal _ _) ?_
 rcases hS.how with ⟨_,hsl⟩ | ⟨_,_,a,_,hl,hsl,_⟩
 ·exact .inl (by rw [hsl])
 ·exact .inr (.inr ⟨_,⟨hc.1,hc.2.1⟩,hl,by rw [hsl]⟩)
 ·rcases hS.how with ⟨_,hsl⟩ | ⟨_,_,a,_,_,hsl,_⟩
  ·rw [hsl]
  ·rw [hsl];exact List.length_set
theorem Lim.outs (h:Inv S) (ho:Outs S S'):Lim S S':=by
 induction ho with
 | refl S=>exact .refl S
 | step hp h1 h2 _ ih=>exact (Lim.went h hp (acJ h hp h1 h2)).trans (ih (h.out hp h1))
theorem Lim.withT (h:Inv S) (hn:S.pages.next<16777216) {g:Int} (hl:S.live g=true) (text:List UInt8):Lim S (S.withT g text).1:=by
 have hc:=aan h.wf hl
 rcases acb h hn hl text with ⟨S0,a,k,he,_,hpg⟩ | ⟨S0,t',k,he⟩
 ·have h0:=k.outs.inv h
  have htr:=(k.outs.kept h).tree
  refine (Lim.outs h k.outs).trans (Lim.used h0.fr.used.len h0.sl.used.len (.inr (.inr ⟨aac S.tree g,⟨hc.1,hc.2.1⟩,k.lim,?_⟩)) (.inl ?_) (by rw [he];exact List.length_set) (by rw [he];rfl))
  ·rw [he,htr];rfl
  ·rw [he];rfl
 ·rw [he];exact Lim.outs h k.outs
theorem Lim.fresh (h:Inv S) (hn:S.pages.next<16777216) (g:Int):Lim S (S.fresh g).1:=by
 unfold Cs.fresh
 split
 ·exact .refl S
 ·next hl=>exact Lim.withT h hn (by simpa using hl) _
theorem Lim.copy (h:Inv S) (hn:S.pages.next<16777216) (x g:Int):Lim S (S.copy x g).1:=by
 unfold Cs.copy
 dsimp only
 split
 ·exact .refl S
 ·next hl=>
  have hl:S.live g=true:=by
   cases hh:S.live g with
   | true=>rfl
   | false=>exact absurd (.inr (.inl hh)) hl
  exact Lim.withT h hn hl _
theorem Lim.bring (h:Inv0 S) (hanon:∀ x p,S.pages.pg x=some p ->p.kf<0 ->p.place≠0) (x g:Int):Lim S (S.bring x g).1:=by
 have hI:Inv S:=⟨h,hanon⟩
 by_cases hb:S.pages.pg x=none\/S.live g=false\/∃ p,S.pages.pg x=some p/\p.place=0/\p.kf<0
 ·rw [abS h hb];exact .refl S
 ·obtain ⟨p,hp⟩:∃ p,S.pages.pg x=some p:=by
   cases hq:S.pages.pg x with
   | none=>exact absurd (.inl hq) hb
   | some p=>exact ⟨p,rfl⟩
  have hl:S.live g=true:=by
   cases hh:S.live g with
   | true=>rfl
   | false=>exact absurd (.inr (.inl hh)) hb
  by_cases h1:p.place=1
  ·rw [acA h hp h1 hl];exact Lim.same rfl rfl rfl rfl
  ·rcases acs h hanon hp hl (fun e=>hb (.inr (.inr ⟨p,hp,e⟩))) h1 with ⟨S0,a,b,_⟩ | ⟨S0,t',b,he⟩
   ·have h0:=b.took.outs.inv hI
    have hlo:S.live (if p.place=0 then g else p.owner)=true:=by
     split
     ·exact hl
     ·exact h.own _ _ hp
    have hc:=aan h.wf hlo
    refine (Lim.outs hI b.took.outs).trans (Lim.used h0.fr.used.len h0.sl.used.len (.inr (.inr ⟨_,⟨hc.1,hc.2.1⟩,b.took.lim,b.used⟩)) ?_ (by rw [b.pool];exact List.length_set) ?_)
    ·rw [b.sl]
     split
     ·exact .inr (.inl ⟨_,1,by decide,rfl⟩)
     ·exact .inl rfl
    ·rw [b.sl]
     split
     ·exact aal _ _
     ·rfl
   ·rw [he];exact Lim.outs hI b.outs
theorem Lim.openF (h:Inv S) (hn:S.pages.next<16777216) (k:Int×Int) (g:Int):Lim S (S.openF k g).1:=by
 unfold Cs.openF
 dsimp only
 split
 ·exact .refl S
 ·next hh=>
  have hl:S.live g=true:=by
   cases hh':S.live g with
   | true=>rfl
   | false=>exact absurd (.inr hh') hh
  have hf:fHas S.files k=true:=by
   cases hh':fHas S.files k with
   | true=>rfl
   | false=>exact absurd (.inl hh') hh
  by_cases hm:S.pages.of k<0
  ·rw [decide_eq_true hm]
   simp only [if_true]
   obtain ⟨kf,ki⟩:=k
   have hkf:=aeK hf
   have hmk:=adQ S.pages (kf:=kf) (ki:=ki) (o:=g) ⟨h.tab.next,hn⟩ (.inr hm)
   have hI:=h.toInv0.make hn (kf:=kf) (ki:=ki) hl (.inr ⟨hm,hf⟩)
   have hkey:aaR S.pages kf ki=(kf,ki):=by unfold aaR;rw [if_neg (by have:0<=kf:=hkf;omega)]
   have hanon:∀ x p,(S.pages.make kf ki g).1.pg x=some p ->p.kf<0 ->p.place≠0:=by
    intro x q hq hq0
    rw [hmk.2.2] at hq
    split at hq
    ·rw [<- Option.some.inj hq,hkey] at hq0
     have:kf<0:=hq0
     have:0<=kf:=hkf
     omega
    ·exact h.anon _ _ hq hq0
   have LB:=(Lim.same (S:=S) (S':= {S with pages:=(S.pages.make kf ki g).1}) rfl rfl rfl rfl).trans (Lim.bring hI hanon (S.pages.make kf ki g).2.1 g)
   split
   ·exact LB
   ·exact LB.trans (Lim.same rfl rfl rfl rfl)
  ·rw [decide_eq_false hm]
   simp only [Bool.false_eq_true,if_false]
   have:=Lim.bring h.toInv0 h.anon (S.pages.of k) g
   split<;>exact this
theorem Lim.get (x a:Int):Lim S (S.get x a).1:=by
 unfold Cs.get
 dsimp only
 split
 ·exact .refl S
 ·dsimp only
  split
  ·exact Lim.same rfl rfl rfl rfl
  ·exact .refl S
theorem Lim.put (x a:Int) (b:UInt8):Lim S (S.put x a b).1:=by
 unfold Cs.put
 dsimp only
 split
 ·exact .refl S
 ·split
  ·exact Lim.same rfl rfl rfl rfl
  ·exact .refl S
theorem Lim.refer (h:Inv S) (x n:Int):Lim S (S.refer x n).1:=by
 rcases ab1 h x n with ⟨_,he⟩ | ⟨p,hp,⟨_,he⟩ | ⟨_,_,he⟩ | ⟨_,_,_,_,_,hpg,_,_,hfr,hsl,_⟩⟩
 ·rw [he];exact .refl S
 ·rw [he];exact .refl S
 ·rw [he];exact Lim.same rfl rfl rfl rfl
 ·refine Lim.used h.fr.used.len h.sl.used.len ?_ ?_ (by rw [hfr];split;exact aal _ _;rfl) (by rw [hsl];split;exact aal _ _;rfl)
  ·rw [hfr]
   split
   ·exact .inr (.inl ⟨_,1,by decide,rfl⟩)
   ·exact .inl rfl
  ·rw [hsl]
   split
   ·exact .inr (.inl ⟨_,1,by decide,rfl⟩)
   ·exact .inl rfl
theorem Lim.remove (h:Inv S) (g:Int):Lim S (S.remove g).1:=by
 unfold Cs.remove
 dsimp only
 split
 ·exact Lim.used h.fr.used.len h.sl.used.len (.inr (.inl ⟨_,_,(h.fr.used.of g).1.1,rfl⟩)) (.inr (.inl ⟨_,_,(h.sl.used.of g).1.1,rfl⟩)) rfl rfl
 ·exact .refl S
theorem Lim.addGroup (p:Int):Lim S (S.addGroup p).1:=by
 unfold Cs.addGroup
 dsimp only
 split
 ·exact Lim.same rfl rfl rfl rfl
 ·exact .refl S
structure Sets (S:Cs) (g what n:Int) (r:Cs×Int):Prop where
 mem:∀ x,r.1.memory x=S.memory x
 swp:∀ x,r.1.swap x=S.swap x
 one:∀ x,aab r.1.fr.used x=if r.2=0/\what=2/\x=g then n else aab S.fr.used x
 two:∀ x,aab r.1.sl.used x=if r.2=0/\what=3/\x=g then n else aab S.sl.used x
 ok:r.2=0 ->S.live g=true
 pool:r.1.fr.pool.length=S.fr.pool.length/\r.1.sl.pool.length=S.sl.pool.length
theorem ajq (h:Inv S) (g what n:Int):Sets S g what n (S.limit g what n):=by
 have none_:∀ r:Cs×Int,r.1.fr=S.fr ->r.1.sl=S.sl ->(r.2=0 ->S.live g=true/\what≠2/\what≠3) ->Sets S g what n r:=by
  intro r h1 h2 h3
  refine ⟨fun x=>by unfold Cs.memory;rw [h1],fun x=>by unfold Cs.swap;rw [h2],fun x=> ?_,fun x=> ?_,fun e=>(h3 e).1,by rw [h1,h2];exact ⟨rfl,rfl⟩⟩
  ·rw [if_neg (fun e=>(h3 e.1).2.1 e.2.1),h1]
  ·rw [if_neg (fun e=>(h3 e.1).2.2 e.2.1),h2]
 unfold Cs.limit
 split
 ·exact none_ _ rfl rfl (fun e=>by cases e)
 next hl=>
 have hl:S.live g=true:=by simpa using hl
 have hg:isG g=true:=abP.2 ⟨(adP hl).1,by have:=(adP hl).2;have:=h.wf.few;omega⟩
 split
 ·exact none_ _ rfl rfl (fun e=>by cases e)
 next hn=>
 have hn:isA n=true:=by simpa using hn
 split
 ·next e=>exact none_ _ rfl rfl (fun _=>⟨hl,by omega,by omega⟩)
 split
 ·next e=>exact none_ _ rfl rfl (fun _=>⟨hl,by omega,by omega⟩)
 have hset:∀ C:List Cnt,(aaK C g n).2=0:=fun C=>by unfold aaK;rw [hg,hn];rfl
 split
 ·next e=>
  refine ⟨fun x=>aes h.fr.used.len _ _ _,fun x=>rfl,fun x=> ?_,fun x=> ?_,fun _=>hl,rfl,rfl⟩
  ·show aab (aaK S.fr.used g n).1 x=_
   rw [acO h.fr.used.len hg hn]
   by_cases hx:x=g
   ·rw [if_pos hx,if_pos ⟨hset _,e,hx⟩]
   ·rw [if_neg hx,if_neg (fun e=>hx e.2.2)]
  ·rw [if_neg (fun e=>by omega)]
 split
 ·next e=>
  refine ⟨fun x=>rfl,fun x=>aes h.sl.used.len _ _ _,fun x=> ?_,fun x=> ?_,fun _=>hl,rfl,rfl⟩
  ·rw [if_neg (fun e=>by omega)]
  ·show aab (aaK S.sl.used g n).1 x=_
   rw [acO h.sl.used.len hg hn]
   by_cases hx:x=g
   ·rw [if_pos hx,if_pos ⟨hset _,e,hx⟩]
   ·rw [if_neg hx,if_neg (fun e=>hx e.2.2)]
 split
 ·split
  ·exact none_ _ rfl rfl (fun e=>by cases e)
  ·exact none_ _ rfl rfl (fun _=>⟨hl,by omega,by omega⟩)
 ·exact none_ _ rfl rfl (fun e=>by cases e)
structure ai4 (S:Cs) (x:Act) (r:Cs×Int×Int×Int):Prop where
 mem:∀ g,r.1.memory g<=S.memory g\/r.1.memory g<=aab r.1.fr.used g
 swp:∀ g,r.1.swap g<=S.swap g\/r.1.swap g<=aab r.1.sl.used g
 one:∀ g,aab r.1.fr.used g=if (x.k.tmod 12=2/\r.2.2.2=0)/\x.b=2/\g=x.a then x.c else aab S.fr.used g
 two:∀ g,aab r.1.sl.used g=if (x.k.tmod 12=2/\r.2.2.2=0)/\x.b=3/\g=x.a then x.c else aab S.sl.used g
 ok:x.k.tmod 12=2/\r.2.2.2=0 ->0<=x.a/\x.a<64
 pool:r.1.fr.pool.length=S.fr.pool.length/\r.1.sl.pool.length=S.sl.pool.length
theorem ai7 (h:Inv S) (hn:S.pages.next<16777216) (x:Act):ai4 S x (S.act x):=by
 have of:∀ r:Cs×Int×Int×Int,x.k.tmod 12≠2 ->Lim S r.1 ->ai4 S x r:=by
  intro r hk L
  refine ⟨fun g=>by rw [(L.lim g).1];exact L.mem g,fun g=>by rw [(L.lim g).2];exact L.swp g,fun g=> ?_,fun g=> ?_,fun e=>absurd e.1 hk,L.pool⟩
  ·rw [if_neg (fun e=>hk e.1.1)];exact (L.lim g).1
  ·rw [if_neg (fun e=>hk e.1.1)];exact (L.lim g).2
 refine ag3 (P:=fun r=>ai4 S x r) S x (fun e=>of _ (by omega) (Lim.addGroup _)) (fun e=>of _ (by omega) (Lim.remove h _)) (fun e=> ?_) (fun e=>of _ (by omega) (Lim.fresh h hn _))
  (fun e=>of _ (by omega) (Lim.openF h hn _ _)) (fun e=>of _ (by omega) (Lim.bring h.toInv0 h.anon _ _)) (fun e=>of _ (by omega) (Lim.copy h hn _ _)) (fun e=>of _ (by omega) (Lim.put _ _ _))
  (fun e=>of _ (by omega) (Lim.get _ _)) (fun e=>of _ (by omega) (Lim.refer h _ _)) (fun e=>of _ (by omega) (Lim.same rfl rfl rfl rfl)) (fun e=>of _ (by omega) (Lim.outs h (adY h _ _)))
 have k:=ajq h x.a x.b x.c
 refine ⟨fun g=> .inl ?_,fun g=> .inl ?_,fun g=> ?_,fun g=> ?_,fun e2=> ?_,k.pool⟩
 ·show (S.limit x.a x.b x.c).1.memory g<=_;rw [k.mem];exact Int.le_refl _
 ·show (S.limit x.a x.b x.c).1.swap g<=_;rw [k.swp];exact Int.le_refl _
 ·show aab (S.limit x.a x.b x.c).1.fr.used g=_
  rw [k.one]
  simp only [e,true_and]
 ·show aab (S.limit x.a x.b x.c).1.sl.used g=_
  rw [k.two]
  simp only [e,true_and]
 ·have hl:=k.ok e2.2
  exact ⟨(adP hl).1,by have:=(adP hl).2;have:=h.wf.few;omega⟩
theorem aFt (h:Inv S) {g:Int} (hb:(S.fresh g).2.2.2=12):∃ S0 t,aho S S0 g t (S.take g)/\S.fresh g=(S0, -1,t,12):=by
 unfold Cs.fresh at hb ⊢
 split at hb
 ·exact absurd (show (2:Int)=12 from hb) (by decide)
 ·next hl=>
  rw [if_neg hl]
  have hl:S.live g=true:=by simpa using hl
  rcases Cs.take_spec h hl with ⟨S0,a,k⟩ | ⟨S0,t',k⟩
  ·unfold Cs.withT at hb
   rw [k.eq] at hb
   dsimp only at hb
   rw [if_neg (by decide)] at hb
   exact absurd (show (0:Int)=12 from hb) (by decide)
  ·refine ⟨S0,t',k,?_⟩
   unfold Cs.withT
   rw [k.eq]
   dsimp only
   rw [if_pos (by decide)]
end Go.Kc
end
section
set_option maxRecDepth 100000
namespace Go.Kc
open Go Go.Kt Go.Sp
variable {S S':Cs} {id:Int}
theorem adZ {T T':TS} (hn:T'.next=T.next) (h:∀ x,(T'.pg x).isSome=(T.pg x).isSome):T'.all=T.all:=by
 unfold TS.all
 rw [hn]
 congr 1
 exact List.filter_congr (fun i _=>h _)
theorem Kept.all (h:Kept S S'):S'.pages.all=S.pages.all:=adZ h.next (fun x=>by
 cases hp:S.pages.pg x with
 | none=>rw [h.none_ x hp]
 | some p=>obtain ⟨q,hq,_⟩:=h.page x p hp;rw [hq];rfl)
theorem amq (h:Inv S) {S0:Cs} {g t:Int} {r:Cs×Int×Int×Int} (hl:S.live g=true) (k:aho S S0 g t r):0<=t/\t<64:=by
 rcases k.why with ⟨rfl,_⟩ | ⟨ht,_⟩
 ·exact ⟨by decide,by decide⟩
 ·exact (aan h.wf hl).1 t ht
end Go.Kc
end
section
set_option maxRecDepth 100000
namespace Go.Mp
open Go Go.Vc Go.Sp Go.Proofs Go.Kc
variable {E:Env} {L:List Asn} {w:World} {A:At} {S:Cs}
theorem c_In {s:Sl} {gs:List Int} {n:Int} (hI:Ints E L s gs) (hb:gs.length<=1000) (h:Sep E L w):Calls P ahd #[.slice s.p s.n s.c,.int .i64 n] w (Ret fun v w'=>v= .bool (decide (n∈gs))/\w'=w):=by
 apply aqA
 have hn:=hI.1
 refine ⟨fun i w'=>w'=w/\∃ k:Nat,i=k/\k<=gs.length/\n∉gs.take k,fun i _=>(gs.length - i).toNat,⟨rfl,0,rfl,Nat.zero_le _,by simp⟩,?_⟩
 rintro _ _ _ ⟨rfl,k,rfl,hk,hno⟩
 refine bLt (fun hlt=> ?_) (fun hge=> ?_)
 ·have hkl:k<gs.length:=by omega
  obtain ⟨x,hx⟩:∃ x,gs[k]? =some x:=⟨_,List.getElem?_eq_getElem hkl⟩
  refine hI.el h k rfl hx (bEq (fun e=>⟨?_,rfl⟩) (fun e=> ?_))
  ·have:n∈gs:=by rw [<- e];exact List.mem_of_getElem? hx
   simp [this]
  ·rw [aah (by omega)]
   refine ⟨⟨rfl,k+1,rfl,hkl,?_⟩,?_⟩
   ·rw [aaj hx]
    simp only [List.mem_append,List.mem_singleton,not_or]
    exact ⟨hno,fun e2=>e e2.symm⟩
   ·show (((gs.length:Nat):Int) - ((k+1:Nat):Int)).toNat<(((gs.length:Nat):Int) - (k:Int)).toNat
    omega
 ·have:gs.take k=gs:=List.take_of_length_le (by omega)
  rw [this] at hno
  exact ⟨by simp [hno],rfl⟩
def adi (n k:Nat) (x y:Int):List Int:=List.replicate k x++List.replicate (n - k) y
theorem arv {n k:Nat} (h:k<=n) (x y:Int):(adi n k x y).length=n:=by simp [adi];omega
theorem arw {n k:Nat} (h:k<n) (x y:Int):(adi n k x y).set k x=adi n (k+1) x y:=by
 unfold adi
 rw [List.set_append_right k _ (by simp),List.length_replicate,Nat.sub_self,show n - k=(n - (k+1))+1 by omega,List.replicate_succ,List.set_cons_zero,List.replicate_succ',List.append_assoc]
 rfl
def LimL (C:List Cnt) (mx:List Int):Prop:=mx.length=64/\∀ g:Nat,g<64 ->mx[g]? =some (aab C g)
theorem apj:LimL cNew (List.replicate 64 1099511627776):=by
 refine ⟨by simp,fun g hg=> ?_⟩
 rw [List.getElem?_replicate,if_pos hg]
 unfold aab cOf
 rw [if_pos (abP.2 ⟨by omega,by omega⟩)]
 unfold cNew
 rw [List.getD_eq_getElem?_getD,List.getElem?_replicate,if_pos (by omega)]
 rfl
theorem LimL.same {C C':List Cnt} {mx:List Int} (h:LimL C mx) (hc:∀ g,aab C' g=aab C g):LimL C' mx:=⟨h.1,fun g hg=>by rw [hc];exact h.2 g hg⟩
theorem LimL.set_ {C C':List Cnt} {mx:List Int} (h:LimL C mx) {a x:Int} (ha:0<=a/\a<64) (hc:∀ g,aab C' g=if g=a then x else aab C g):LimL C' (mx.set a.toNat x):=by
 refine ⟨by rw [List.length_set];exact h.1,fun g hg=> ?_⟩
 rw [hc,List.getElem?_set]
 by_cases e:(g:Int)=a
 ·rw [if_pos e,if_pos (by omega),if_pos (by rw [h.1];omega)]
 ·rw [if_neg e,if_neg (by omega)];exact h.2 g hg
theorem LimL.getD {C:List Cnt} {mx:List Int} (h:LimL C mx) {g:Int} (hg:0<=g/\g<64):mx.getD g.toNat 0=aab C g:=by
 rw [List.getD_eq_getElem?_getD,h.2 _ (by omega),show ((g.toNat:Nat):Int)=g by omega];rfl
theorem aBH {W:World} {frames slots g:Int} {l:Sl} {xs:List Kc.Act} (hA:acL W l xs) (h:Sep E (tabA W.heap::L) w):
  Calls P aaI #[.int .i64 frames,.int .i64 slots,.slice l.p l.n l.c,.int .i64 g] w (Ret fun v w'=>v= .bool true/\Sep E (tabA W.heap::L) w'):=by
 apply akV
 unfold agj
 refine use (afP h) ?_
 rintro _ w1 ⟨rfl,h1⟩
 refine ⟨_,rfl,bF rfl (use (akK frames slots ⟨none,0,0⟩ l w1) ?_)⟩
 rintro _ _ ⟨rfl,rfl⟩
 refine ⟨_,rfl,bifI (fun _=>⟨rfl,h1⟩) (fun hov=> ?_)⟩
 have hln:=hA.1
 have hxl:xs.length<=60:=by
  simp only [Bool.or_eq_false_iff,decide_eq_false_iff_not] at hov
  omega
 refine Al.i h1 (fun bb w3 h3=> ?_)
 have h3:Sep E (tabA W.heap::blk bb (intL [4,4])::L) w3:=h3.swap
 refine use (afB (sz:=⟨some ⟨bb,0,none⟩,2,2⟩) (l:= [4,4]) (Ints.blk_ (b:=bb) (c:=2) (gs:= [4,4]) (q:=1) rfl) (Nat.le_refl _) h3) ?_
 rintro _ w4 ⟨A,rfl,ho,h4⟩
 have h4:Sep E (aaa A (Kc.new frames slots [4,4])++L) w4:=h4.cut
 refine ⟨_,rfl,aeU (n:=64) (by decide) h4 (fun sm w5 hsm h5=> ?_)⟩
 have h5:Sep E (aaa A (Kc.new frames slots [4,4])++rowA sm 1 (intL (adi 64 0 1099511627776 0))::L) w5:=Sep.inn (Q:=aaa A _) h5
 have I0:=Inv.new frames slots [4,4]
 have n0:(Kc.new frames slots [4,4]).pages.next=0:=rfl
 have u0:(Kc.new frames slots [4,4]).fr.used=cNew:=rfl
 generalize Kc.new frames slots [4,4]=T at*
 refine ⟨fun i w'=>∃ k:Nat,i=k/\k<=64/\Sep E (aaa A T++rowA sm 1 (intL (adi 64 k 1099511627776 0))::L) w',fun i _=>(64 - i).toNat,⟨0,rfl,by decide,h5⟩,?_⟩
 rintro _ _ w6 ⟨k,rfl,hk,h6⟩
 have hfl:=arv hk 1099511627776 0
 refine bLt (fun hlt=> ?_) (fun hge=> ?_)
 ·refine Sep.elStQ (q:=16) h6 rfl (by rw [hfl];exact hsm) (by omega) (by rw [hfl];omega) (fun w7 h7=> ?_)
  rw [Int.toNat_natCast,arw (by omega)] at h7
  rw [aah (by omega)]
  refine ⟨⟨k+1,rfl,by omega,h7⟩,?_⟩
  show ((64:Int) - ((k+1:Nat):Int)).toNat<((64:Int) - (k:Int)).toNat
  omega
 have hk64:k=64:=by omega
 subst hk64
 have hf64:adi 64 64 1099511627776 0=List.replicate 64 1099511627776:=by unfold adi;simp
 rw [hf64] at h6
 refine ⟨fun i w'=>∃ (k:Nat) (D:At) (Y:Cs) (mx:List Int),i=k/\k<=xs.length/\D.c=A.c/\D.o=W.heap/\Kc.Inv Y/\Y.pages.next<=k/\LimL Y.fr.used mx/\Sep E (aaa D Y++rowA sm 1 (intL mx)::L) w',fun i _=>(xs.length - i).toNat,
  ⟨0,A,T,_,rfl,Nat.zero_le _,rfl,ho,I0,by rw [n0];exact Int.le_refl _,by rw [u0];exact apj,h6⟩,?_⟩
 rintro _ _ w7 ⟨k,D,Y,mx,rfl,hk,hDc,hDo,IY,hYn,hmx,h7⟩
 refine bLt (fun hlt=> ?_) (fun hge=> ?_)
 ·have hkl:k<xs.length:=by omega
  obtain ⟨x,hx⟩:∃ x,xs[k]? =some x:=⟨_,List.getElem?_eq_getElem hkl⟩
  rw [<- hDc]
  refine doEl (K:=fun e w67=>∃ J:Bool ->World ->Prop,_/\_) hA hx hDo IY (by omega) h7 (fun gs us w8 h8=> ?_)
  have hnn:=agq IY (by omega) x
  have act:=ai7 IY (by omega) x
  have IZ:=IY.act (by omega) x
  obtain ⟨Z,hZ⟩:∃ Z,Y.act x=Z:=⟨_,rfl⟩
  obtain ⟨F,hF⟩:∃ F:At,F= {D with gs:=gs,us:=us} :=⟨_,rfl⟩
  have hFo:F.o=W.heap:=by rw [hF];exact hDo
  have hFc:F.c=D.c:=by rw [hF]
  rw [hZ] at h8 hnn act IZ ⊢
  rw [<- hF] at h8
  refine ⟨fun b w'=>b=decide ((x.k.tmod 12=2/\Z.2.2.2=0)/\x.b=2)/\Sep E (aaa F Z.1++rowA sm 1 (intL mx)::L) w',?_,?_⟩
  ·refine adS hA hx (fun a hc=>⟨_,adT hFo h8 hc 0 _ rfl,by decide,bEq (fun e1=>bEq (fun e2=> ?_) (fun e2=>⟨by simp [e2],h8⟩)) (fun e1=>⟨by simp [e1],h8⟩)⟩)
   refine adS hA hx (fun a2 hc2=>⟨_,adT hFo h8 hc2 2 _ rfl,?_,h8⟩)
   rw [Bool.eq_iff_iff,beq_iff_eq,decide_eq_true_eq]
   exact ⟨fun e=>⟨⟨e1,e2⟩,e⟩,fun e=>e.2⟩
  ·rintro _ b w9 ⟨rfl,h9⟩
   refine bifI (fun hc=> ?_) (fun hc=> ?_)
   ·have hc:=of_decide_eq_true hc
    have ha:=act.ok hc.1
    refine Dr.i h9 (fun w10 h10=>adS hA hx (fun a hc1=>⟨_,adT hFo h10 hc1 1 _ rfl,adS hA hx (fun a2 hc2=>⟨_,adT hFo h10 hc2 3 _ rfl,?_⟩)⟩))
    refine Sep.elStQ (q:=16) h10 rfl (by rw [hmx.1];exact hsm) ha.1 (by rw [hmx.1];exact ha.2) (fun w11 h11=> ?_)
    rw [aah (by omega)]
    refine ⟨⟨k+1,F,Z.1,_,rfl,hkl,hFc,hFo,IZ,by omega,hmx.set_ ha (fun g'=> ?_),h11⟩,?_⟩
    ·rw [act.one]
     by_cases e:g'=x.a
     ·rw [if_pos ⟨hc.1,hc.2,e⟩,if_pos e]
     ·rw [if_neg (fun e2=>e e2.2.2),if_neg e]
    ·show (((xs.length:Nat):Int) - ((k+1:Nat):Int)).toNat<(((xs.length:Nat):Int) - (k:Int)).toNat
     omega
   ·have hc:=of_decide_eq_false hc
    rw [aah (by omega)]
    refine ⟨⟨k+1,F,Z.1,mx,rfl,hkl,hFc,hFo,IZ,by omega,hmx.same (fun g'=> ?_),h9⟩,?_⟩
    ·rw [act.one,if_neg (fun e=>hc ⟨e.1,e.2.1⟩)]
    ·show (((xs.length:Nat):Int) - ((k+1:Nat):Int)).toNat<(((xs.length:Nat):Int) - (k:Int)).toNat
     omega
 ·rw [<- hDc]
  refine use (al8 h7) ?_
  rintro _ w8 ⟨rfl,h8⟩
  refine ⟨_,rfl,use (akg IY.wf (h8.fr 1 rfl)) ?_⟩
  rintro _ w9 ⟨sc,rfl,hsc,h9⟩
  have h9:=h9.put1 (q:=1) rfl
  have h9:Sep E (aaa D Y++rowA sc 1 (intL (Kt.aac Y.tree g))::rowA sm 1 (intL mx)::L) w9:=Sep.inn (Q:=aaa D Y) h9
  refine ⟨sc,rfl,use (afO (g:=g) IY h9) ?_⟩
  rintro _ w10 ⟨rfl,h10⟩
  have hend:∀ {V:Cs} {w:World},Sep E (aaa D V++rowA sc 1 (intL (Kt.aac Y.tree g))::rowA sm 1 (intL mx)::L) w ->Sep E (tabA W.heap::L) w:=fun hs=>by rw [<- hDo];exact ac3 hs.cut.cut
  refine ⟨_,_,_,rfl,bNe (fun _=>⟨rfl,hend h10⟩) (fun hb=> ?_)⟩
  obtain ⟨S0,t,k1,he⟩:=aFt IY hb
  rw [he] at h10 ⊢
  have IS:=k1.outs.inv IY
  have hlim:=(Lim.outs IY k1.outs).lim t
  have hlv:Y.live g=true:=by
   cases hl:Y.live g with
   | true=>rfl
   | false=>
    have:(Y.fresh g).2.2.2=2:=by unfold Cs.fresh;rw [if_pos hl]
    rw [this] at hb;exact absurd hb (by decide)
  have ht64:=amq IY hlv k1
  have hch:(Kt.aac Y.tree g).length<=1000:=by
   have hcf:=aan IY.wf hlv
   have:=ahD 64 (Kt.aac Y.tree g) hcf.2.1 (fun y hy=>hcf.1 y hy)
   omega
  refine use (aoc h10) ?_
  rintro _ w11 ⟨rfl,h11⟩
  refine ⟨_,_,rfl,use (c_In (Ints.at_ (q:=16) rfl hsc) hch h11) ?_⟩
  rintro _ _ ⟨rfl,rfl⟩
  refine ⟨_,rfl,fun b w'=>b=(decide (t∈Kt.aac Y.tree g)&&decide (S0.memory t≥aab S0.fr.used t))/\Sep E (aaa D S0++rowA sc 1 (intL (Kt.aac Y.tree g))::rowA sm 1 (intL mx)::L) w',?_,?_⟩
  ·refine Dr.i h11 (fun w12 h12=>bifI (fun hin=> ?_) (fun hin=>⟨by rw [hin];rfl,h12⟩))
   refine elJ 17 h12 rfl (by rw [hmx.1];exact hsm) ht64.1 (by rw [hmx.1];exact ht64.2) (fun a ha=>⟨_,ha 17 h12 rfl,use (abk t h12) ?_⟩)
   rintro _ w13 ⟨rfl,h13⟩
   refine ⟨_,rfl,_,ha 17 h13 rfl,rfl,?_,h13⟩
   rw [hin,hmx.getD ht64,hlim.1];rfl
  ·rintro _ b w12 ⟨rfl,h12⟩
   have fin:∀ w',Sep E (aaa D S0++rowA sc 1 (intL (Kt.aac Y.tree g))::rowA sm 1 (intL mx)::L) w' ->Calls P aa6 #[.pointer (some ⟨D.c,0,none⟩),.int .i64 t] w' fun e83 w82=>∃ x84:Bool,e83= .returned (.bool x84)/\((.bool (!x84)):Value)= .bool true/\Sep E (tabA W.heap::L) w82:=by
    intro w' hw'
    refine use (aob (t:=t) IS hw') ?_
    rintro _ w13 ⟨rfl,h13⟩
    exact ⟨_,rfl,by rw [k1.no];rfl,hend h13⟩
   refine bT rfl (bifI (fun _=>fin w12 h12) (fun hfull=> ?_))
   rcases k1.why with ⟨h0,hp⟩ | ⟨h0,hp⟩
   ·subst h0
    refine bT rfl (bT ?_ (fin w12 h12))
    have:abE S0.fr.pool=0:=by
     have hc:S0.fr.pool.count true=S0.fr.pool.length:=List.count_eq_length.2 (fun b hb=>(hp b hb).symm)
     unfold abE;rw [hc];omega
    rw [this];rfl
   ·exfalso
    rw [Bool.and_eq_false_iff] at hfull
    rcases hfull with e | e
    ·exact absurd h0 (of_decide_eq_false e)
    ·have:=of_decide_eq_false e
     unfold Cs.memory at this
     omega
end Go.Mp
end
section
set_option maxRecDepth 100000
namespace Go.Proofs.YtkjijachkcmelaaGreatDoor
open Go Go.Vc Go.Sp Go.Mp Go.RowKit Go.ChangeShapes
theorem atB (os:Os) (started:os.Started) (H:Type) (enc:TypeId×Value ->H):
  ReturnsInHanded {} Chk os aaI .any (fun w args=>(Rows.coreTargetSpec.pre enc P aaw [] false w args/\laidMetH P aa3 w)/\sizedMet enc P aaw (OpenSpec.ofChange Rows.coreTargetSpec) false w args) (Rows.coreTargetSpec.post enc P aaw false true false false):=by
 refine abO (C:=Chk) (tb:=aeL) (X:=fun w=>laidMetH P aa3 w) (fun _ _ hh h=>h.of_heap hh) own started (by kernel_rfl) adB
  (ChangeSpec.witness_shaped (enc:=enc) (C:=Chk) (os:=os) (X:=fun w _=>laidMetH P aa3 w) false (World.laidAll P os aa3) #[.int .i64 0,.int .i64 0,.slice none 0 0,.int .i64 0] 8 (World.laidAll_os _ _ _) (World.shaped_of_ZipB (by kernel_rfl) (by kernel_rfl)) (by kernel_rfl) (by kernel_rfl) (by kernel_rfl) (aeP os _))
  laidOut (by kernel_rfl) (by kernel_rfl) rfl (by kernel_rfl) ?_ ?_
 ·intro ds gs hd hg
  match ds,gs,hd,hg with
  | [d0,d1,d2,d3],[],_,_=>rfl
 ·intro W base args hsz hargs _ hx
  have hw:=aek hx
  obtain ⟨x0,x1,x2,x3,rfl⟩:=ao9 hsz
  have a0:=hargs 0 _ _ rfl rfl
  have a1:=hargs 1 _ _ rfl rfl
  have a2:=hargs 2 _ _ rfl rfl
  have a3:=hargs 3 _ _ rfl rfl
  obtain ⟨f,rfl,hf⟩:=aa9 a0
  obtain ⟨s,rfl,hs⟩:=aa9 a1
  obtain ⟨l,xs,rfl,hA⟩:=agr a2
  obtain ⟨g,rfl,hg⟩:=aa9 a3
  refine use (aBH hA hw) ?_
  rintro v w' ⟨rfl,h⟩
  exact ⟨_,rfl,rfl,af5 h⟩
theorem amo:Tryz.pinned.checked.prog.funcNamed Rows.coreTargetRow.func=some aaI:=by kernel_rfl
theorem aAe:jfA P aaw Rows.coreTargetSpec Rows.coreTargetRow=true:=by kernel_rfl
theorem aAf:jfB P aaI Rows.coreTargetRow=true:=by kernel_rfl
theorem aAg:jfC P aaI Rows.coreTargetRow=true:=by kernel_rfl
theorem aAh:jfD P aaI Rows.coreTargetRow=true:=by kernel_rfl
theorem aAi:jfE P aaI Rows.coreTargetRow=true:=by kernel_rfl
theorem aAj:jfF P aaw Rows.coreTargetSpec Rows.coreTargetRow=true:=by kernel_rfl
theorem aAk:jfG P aaw Rows.coreTargetSpec Rows.coreTargetRow=true:=by kernel_rfl
theorem aAl:jfH P Rows.coreTargetRow=true:=by kernel_rfl
theorem aAm:jfI P aaw Rows.coreTargetSpec Rows.coreTargetRow=true:=by kernel_rfl
theorem avk:Rows.CoreTargetSaid:=
 OpenClaim.holds_of_wide aaI aaw rfl rfl rfl rfl rfl rfl rfl ⟨rfl,rfl,rfl,rfl,rfl⟩ rfl rfl rfl rfl rfl amo adB
  (aeh aAe aAf aAg aAh aAi aAj aAk aAl aAm)
  (of_decide_eq_true (by kernel_rfl)) (by unfold Func.isWrapper;rw [if_neg (by decide+kernel)];exact ⟨rfl,rfl⟩)
  (fun os started H enc _=>atB os started H enc)
theorem aAn:Rows.coreTargetRow.wfByText (OpenSpec.ofChange Rows.coreTargetSpec)=true:=by kernel_rfl
theorem awS:Tryz.pinned.checked.prog.mainIs=some (true, "3b9054f10c9c5fb82da89a913622f02e1aaecefdee6eb776dafd30a2283a3747".toList):=by kernel_rfl
theorem avl:false=Tryz.pinned.checked.prog.looks []:=by kernel_rfl
theorem awR:false=Rows.coreTargetRow.goesBy Tryz.pinned.checked.prog:=by kernel_rfl
theorem avm:(aaw.params.toList.all fun u=> !P.wantsStandIn u)=true:=by kernel_rfl
theorem coreTarget_card:Rows.CoreTargetCardSaid:=
 Claim7.holds_tied_plain_at .later [] [.data] true (true, "3b9054f10c9c5fb82da89a913622f02e1aaecefdee6eb776dafd30a2283a3747") false
  avk (fun _ h=>by cases h) aAn (fun _ h=>by cases h) coreTarget_row_tie rfl ⟨rfl,rfl⟩ awS rfl
  (fun f fn hf hfn=>by
   obtain rfl:f=aaI:=Option.some.inj (amo.symm.trans hf) |>.symm
   obtain rfl:fn=aaw:=(Option.some.inj (adB.symm.trans hfn)).symm
   refine ⟨avl,fun j t ht=> ?_⟩
   have hm:t∈aaw.params.toList:=by simpa using Array.mem_of_getElem? ht
   exact (show P.wantsStandIn t=false by simpa using List.all_eq_true.1 avm t hm))
  awR
end Go.Proofs.YtkjijachkcmelaaGreatDoor
end
