/- Part of a proof about the core: of its walks and plain laws. -/
import Derived.Test.YtkjijachkcmelaaGreatDoorC06
import Derived.Lib.TrailingZeros
import Derived.ProofKit
import Derived.OpenVars
import Derived.Shelf.SlIterI.Nil
import Derived.Shelf.SortM.Plain
import Derived.Shelf.SortM.SortNone
set_option linter.all false
section
set_option maxRecDepth 100000
namespace Go.Mp
open Go Go.Vc Go.Proofs
variable {K:Value ->World ->Prop} {w:World}
def ake:Ann:= {quiet:=fun d=> [13,22,30,32,35,40,47,48,51,54,62].contains d,loop:=fun r=>(bif r==2 then [(7,.int .i64),(8,.int .i64)] else bif r==7 then [(6,.int .i64)] else bif r==9 then [(7,.int .i64),(8,.int .i64)] else [])}
def agm (data:Sl) (n:Int) (cmp:Value) (K:Value ->World ->Prop) (w:World):Prop:=
 ∃ (I1:Int ->Int ->World ->Prop) (M2:Int ->Int ->World ->Nat),I1 0 20 w/\∀ _u4:Nat ->Value,∀ a5:Int,∀ b6:Int,∀ w3:World,I1 a5 b6 w3 ->bif (decide (b6<=n)) then (Calls P abT #[(Sv data),(Iv a5),(Iv b6),cmp] w3 fun e8 w7=>e8= .returned (.tuple #[])/\(I1 b6 (IntKind.i64.wrap (b6+20)) w7/\M2 b6 (IntKind.i64.wrap (b6+20)) w7<M2 a5 b6 w3)) else (Calls P abT #[(Sv data),(Iv a5),(Iv n),cmp] w3 fun e10 w9=>e10= .returned (.tuple #[])/\∃ (I11:Int ->World ->Prop) (M12:Int ->World ->Nat),I11 20 w9/\∀ _u14:Nat ->Value,∀ blockSize15 w13,I11 blockSize15 w13 ->bif (decide (blockSize15<n)) then (∃ (I16:Int ->Int ->World ->Prop) (M17:Int ->Int ->World ->Nat),I16 0 (IntKind.i64.wrap (2*blockSize15)) w13/\∀ _u19:Nat ->Value,∀ a20:Int,∀ b21:Int,∀ w18:World,I16 a20 b21 w18 ->bif (decide (b21<=n)) then (Calls P abu #[(Sv data),(Iv a20),(Iv (IntKind.i64.wrap (a20+blockSize15))),(Iv b21),cmp] w18 fun e23 w22=>e23= .returned (.tuple #[])/\(I16 b21 (IntKind.i64.wrap (b21+(IntKind.i64.wrap (2*blockSize15)))) w22/\M17 b21 (IntKind.i64.wrap (b21+(IntKind.i64.wrap (2*blockSize15)))) w22<M17 a20 b21 w18)) else (bif (decide ((IntKind.i64.wrap (a20+blockSize15))<n)) then (Calls P abu #[(Sv data),(Iv a20),(Iv (IntKind.i64.wrap (a20+blockSize15))),(Iv n),cmp] w18 fun e25 w24=>e25= .returned (.tuple #[])/\(I11 (IntKind.i64.wrap (blockSize15*2)) w24/\M12 (IntKind.i64.wrap (blockSize15*2)) w24<M12 blockSize15 w13)) else ((I11 (IntKind.i64.wrap (blockSize15*2)) w18/\M12 (IntKind.i64.wrap (blockSize15*2)) w18<M12 blockSize15 w13)))) else (K (.tuple #[]) w13))
theorem akZ (data:Sl) (n:Int) (cmp:Value) (h:agm data n cmp K w):Calls P aec #[(Sv data),(Iv n),cmp] w (Ret K):=ofVc (A:=ake) Tryz.func266 (by kernel_rfl) (by kernel_rfl) h
def atc:Ann:= {quiet:=fun d=> [5].contains d}
def avS (x:Int) (K:Value ->World ->Prop) (w:World):Prop:=
 K (.bool (x !=x)) w
theorem avr (x:Int) (h:avS x K w):Calls P agx #[(Iv x)] w (Ret K):=ofVc (A:=atc) Tryz.func267 (by kernel_rfl) (by kernel_rfl) h
def awe:Ann:= {quiet:=fun d=> [8,13].contains d}
def aoB (group:Int) (clock:Int) (K:Value ->World ->Prop) (w:World):Prop:=
 bif (decide (clock<0)) then (K (.int .u64 0) w) else (Calls P agI #[] w fun e2 w1=>∃ x3:Sl,e2= .returned (Sv x3)/\Al (.cells #[(Iv 1),(Iv group),(Iv (andI .i64 clock 1099511627775))] 3) (fun p4 w5=>Calls P amt #[(Sv x3),(.slice (some p4) 3 3)] w5 fun e7 w6=>∃ x8:Int,∃ x9:Int,e7= .returned (.tuple #[(.int .u64 x8),(Iv x9)])/\K (.int .u64 x8) w6) w1)
theorem ayl (group:Int) (clock:Int) (h:aoB group clock K w):Calls P akl #[(Iv group),(Iv clock)] w (Ret K):=ofVc (A:=awe) Tryz.func268 (by kernel_rfl) (by kernel_rfl) h
def arc:Ann:= {quiet:=fun d=> [4,7].contains d}
def alO (n:Int) (K:Value ->World ->Prop) (w:World):Prop:=
 bif (decide ((0:Int)<=n)) then (K (.bool (decide (n<=1099511627776))) w) else (K (.bool false) w)
theorem atW (n:Int) (h:alO n K w):Calls P adr #[(Iv n)] w (Ret K):=ofVc (A:=arc) Tryz.func269 (by kernel_rfl) (by kernel_rfl) h
def amg:Ann:= {quiet:=fun d=> [7,19].contains d,loop:=fun r=>(bif r==0 then [] else [])}
def ajH (yield:Value) (c_f:Addr) (c_fq:Addr) (c_fqq:Addr) (K:Value ->World ->Prop) (w:World):Prop:=
 ∃ (I1:World ->Prop) (M2:World ->Nat),I1 w/\∀ _u4:Nat ->Value,∀ w3:World,I1 w3 ->∃ x5,w3.cell? c_f=some (Iv x5)/\∃ x6,w3.cell? c_fq=some (Iv x6)/\bif (x5 !=x6) then (∃ x7,w3.cell? c_f=some (Iv x7)/\aEb P none yield #[(Iv x7)] w3 fun e9 w8=>∃ x10,e9= .returned (.bool x10)/\bif (!x10) then (K (.tuple #[]) w8) else (∃ x11,w8.cell? c_f=some (Iv x11)/\bif (decide (x11<0)) then (K (.tuple #[]) w8) else (∃ x12:Sl,w8.cell? c_fqq=some (Sv x12)/\∃ x13,w8.cell? c_f=some (Iv x13)/\elAt x12.p x12.n x13 3 fun a14=>∃ x15,w8.cell? (a14.add 0)=some (Iv x15)/\St c_f (Iv x15) (fun w16=>(([]:List Nat)= []/\(I1 w16/\M2 w16<M2 w3))) w8))) else (K (.tuple #[]) w3)
def axH:Nat ->Bool:=fun d=> [15].contains d
theorem axE (yield:Value) (c_f:Addr) (c_fq:Addr) (c_fqq:Addr) (K:Value ->World ->Prop) (w:World):anq P tau rho pan amg axH Go.Proofs.Tryz.f270 #[yield,(.pointer (some c_f)),(.pointer (some c_fq)),(.pointer (some c_fqq))] K w=ajH yield c_f c_fq c_fqq K w:=by kernel_rfl
theorem axh:ana P amg Go.Proofs.Tryz.f270 4=true:=by kernel_rfl
theorem axc (yield:Value) (c_f:Addr) (c_fq:Addr) (c_fqq:Addr) {K:Value ->World ->Prop} {w:World} (h:ajH yield c_f c_fq c_fqq K w):Calls P aeq #[yield,(Pv (some c_f)),(Pv (some c_fq)),(Pv (some c_fqq))] w (Ret K):=afQ mixed Go.Proofs.Tryz.func270 axh (by rw [axE];exact h)
def ahV:Ann:= {quiet:=fun d=> [13,22,30,32,35,40,47,48,51,54,62].contains d,loop:=fun r=>(bif r==2 then [(7,.int .i64),(8,.int .i64)] else bif r==7 then [(6,.int .i64)] else bif r==9 then [(7,.int .i64),(8,.int .i64)] else [])}
def aeA (data:Sl) (n:Int) (cmp:Value) (K:Value ->World ->Prop) (w:World):Prop:=
 ∃ (I1:Int ->Int ->World ->Prop) (M2:Int ->Int ->World ->Nat),I1 0 20 w/\∀ _u4:Nat ->Value,∀ a5:Int,∀ b6:Int,∀ w3:World,I1 a5 b6 w3 ->bif (decide (b6<=n)) then (Calls P abp #[(Sv data),(Iv a5),(Iv b6),cmp] w3 fun e8 w7=>e8= .returned (.tuple #[])/\(I1 b6 (IntKind.i64.wrap (b6+20)) w7/\M2 b6 (IntKind.i64.wrap (b6+20)) w7<M2 a5 b6 w3)) else (Calls P abp #[(Sv data),(Iv a5),(Iv n),cmp] w3 fun e10 w9=>e10= .returned (.tuple #[])/\∃ (I11:Int ->World ->Prop) (M12:Int ->World ->Nat),I11 20 w9/\∀ _u14:Nat ->Value,∀ blockSize15 w13,I11 blockSize15 w13 ->bif (decide (blockSize15<n)) then (∃ (I16:Int ->Int ->World ->Prop) (M17:Int ->Int ->World ->Nat),I16 0 (IntKind.i64.wrap (2*blockSize15)) w13/\∀ _u19:Nat ->Value,∀ a20:Int,∀ b21:Int,∀ w18:World,I16 a20 b21 w18 ->bif (decide (b21<=n)) then (Calls P aa2 #[(Sv data),(Iv a20),(Iv (IntKind.i64.wrap (a20+blockSize15))),(Iv b21),cmp] w18 fun e23 w22=>e23= .returned (.tuple #[])/\(I16 b21 (IntKind.i64.wrap (b21+(IntKind.i64.wrap (2*blockSize15)))) w22/\M17 b21 (IntKind.i64.wrap (b21+(IntKind.i64.wrap (2*blockSize15)))) w22<M17 a20 b21 w18)) else (bif (decide ((IntKind.i64.wrap (a20+blockSize15))<n)) then (Calls P aa2 #[(Sv data),(Iv a20),(Iv (IntKind.i64.wrap (a20+blockSize15))),(Iv n),cmp] w18 fun e25 w24=>e25= .returned (.tuple #[])/\(I11 (IntKind.i64.wrap (blockSize15*2)) w24/\M12 (IntKind.i64.wrap (blockSize15*2)) w24<M12 blockSize15 w13)) else ((I11 (IntKind.i64.wrap (blockSize15*2)) w18/\M12 (IntKind.i64.wrap (blockSize15*2)) w18<M12 blockSize15 w13)))) else (K (.tuple #[]) w13))
theorem aik (data:Sl) (n:Int) (cmp:Value) (h:aeA data n cmp K w):Calls P acI #[(Sv data),(Iv n),cmp] w (Ret K):=ofVc (A:=ahV) Tryz.func272 (by kernel_rfl) (by kernel_rfl) h
def aoQ:Ann:= {quiet:=fun d=> [5].contains d}
def aqK (x:Int) (K:Value ->World ->Prop) (w:World):Prop:=
 K (.bool (x !=x)) w
theorem aqo (x:Int) (h:aqK x K w):Calls P ae2 #[(.int .u64 x)] w (Ret K):=ofVc (A:=aoQ) Tryz.func273 (by kernel_rfl) (by kernel_rfl) h
def auN:Ann:= {quiet:=fun d=> [8,15,30,31].contains d,join:=fun r=>(bif r==3 then some [] else none)}
def anh (m:Option Addr) (i:Int) (K:Value ->World ->Prop) (w:World):Prop:=
 ∃ J1:World ->Prop,(bif (decide (i<0)) then (K (.bool false) w) else (NN m fun a4=>∃ x5,w.cell? (a4.add 0)=some (Iv x5)/\bif (decide (i≥x5)) then (K (.bool false) w) else (J1 w)))/\(∀ _u3:Nat ->Value,∀ w2:World,J1 w2 ->Calls P alY #[(Iv i)] w2 fun e7 w6=>∃ x8:Int,∃ x9:Int,e7= .returned (.tuple #[(Iv x8),(.int .u64 x9)])/\NN m fun a10=>∃ x11:Sl,w6.cell? (a10.add 1)=some (Sv x11)/\elAt x11.p x11.n x8 1 fun a12=>∃ x13:Int,w6.cell? a12=some (.int .u64 x13)/\K (.bool ((andI .u64 x13 x9) !=0)) w6)
theorem aw7 (m:Option Addr) (i:Int) (h:anh m i K w):Calls P ajf #[(Pv m),(Iv i)] w (Ret K):=ofVc (A:=auN) Tryz.func274 (by kernel_rfl) (by kernel_rfl) h
def aCx:Ann:= {quiet:=fun d=> [5,7,8,9].contains d}
def axr (i:Int) (K:Value ->World ->Prop) (w:World):Prop:=
 0<=(6:Int)/\0<=(IntKind.u64.wrap (andI .i64 i 63))/\K (.tuple #[(Iv (i.fdiv (2 ^ (min (6:Int).toNat 64)))),(.int .u64 (IntKind.u64.wrap (1*2 ^ (min (IntKind.u64.wrap (andI .i64 i 63)).toNat 64))))]) w
theorem aEo (i:Int) (h:axr i K w):Calls P alY #[(Iv i)] w (Ret K):=ofVc (A:=aCx) Tryz.func275 (by kernel_rfl) (by kernel_rfl) h
def ajN:Ann:= {quiet:=fun d=> [4,8,9,10,13].contains d}
def af1 (x:Int) (K:Value ->World ->Prop) (w:World):Prop:=
 bif (x==0) then (K (Iv 64) w) else (0<=(58:Int)/\elAt (some (⟨2,0,none⟩:Addr)) 64 ((IntKind.u64.wrap ((andI .u64 x (IntKind.u64.wrap (0 - x)))*285870213051353865)).fdiv (2 ^ (min (58:Int).toNat 64))) 1 fun a1=>∃ x2:Int,w.cell? a1=some (.int .u8 x2)/\K (Iv (IntKind.i64.wrap x2)) w)
theorem akp (x:Int) (h:af1 x K w):Calls P adM #[(.int .u64 x)] w (Ret K):=ofVc (A:=ajN) Tryz.func276 (by kernel_rfl) (by kernel_rfl) h
def axK:Ann:= {quiet:=fun d=> [8,10,14,17,22,23,27,28].contains d,loop:=fun r=>(bif r==3 then [(4,.int .i64),(9,.int .i64)] else [])}
def apO (widths:Sl) (K:Value ->World ->Prop) (w:World):Prop:=
 ∃ (I1:Int ->Int ->World ->Prop) (M2:Int ->Int ->World ->Nat),I1 0 0 w/\∀ _u4:Nat ->Value,∀ n5:Int,∀ x6:Int,∀ w3:World,I1 n5 x6 w3 ->bif (decide (x6<((widths.n:Nat):Int))) then (elAt widths.p widths.n x6 1 fun a7=>∃ x8,w3.cell? a7=some (Iv x8)/\bif (decide (x8<0)) then (K (.tuple #[(Iv 0),(.bool false)]) w3) else (bif (decide (x8>62)) then (K (.tuple #[(Iv 0),(.bool false)]) w3) else (bif (decide ((IntKind.i64.wrap (n5+x8))>64)) then (K (.tuple #[(Iv 0),(.bool false)]) w3) else ((I1 (IntKind.i64.wrap (n5+x8)) (IntKind.i64.wrap (x6+1)) w3/\M2 (IntKind.i64.wrap (n5+x8)) (IntKind.i64.wrap (x6+1)) w3<M2 n5 x6 w3))))) else (K (.tuple #[(Iv n5),(.bool true)]) w3)
theorem aAq (widths:Sl) (h:apO widths K w):Calls P aiy #[(Sv widths)] w (Ret K):=ofVc (A:=axK) Tryz.func277 (by kernel_rfl) (by kernel_rfl) h
def ay9:Ann:= {quiet:=fun d=> [4,5,6].contains d}
def asi (n:Int) (K:Value ->World ->Prop) (w:World):Prop:=
 0<=(IntKind.u64.wrap n)/\K (.int .u64 (IntKind.u64.wrap ((IntKind.u64.wrap (1*2 ^ (min (IntKind.u64.wrap n).toNat 64))) - 1))) w
theorem aBM (n:Int) (h:asi n K w):Calls P ajg #[(Iv n)] w (Ret K):=ofVc (A:=ay9) Tryz.func278 (by kernel_rfl) (by kernel_rfl) h
def ahT:Ann:= {quiet:=fun d=> [11,14,16,20,29,33,36,41,44].contains d,dyn:=fun d=> [32].contains d,sig:=fun r=>(bif r==4 then some ([0,1,2,3,4,5,6,7,8,9,10,11,12,13,14,15,16],[14]) else bif r==6 then some ([0,1,2,3,4,5,6,7,8,9,10,11,12,13,14,15,16,17],[15,17]) else none),loop:=fun r=>(bif r==1 then [(8,.int .i64)] else bif r==4 then [(9,.int .i64)] else []),join:=fun r=>(bif r==6 then some [] else none)}
def aey (data:Sl) (a:Int) (b:Int) (cmp:Value) (K:Value ->World ->Prop) (w:World):Prop:=
 ∃ (I1:Int ->World ->Prop) (M2:Int ->World ->Nat),I1 (IntKind.i64.wrap (a+1)) w/\∀ _u4:Nat ->Value,∀ i5 w3,I1 i5 w3 ->bif (decide (i5<b)) then (∃ (I6:Int ->World ->Prop) (M7:Int ->World ->Nat),I6 i5 w3/\∀ _u9:Nat ->Value,∀ j10 w8,I6 j10 w8 ->∃ J11:World ->Prop,(Dr (fun w14=>bif (decide (j10>a)) then (elAt data.p data.n j10 1 fun a15=>∃ x16,w14.cell? a15=some (Iv x16)/\elAt data.p data.n (IntKind.i64.wrap (j10 - 1)) 1 fun a17=>∃ x18,w14.cell? a17=some (Iv x18)/\abo P cmp #[(Iv x16),(Iv x18)] w14 fun e20 w19=>∃ x21,e20= .returned (Iv x21)/\bif (decide (x21<0)) then (J11 w19) else ((I1 (IntKind.i64.wrap (i5+1)) w19/\M2 (IntKind.i64.wrap (i5+1)) w19<M2 i5 w3))) else ((I1 (IntKind.i64.wrap (i5+1)) w14/\M2 (IntKind.i64.wrap (i5+1)) w14<M2 i5 w3))) w8)/\(∀ _u13:Nat ->Value,∀ w12:World,J11 w12 ->Dr (fun w22=>elAt data.p data.n (IntKind.i64.wrap (j10 - 1)) 1 fun a23=>∃ x24,w22.cell? a23=some (Iv x24)/\elAt data.p data.n j10 1 fun a25=>∃ x26,w22.cell? a25=some (Iv x26)/\elAt data.p data.n j10 1 fun a27=>St a27 (Iv x24) (fun w28=>elAt data.p data.n (IntKind.i64.wrap (j10 - 1)) 1 fun a29=>St a29 (Iv x26) (fun w30=>(I6 (IntKind.i64.wrap (j10 - 1)) w30/\M7 (IntKind.i64.wrap (j10 - 1)) w30<M7 j10 w8)) w28) w22) w12)) else (K (.tuple #[]) w3)
theorem aii (data:Sl) (a:Int) (b:Int) (cmp:Value) (h:aey data a b cmp K w):Calls P abT #[(Sv data),(Iv a),(Iv b),cmp] w (Ret K):=ofVc (A:=ahT) Tryz.func287 (by kernel_rfl) (by kernel_rfl) h
def ai8:Ann:= {quiet:=fun d=> [27,28,33,36,37,38,39,50,52,57,58,60,65,68,79,80,85,88,89,90,91,102,105,110,112,117,120,131,132,133,134,137,140,143,148,151,154,155,156,157,162,170,173,177,180,184,194,198,208,212].contains d,dyn:=fun d=> [49,101,169].contains d,sig:=fun r=>(bif r==5 then some ([0,1,2,3,4,5,6,7,8,9,10],[9]) else bif r==11 then some ([0,1,2,3,4,5,6,7,8,9,10,11,12,13,14,15,16,17],[15,17]) else bif r==17 then some ([0,1,2,3,4,5,6,7,8,9,10,11],[9]) else bif r==23 then some ([0,1,2,3,4,5,6,7,8,9,10,11,12,13,14,15,16,17],[15,17]) else bif r==35 then some ([0,1,2,3,4,5,6,7,8,9,10,11,12,13],[11]) else none),loop:=fun r=>(bif r==3 then [(10,.int .i64),(11,.int .i64)] else bif r==9 then [(13,.int .i64)] else bif r==15 then [(14,.int .i64),(15,.int .i64)] else bif r==21 then [(17,.int .i64)] else bif r==33 then [(20,.int .i64),(21,.int .i64)] else []),join:=fun r=>(bif r==32 then some [(20,.int .i64),(21,.int .i64)] else bif r==40 then some [(185,.bool)] else bif r==41 then some [] else bif r==42 then some [(199,.bool)] else bif r==43 then some [] else bif r==44 then some [(213,.bool)] else none)}
def afA (data:Sl) (a:Int) (m:Int) (b:Int) (cmp:Value) (K:Value ->World ->Prop) (w:World):Prop:=
 bif ((IntKind.i64.wrap (m - a))==1) then (∃ (I1:Int ->Int ->World ->Prop) (M2:Int ->Int ->World ->Nat),I1 m b w/\∀ _u4:Nat ->Value,∀ i5:Int,∀ j6:Int,∀ w3:World,I1 i5 j6 w3 ->bif (decide (i5<j6)) then (0<=(1:Int)/\Dr (fun w7=>elAt data.p data.n (IntKind.i64.wrap ((IntKind.u64.wrap (IntKind.i64.wrap (i5+j6))).fdiv (2 ^ (min (1:Int).toNat 64)))) 1 fun a8=>∃ x9,w7.cell? a8=some (Iv x9)/\elAt data.p data.n a 1 fun a10=>∃ x11,w7.cell? a10=some (Iv x11)/\abo P cmp #[(Iv x9),(Iv x11)] w7 fun e13 w12=>∃ x14,e13= .returned (Iv x14)/\bif (decide (x14<0)) then ((I1 (IntKind.i64.wrap ((IntKind.i64.wrap ((IntKind.u64.wrap (IntKind.i64.wrap (i5+j6))).fdiv (2 ^ (min (1:Int).toNat 64))))+1)) j6 w12/\M2 (IntKind.i64.wrap ((IntKind.i64.wrap ((IntKind.u64.wrap (IntKind.i64.wrap (i5+j6))).fdiv (2 ^ (min (1:Int).toNat 64))))+1)) j6 w12<M2 i5 j6 w3)) else ((I1 i5 (IntKind.i64.wrap ((IntKind.u64.wrap (IntKind.i64.wrap (i5+j6))).fdiv (2 ^ (min (1:Int).toNat 64)))) w12/\M2 i5 (IntKind.i64.wrap ((IntKind.u64.wrap (IntKind.i64.wrap (i5+j6))).fdiv (2 ^ (min (1:Int).toNat 64)))) w12<M2 i5 j6 w3))) w3) else (∃ (I15:Int ->World ->Prop) (M16:Int ->World ->Nat),I15 a w3/\∀ _u18:Nat ->Value,∀ k19 w17,I15 k19 w17 ->bif (decide (k19<(IntKind.i64.wrap (i5 - 1)))) then (Dr (fun w20=>elAt data.p data.n (IntKind.i64.wrap (k19+1)) 1 fun a21=>∃ x22,w20.cell? a21=some (Iv x22)/\elAt data.p data.n k19 1 fun a23=>∃ x24,w20.cell? a23=some (Iv x24)/\elAt data.p data.n k19 1 fun a25=>St a25 (Iv x22) (fun w26=>elAt data.p data.n (IntKind.i64.wrap (k19+1)) 1 fun a27=>St a27 (Iv x24) (fun w28=>(I15 (IntKind.i64.wrap (k19+1)) w28/\M16 (IntKind.i64.wrap (k19+1)) w28<M16 k19 w17)) w26) w20) w17) else (K (.tuple #[]) w17))) else (bif ((IntKind.i64.wrap (b - m))==1) then (∃ (I29:Int ->Int ->World ->Prop) (M30:Int ->Int ->World ->Nat),I29 a m w/\∀ _u32:Nat ->Value,∀ i33:Int,∀ j34:Int,∀ w31:World,I29 i33 j34 w31 ->bif (decide (i33<j34)) then (0<=(1:Int)/\Dr (fun w35=>elAt data.p data.n m 1 fun a36=>∃ x37,w35.cell? a36=some (Iv x37)/\elAt data.p data.n (IntKind.i64.wrap ((IntKind.u64.wrap (IntKind.i64.wrap (i33+j34))).fdiv (2 ^ (min (1:Int).toNat 64)))) 1 fun a38=>∃ x39,w35.cell? a38=some (Iv x39)/\abo P cmp #[(Iv x37),(Iv x39)] w35 fun e41 w40=>∃ x42,e41= .returned (Iv x42)/\bif (!(decide (x42<0))) then ((I29 (IntKind.i64.wrap ((IntKind.i64.wrap ((IntKind.u64.wrap (IntKind.i64.wrap (i33+j34))).fdiv (2 ^ (min (1:Int).toNat 64))))+1)) j34 w40/\M30 (IntKind.i64.wrap ((IntKind.i64.wrap ((IntKind.u64.wrap (IntKind.i64.wrap (i33+j34))).fdiv (2 ^ (min (1:Int).toNat 64))))+1)) j34 w40<M30 i33 j34 w31)) else ((I29 i33 (IntKind.i64.wrap ((IntKind.u64.wrap (IntKind.i64.wrap (i33+j34))).fdiv (2 ^ (min (1:Int).toNat 64)))) w40/\M30 i33 (IntKind.i64.wrap ((IntKind.u64.wrap (IntKind.i64.wrap (i33+j34))).fdiv (2 ^ (min (1:Int).toNat 64)))) w40<M30 i33 j34 w31))) w31) else (∃ (I43:Int ->World ->Prop) (M44:Int ->World ->Nat),I43 m w31/\∀ _u46:Nat ->Value,∀ k47 w45,I43 k47 w45 ->bif (decide (k47>i33)) then (Dr (fun w48=>elAt data.p data.n (IntKind.i64.wrap (k47 - 1)) 1 fun a49=>∃ x50,w48.cell? a49=some (Iv x50)/\elAt data.p data.n k47 1 fun a51=>∃ x52,w48.cell? a51=some (Iv x52)/\elAt data.p data.n k47 1 fun a53=>St a53 (Iv x50) (fun w54=>elAt data.p data.n (IntKind.i64.wrap (k47 - 1)) 1 fun a55=>St a55 (Iv x52) (fun w56=>(I43 (IntKind.i64.wrap (k47 - 1)) w56/\M44 (IntKind.i64.wrap (k47 - 1)) w56<M44 k47 w45)) w54) w48) w45) else (K (.tuple #[]) w45))) else (0<=(1:Int)/\∃ J57:Int ->Int ->World ->Prop,(bif (decide (m>(IntKind.i64.wrap ((IntKind.u64.wrap (IntKind.i64.wrap (a+b))).fdiv (2 ^ (min (1:Int).toNat 64)))))) then (J57 (IntKind.i64.wrap ((IntKind.i64.wrap ((IntKind.i64.wrap ((IntKind.u64.wrap (IntKind.i64.wrap (a+b))).fdiv (2 ^ (min (1:Int).toNat 64))))+m)) - b)) (IntKind.i64.wrap ((IntKind.u64.wrap (IntKind.i64.wrap (a+b))).fdiv (2 ^ (min (1:Int).toNat 64)))) w) else (J57 a m w))/\(∀ _u59:Nat ->Value,∀ start60:Int,∀ r61:Int,∀ w58:World,J57 start60 r61 w58 ->∃ (I62:Int ->Int ->World ->Prop) (M63:Int ->Int ->World ->Nat),I62 start60 r61 w58/\∀ _u65:Nat ->Value,∀ start66:Int,∀ r67:Int,∀ w64:World,I62 start66 r67 w64 ->bif (decide (start66<r67)) then (0<=(1:Int)/\Dr (fun w68=>elAt data.p data.n (IntKind.i64.wrap ((IntKind.i64.wrap ((IntKind.i64.wrap ((IntKind.i64.wrap ((IntKind.u64.wrap (IntKind.i64.wrap (a+b))).fdiv (2 ^ (min (1:Int).toNat 64))))+m)) - 1)) - (IntKind.i64.wrap ((IntKind.u64.wrap (IntKind.i64.wrap (start66+r67))).fdiv (2 ^ (min (1:Int).toNat 64)))))) 1 fun a69=>∃ x70,w68.cell? a69=some (Iv x70)/\elAt data.p data.n (IntKind.i64.wrap ((IntKind.u64.wrap (IntKind.i64.wrap (start66+r67))).fdiv (2 ^ (min (1:Int).toNat 64)))) 1 fun a71=>∃ x72,w68.cell? a71=some (Iv x72)/\abo P cmp #[(Iv x70),(Iv x72)] w68 fun e74 w73=>∃ x75,e74= .returned (Iv x75)/\bif (!(decide (x75<0))) then ((I62 (IntKind.i64.wrap ((IntKind.i64.wrap ((IntKind.u64.wrap (IntKind.i64.wrap (start66+r67))).fdiv (2 ^ (min (1:Int).toNat 64))))+1)) r67 w73/\M63 (IntKind.i64.wrap ((IntKind.i64.wrap ((IntKind.u64.wrap (IntKind.i64.wrap (start66+r67))).fdiv (2 ^ (min (1:Int).toNat 64))))+1)) r67 w73<M63 start66 r67 w64)) else ((I62 start66 (IntKind.i64.wrap ((IntKind.u64.wrap (IntKind.i64.wrap (start66+r67))).fdiv (2 ^ (min (1:Int).toNat 64)))) w73/\M63 start66 (IntKind.i64.wrap ((IntKind.u64.wrap (IntKind.i64.wrap (start66+r67))).fdiv (2 ^ (min (1:Int).toNat 64)))) w73<M63 start66 r67 w64))) w64) else (∃ J76:World ->Prop,(∃ J79:Bool ->World ->Prop,(bif (decide (start66<m)) then (J79 (decide (m<(IntKind.i64.wrap ((IntKind.i64.wrap ((IntKind.i64.wrap ((IntKind.u64.wrap (IntKind.i64.wrap (a+b))).fdiv (2 ^ (min (1:Int).toNat 64))))+m)) - start66)))) w64) else (J79 false w64))/\(∀ _u81:Nat ->Value,∀ x82 w80,J79 x82 w80 ->bif x82 then (Calls P aeb #[(Sv data),(Iv start66),(Iv m),(Iv (IntKind.i64.wrap ((IntKind.i64.wrap ((IntKind.i64.wrap ((IntKind.u64.wrap (IntKind.i64.wrap (a+b))).fdiv (2 ^ (min (1:Int).toNat 64))))+m)) - start66))),cmp] w80 fun e84 w83=>e84= .returned (.tuple #[])/\J76 w83) else (J76 w80)))/\(∀ _u78:Nat ->Value,∀ w77:World,J76 w77 ->∃ J85:World ->Prop,(∃ J88:Bool ->World ->Prop,(bif (decide (a<start66)) then (J88 (decide (start66<(IntKind.i64.wrap ((IntKind.u64.wrap (IntKind.i64.wrap (a+b))).fdiv (2 ^ (min (1:Int).toNat 64)))))) w77) else (J88 false w77))/\(∀ _u90:Nat ->Value,∀ x91 w89,J88 x91 w89 ->bif x91 then (Calls P abu #[(Sv data),(Iv a),(Iv start66),(Iv (IntKind.i64.wrap ((IntKind.u64.wrap (IntKind.i64.wrap (a+b))).fdiv (2 ^ (min (1:Int).toNat 64))))),cmp] w89 fun e93 w92=>e93= .returned (.tuple #[])/\J85 w92) else (J85 w89)))/\(∀ _u87:Nat ->Value,∀ w86:World,J85 w86 ->∃ J94:Bool ->World ->Prop,(bif (decide ((IntKind.i64.wrap ((IntKind.u64.wrap (IntKind.i64.wrap (a+b))).fdiv (2 ^ (min (1:Int).toNat 64))))<(IntKind.i64.wrap ((IntKind.i64.wrap ((IntKind.i64.wrap ((IntKind.u64.wrap (IntKind.i64.wrap (a+b))).fdiv (2 ^ (min (1:Int).toNat 64))))+m)) - start66)))) then (J94 (decide ((IntKind.i64.wrap ((IntKind.i64.wrap ((IntKind.i64.wrap ((IntKind.u64.wrap (IntKind.i64.wrap (a+b))).fdiv (2 ^ (min (1:Int).toNat 64))))+m)) - start66))<b)) w86) else (J94 false w86))/\(∀ _u96:Nat ->Value,∀ x97 w95,J94 x97 w95 ->bif x97 then (Calls P abu #[(Sv data),(Iv (IntKind.i64.wrap ((IntKind.u64.wrap (IntKind.i64.wrap (a+b))).fdiv (2 ^ (min (1:Int).toNat 64))))),(Iv (IntKind.i64.wrap ((IntKind.i64.wrap ((IntKind.i64.wrap ((IntKind.u64.wrap (IntKind.i64.wrap (a+b))).fdiv (2 ^ (min (1:Int).toNat 64))))+m)) - start66))),(Iv b),cmp] w95 fun e99 w98=>e99= .returned (.tuple #[])/\K (.tuple #[]) w98) else (K (.tuple #[]) w95))))))))
theorem ajQ (data:Sl) (a:Int) (m:Int) (b:Int) (cmp:Value) (h:afA data a m b cmp K w):Calls P abu #[(Sv data),(Iv a),(Iv m),(Iv b),cmp] w (Ret K):=ofVc (A:=ai8) Tryz.func288 (by kernel_rfl) (by kernel_rfl) h
def ay8:Ann:= {quiet:=fun d=> [22,24,25,28,30,39,42,45,49,51,52,55,56,57].contains d,loop:=fun r=>(bif r==6 then [(8,.int .u64),(9,.int .u64),(29,.int .i64)] else []),join:=fun r=>(bif r==4 then some [] else bif r==11 then some [] else none)}
def ash (widths:Sl) (values:Sl) (K:Value ->World ->Prop) (w:World):Prop:=
 ∃ J1:World ->Prop,(Calls P aiy #[(Sv widths)] w fun e5 w4=>∃ x6:Int,∃ x7:Bool,e5= .returned (.tuple #[(Iv x6),(.bool x7)])/\bif (!x7) then (K (.tuple #[(.int .u64 0),(Iv 1)]) w4) else (bif (((values.n:Nat):Int) !=((widths.n:Nat):Int)) then (K (.tuple #[(.int .u64 0),(Iv 1)]) w4) else (J1 w4)))/\(∀ _u3:Nat ->Value,∀ w2:World,J1 w2 ->∃ (I8:Int ->Int ->Int ->World ->Prop) (M9:Int ->Int ->Int ->World ->Nat),I8 0 0 0 w2/\∀ _u11:Nat ->Value,∀ x12:Int,∀ low13:Int,∀ x14:Int,∀ w10:World,I8 x12 low13 x14 w10 ->bif (decide (x14<((widths.n:Nat):Int))) then (elAt widths.p widths.n x14 1 fun a15=>∃ x16,w10.cell? a15=some (Iv x16)/\elAt values.p values.n x14 1 fun a17=>∃ x18,w10.cell? a17=some (Iv x18)/\∃ J19:World ->Prop,(bif (decide (x18<0)) then (K (.tuple #[(.int .u64 0),(Iv 1)]) w10) else (Calls P ajg #[(Iv x16)] w10 fun e23 w22=>∃ x24:Int,e23= .returned (.int .u64 x24)/\bif (decide ((IntKind.u64.wrap x18)>x24)) then (K (.tuple #[(.int .u64 0),(Iv 1)]) w22) else (J19 w22)))/\(∀ _u21:Nat ->Value,∀ w20:World,J19 w20 ->0<=low13/\(I8 (orI .u64 x12 (IntKind.u64.wrap ((IntKind.u64.wrap x18)*2 ^ (min low13.toNat 64)))) (IntKind.u64.wrap (low13+(IntKind.u64.wrap x16))) (IntKind.i64.wrap (x14+1)) w20/\M9 (orI .u64 x12 (IntKind.u64.wrap ((IntKind.u64.wrap x18)*2 ^ (min low13.toNat 64)))) (IntKind.u64.wrap (low13+(IntKind.u64.wrap x16))) (IntKind.i64.wrap (x14+1)) w20<M9 x12 low13 x14 w10))) else (K (.tuple #[(.int .u64 x12),(Iv 0)]) w10))
theorem aBL (widths:Sl) (values:Sl) (h:ash widths values K w):Calls P amt #[(Sv widths),(Sv values)] w (Ret K):=ofVc (A:=ay8) Tryz.func289 (by kernel_rfl) (by kernel_rfl) h
def afM:Ann:= {quiet:=fun d=> [11,14,16,20,29,33,36,41,44].contains d,dyn:=fun d=> [32].contains d,sig:=fun r=>(bif r==4 then some ([0,1,2,3,4,5,6,7,8,9,10,11,12,13,14,15,16],[14]) else bif r==6 then some ([0,1,2,3,4,5,6,7,8,9,10,11,12,13,14,15,16,17],[15,17]) else none),loop:=fun r=>(bif r==1 then [(8,.int .i64)] else bif r==4 then [(9,.int .i64)] else []),join:=fun r=>(bif r==6 then some [] else none)}
def adf (data:Sl) (a:Int) (b:Int) (cmp:Value) (K:Value ->World ->Prop) (w:World):Prop:=
 ∃ (I1:Int ->World ->Prop) (M2:Int ->World ->Nat),I1 (IntKind.i64.wrap (a+1)) w/\∀ _u4:Nat ->Value,∀ i5 w3,I1 i5 w3 ->bif (decide (i5<b)) then (∃ (I6:Int ->World ->Prop) (M7:Int ->World ->Nat),I6 i5 w3/\∀ _u9:Nat ->Value,∀ j10 w8,I6 j10 w8 ->∃ J11:World ->Prop,(Dr (fun w14=>bif (decide (j10>a)) then (elAt data.p data.n j10 2 fun a15=>∃ x16,w14.cell? (a15.add 0)=some (Iv x16)/\∃ x17:Int,w14.cell? (a15.add 1)=some (.int .u64 x17)/\elAt data.p data.n (IntKind.i64.wrap (j10 - 1)) 2 fun a18=>∃ x19,w14.cell? (a18.add 0)=some (Iv x19)/\∃ x20:Int,w14.cell? (a18.add 1)=some (.int .u64 x20)/\abo P cmp #[(.agg #[(Iv x16),(.int .u64 x17)]),(.agg #[(Iv x19),(.int .u64 x20)])] w14 fun e22 w21=>∃ x23,e22= .returned (Iv x23)/\bif (decide (x23<0)) then (J11 w21) else ((I1 (IntKind.i64.wrap (i5+1)) w21/\M2 (IntKind.i64.wrap (i5+1)) w21<M2 i5 w3))) else ((I1 (IntKind.i64.wrap (i5+1)) w14/\M2 (IntKind.i64.wrap (i5+1)) w14<M2 i5 w3))) w8)/\(∀ _u13:Nat ->Value,∀ w12:World,J11 w12 ->Dr (fun w24=>elAt data.p data.n (IntKind.i64.wrap (j10 - 1)) 2 fun a25=>∃ x26,w24.cell? (a25.add 0)=some (Iv x26)/\∃ x27:Int,w24.cell? (a25.add 1)=some (.int .u64 x27)/\elAt data.p data.n j10 2 fun a28=>∃ x29,w24.cell? (a28.add 0)=some (Iv x29)/\∃ x30:Int,w24.cell? (a28.add 1)=some (.int .u64 x30)/\elAt data.p data.n j10 2 fun a31=>StN [(Iv x26),(.int .u64 x27)] a31 (fun w32=>elAt data.p data.n (IntKind.i64.wrap (j10 - 1)) 2 fun a33=>StN [(Iv x29),(.int .u64 x30)] a33 (fun w34=>(I6 (IntKind.i64.wrap (j10 - 1)) w34/\M7 (IntKind.i64.wrap (j10 - 1)) w34<M7 j10 w8)) w32) w24) w12)) else (K (.tuple #[]) w3)
theorem af9 (data:Sl) (a:Int) (b:Int) (cmp:Value) (h:adf data a b cmp K w):Calls P abp #[(Sv data),(Iv a),(Iv b),cmp] w (Ret K):=ofVc (A:=afM) Tryz.func291 (by kernel_rfl) (by kernel_rfl) h
def ahl:Ann:= {quiet:=fun d=> [27,28,33,36,37,38,39,50,52,57,58,60,65,68,79,80,85,88,89,90,91,102,105,110,112,117,120,131,132,133,134,137,140,143,148,151,154,155,156,157,162,170,173,177,180,184,194,198,208,212].contains d,dyn:=fun d=> [49,101,169].contains d,sig:=fun r=>(bif r==5 then some ([0,1,2,3,4,5,6,7,8,9,10],[9]) else bif r==11 then some ([0,1,2,3,4,5,6,7,8,9,10,11,12,13,14,15,16,17],[15,17]) else bif r==17 then some ([0,1,2,3,4,5,6,7,8,9,10,11],[9]) else bif r==23 then some ([0,1,2,3,4,5,6,7,8,9,10,11,12,13,14,15,16,17],[15,17]) else bif r==35 then some ([0,1,2,3,4,5,6,7,8,9,10,11,12,13],[11]) else none),loop:=fun r=>(bif r==3 then [(10,.int .i64),(11,.int .i64)] else bif r==9 then [(13,.int .i64)] else bif r==15 then [(14,.int .i64),(15,.int .i64)] else bif r==21 then [(17,.int .i64)] else bif r==33 then [(20,.int .i64),(21,.int .i64)] else []),join:=fun r=>(bif r==32 then some [(20,.int .i64),(21,.int .i64)] else bif r==40 then some [(185,.bool)] else bif r==41 then some [] else bif r==42 then some [(199,.bool)] else bif r==43 then some [] else bif r==44 then some [(213,.bool)] else none)}
def aej (data:Sl) (a:Int) (m:Int) (b:Int) (cmp:Value) (K:Value ->World ->Prop) (w:World):Prop:=
 bif ((IntKind.i64.wrap (m - a))==1) then (∃ (I1:Int ->Int ->World ->Prop) (M2:Int ->Int ->World ->Nat),I1 m b w/\∀ _u4:Nat ->Value,∀ i5:Int,∀ j6:Int,∀ w3:World,I1 i5 j6 w3 ->bif (decide (i5<j6)) then (0<=(1:Int)/\Dr (fun w7=>elAt data.p data.n (IntKind.i64.wrap ((IntKind.u64.wrap (IntKind.i64.wrap (i5+j6))).fdiv (2 ^ (min (1:Int).toNat 64)))) 2 fun a8=>∃ x9,w7.cell? (a8.add 0)=some (Iv x9)/\∃ x10:Int,w7.cell? (a8.add 1)=some (.int .u64 x10)/\elAt data.p data.n a 2 fun a11=>∃ x12,w7.cell? (a11.add 0)=some (Iv x12)/\∃ x13:Int,w7.cell? (a11.add 1)=some (.int .u64 x13)/\abo P cmp #[(.agg #[(Iv x9),(.int .u64 x10)]),(.agg #[(Iv x12),(.int .u64 x13)])] w7 fun e15 w14=>∃ x16,e15= .returned (Iv x16)/\bif (decide (x16<0)) then ((I1 (IntKind.i64.wrap ((IntKind.i64.wrap ((IntKind.u64.wrap (IntKind.i64.wrap (i5+j6))).fdiv (2 ^ (min (1:Int).toNat 64))))+1)) j6 w14/\M2 (IntKind.i64.wrap ((IntKind.i64.wrap ((IntKind.u64.wrap (IntKind.i64.wrap (i5+j6))).fdiv (2 ^ (min (1:Int).toNat 64))))+1)) j6 w14<M2 i5 j6 w3)) else ((I1 i5 (IntKind.i64.wrap ((IntKind.u64.wrap (IntKind.i64.wrap (i5+j6))).fdiv (2 ^ (min (1:Int).toNat 64)))) w14/\M2 i5 (IntKind.i64.wrap ((IntKind.u64.wrap (IntKind.i64.wrap (i5+j6))).fdiv (2 ^ (min (1:Int).toNat 64)))) w14<M2 i5 j6 w3))) w3) else (∃ (I17:Int ->World ->Prop) (M18:Int ->World ->Nat),I17 a w3/\∀ _u20:Nat ->Value,∀ k21 w19,I17 k21 w19 ->bif (decide (k21<(IntKind.i64.wrap (i5 - 1)))) then (Dr (fun w22=>elAt data.p data.n (IntKind.i64.wrap (k21+1)) 2 fun a23=>∃ x24,w22.cell? (a23.add 0)=some (Iv x24)/\∃ x25:Int,w22.cell? (a23.add 1)=some (.int .u64 x25)/\elAt data.p data.n k21 2 fun a26=>∃ x27,w22.cell? (a26.add 0)=some (Iv x27)/\∃ x28:Int,w22.cell? (a26.add 1)=some (.int .u64 x28)/\elAt data.p data.n k21 2 fun a29=>StN [(Iv x24),(.int .u64 x25)] a29 (fun w30=>elAt data.p data.n (IntKind.i64.wrap (k21+1)) 2 fun a31=>StN [(Iv x27),(.int .u64 x28)] a31 (fun w32=>(I17 (IntKind.i64.wrap (k21+1)) w32/\M18 (IntKind.i64.wrap (k21+1)) w32<M18 k21 w19)) w30) w22) w19) else (K (.tuple #[]) w19))) else (bif ((IntKind.i64.wrap (b - m))==1) then (∃ (I33:Int ->Int ->World ->Prop) (M34:Int ->Int ->World ->Nat),I33 a m w/\∀ _u36:Nat ->Value,∀ i37:Int,∀ j38:Int,∀ w35:World,I33 i37 j38 w35 ->bif (decide (i37<j38)) then (0<=(1:Int)/\Dr (fun w39=>elAt data.p data.n m 2 fun a40=>∃ x41,w39.cell? (a40.add 0)=some (Iv x41)/\∃ x42:Int,w39.cell? (a40.add 1)=some (.int .u64 x42)/\elAt data.p data.n (IntKind.i64.wrap ((IntKind.u64.wrap (IntKind.i64.wrap (i37+j38))).fdiv (2 ^ (min (1:Int).toNat 64)))) 2 fun a43=>∃ x44,w39.cell? (a43.add 0)=some (Iv x44)/\∃ x45:Int,w39.cell? (a43.add 1)=some (.int .u64 x45)/\abo P cmp #[(.agg #[(Iv x41),(.int .u64 x42)]),(.agg #[(Iv x44),(.int .u64 x45)])] w39 fun e47 w46=>∃ x48,e47= .returned (Iv x48)/\bif (!(decide (x48<0))) then ((I33 (IntKind.i64.wrap ((IntKind.i64.wrap ((IntKind.u64.wrap (IntKind.i64.wrap (i37+j38))).fdiv (2 ^ (min (1:Int).toNat 64))))+1)) j38 w46/\M34 (IntKind.i64.wrap ((IntKind.i64.wrap ((IntKind.u64.wrap (IntKind.i64.wrap (i37+j38))).fdiv (2 ^ (min (1:Int).toNat 64))))+1)) j38 w46<M34 i37 j38 w35)) else ((I33 i37 (IntKind.i64.wrap ((IntKind.u64.wrap (IntKind.i64.wrap (i37+j38))).fdiv (2 ^ (min (1:Int).toNat 64)))) w46/\M34 i37 (IntKind.i64.wrap ((IntKind.u64.wrap (IntKind.i64.wrap (i37+j38))).fdiv (2 ^ (min (1:Int).toNat 64)))) w46<M34 i37 j38 w35))) w35) else (∃ (I49:Int ->World ->Prop) (M50:Int ->World ->Nat),I49 m w35/\∀ _u52:Nat ->Value,∀ k53 w51,I49 k53 w51 ->bif (decide (k53>i37)) then (Dr (fun w54=>elAt data.p data.n (IntKind.i64.wrap (k53 - 1)) 2 fun a55=>∃ x56,w54.cell? (a55.add 0)=some (Iv x56)/\∃ x57:Int,w54.cell? (a55.add 1)=some (.int .u64 x57)/\elAt data.p data.n k53 2 fun a58=>∃ x59,w54.cell? (a58.add 0)=some (Iv x59)/\∃ x60:Int,w54.cell? (a58.add 1)=some (.int .u64 x60)/\elAt data.p data.n k53 2 fun a61=>StN [(Iv x56),(.int .u64 x57)] a61 (fun w62=>elAt data.p data.n (IntKind.i64.wrap (k53 - 1)) 2 fun a63=>StN [(Iv x59),(.int .u64 x60)] a63 (fun w64=>(I49 (IntKind.i64.wrap (k53 - 1)) w64/\M50 (IntKind.i64.wrap (k53 - 1)) w64<M50 k53 w51)) w62) w54) w51) else (K (.tuple #[]) w51))) else (0<=(1:Int)/\∃ J65:Int ->Int ->World ->Prop,(bif (decide (m>(IntKind.i64.wrap ((IntKind.u64.wrap (IntKind.i64.wrap (a+b))).fdiv (2 ^ (min (1:Int).toNat 64)))))) then (J65 (IntKind.i64.wrap ((IntKind.i64.wrap ((IntKind.i64.wrap ((IntKind.u64.wrap (IntKind.i64.wrap (a+b))).fdiv (2 ^ (min (1:Int).toNat 64))))+m)) - b)) (IntKind.i64.wrap ((IntKind.u64.wrap (IntKind.i64.wrap (a+b))).fdiv (2 ^ (min (1:Int).toNat 64)))) w) else (J65 a m w))/\(∀ _u67:Nat ->Value,∀ start68:Int,∀ r69:Int,∀ w66:World,J65 start68 r69 w66 ->∃ (I70:Int ->Int ->World ->Prop) (M71:Int ->Int ->World ->Nat),I70 start68 r69 w66/\∀ _u73:Nat ->Value,∀ start74:Int,∀ r75:Int,∀ w72:World,I70 start74 r75 w72 ->bif (decide (start74<r75)) then (0<=(1:Int)/\Dr (fun w76=>elAt data.p data.n (IntKind.i64.wrap ((IntKind.i64.wrap ((IntKind.i64.wrap ((IntKind.i64.wrap ((IntKind.u64.wrap (IntKind.i64.wrap (a+b))).fdiv (2 ^ (min (1:Int).toNat 64))))+m)) - 1)) - (IntKind.i64.wrap ((IntKind.u64.wrap (IntKind.i64.wrap (start74+r75))).fdiv (2 ^ (min (1:Int).toNat 64)))))) 2 fun a77=>∃ x78,w76.cell? (a77.add 0)=some (Iv x78)/\∃ x79:Int,w76.cell? (a77.add 1)=some (.int .u64 x79)/\elAt data.p data.n (IntKind.i64.wrap ((IntKind.u64.wrap (IntKind.i64.wrap (start74+r75))).fdiv (2 ^ (min (1:Int).toNat 64)))) 2 fun a80=>∃ x81,w76.cell? (a80.add 0)=some (Iv x81)/\∃ x82:Int,w76.cell? (a80.add 1)=some (.int .u64 x82)/\abo P cmp #[(.agg #[(Iv x78),(.int .u64 x79)]),(.agg #[(Iv x81),(.int .u64 x82)])] w76 fun e84 w83=>∃ x85,e84= .returned (Iv x85)/\bif (!(decide (x85<0))) then ((I70 (IntKind.i64.wrap ((IntKind.i64.wrap ((IntKind.u64.wrap (IntKind.i64.wrap (start74+r75))).fdiv (2 ^ (min (1:Int).toNat 64))))+1)) r75 w83/\M71 (IntKind.i64.wrap ((IntKind.i64.wrap ((IntKind.u64.wrap (IntKind.i64.wrap (start74+r75))).fdiv (2 ^ (min (1:Int).toNat 64))))+1)) r75 w83<M71 start74 r75 w72)) else ((I70 start74 (IntKind.i64.wrap ((IntKind.u64.wrap (IntKind.i64.wrap (start74+r75))).fdiv (2 ^ (min (1:Int).toNat 64)))) w83/\M71 start74 (IntKind.i64.wrap ((IntKind.u64.wrap (IntKind.i64.wrap (start74+r75))).fdiv (2 ^ (min (1:Int).toNat 64)))) w83<M71 start74 r75 w72))) w72) else (∃ J86:World ->Prop,(∃ J89:Bool ->World ->Prop,(bif (decide (start74<m)) then (J89 (decide (m<(IntKind.i64.wrap ((IntKind.i64.wrap ((IntKind.i64.wrap ((IntKind.u64.wrap (IntKind.i64.wrap (a+b))).fdiv (2 ^ (min (1:Int).toNat 64))))+m)) - start74)))) w72) else (J89 false w72))/\(∀ _u91:Nat ->Value,∀ x92 w90,J89 x92 w90 ->bif x92 then (Calls P acH #[(Sv data),(Iv start74),(Iv m),(Iv (IntKind.i64.wrap ((IntKind.i64.wrap ((IntKind.i64.wrap ((IntKind.u64.wrap (IntKind.i64.wrap (a+b))).fdiv (2 ^ (min (1:Int).toNat 64))))+m)) - start74))),cmp] w90 fun e94 w93=>e94= .returned (.tuple #[])/\J86 w93) else (J86 w90)))/\(∀ _u88:Nat ->Value,∀ w87:World,J86 w87 ->∃ J95:World ->Prop,(∃ J98:Bool ->World ->Prop,(bif (decide (a<start74)) then (J98 (decide (start74<(IntKind.i64.wrap ((IntKind.u64.wrap (IntKind.i64.wrap (a+b))).fdiv (2 ^ (min (1:Int).toNat 64)))))) w87) else (J98 false w87))/\(∀ _u100:Nat ->Value,∀ x101 w99,J98 x101 w99 ->bif x101 then (Calls P aa2 #[(Sv data),(Iv a),(Iv start74),(Iv (IntKind.i64.wrap ((IntKind.u64.wrap (IntKind.i64.wrap (a+b))).fdiv (2 ^ (min (1:Int).toNat 64))))),cmp] w99 fun e103 w102=>e103= .returned (.tuple #[])/\J95 w102) else (J95 w99)))/\(∀ _u97:Nat ->Value,∀ w96:World,J95 w96 ->∃ J104:Bool ->World ->Prop,(bif (decide ((IntKind.i64.wrap ((IntKind.u64.wrap (IntKind.i64.wrap (a+b))).fdiv (2 ^ (min (1:Int).toNat 64))))<(IntKind.i64.wrap ((IntKind.i64.wrap ((IntKind.i64.wrap ((IntKind.u64.wrap (IntKind.i64.wrap (a+b))).fdiv (2 ^ (min (1:Int).toNat 64))))+m)) - start74)))) then (J104 (decide ((IntKind.i64.wrap ((IntKind.i64.wrap ((IntKind.i64.wrap ((IntKind.u64.wrap (IntKind.i64.wrap (a+b))).fdiv (2 ^ (min (1:Int).toNat 64))))+m)) - start74))<b)) w96) else (J104 false w96))/\(∀ _u106:Nat ->Value,∀ x107 w105,J104 x107 w105 ->bif x107 then (Calls P aa2 #[(Sv data),(Iv (IntKind.i64.wrap ((IntKind.u64.wrap (IntKind.i64.wrap (a+b))).fdiv (2 ^ (min (1:Int).toNat 64))))),(Iv (IntKind.i64.wrap ((IntKind.i64.wrap ((IntKind.i64.wrap ((IntKind.u64.wrap (IntKind.i64.wrap (a+b))).fdiv (2 ^ (min (1:Int).toNat 64))))+m)) - start74))),(Iv b),cmp] w105 fun e109 w108=>e109= .returned (.tuple #[])/\K (.tuple #[]) w108) else (K (.tuple #[]) w105))))))))
theorem ahE (data:Sl) (a:Int) (m:Int) (b:Int) (cmp:Value) (h:aej data a m b cmp K w):Calls P aa2 #[(Sv data),(Iv a),(Iv m),(Iv b),cmp] w (Ret K):=ofVc (A:=ahl) Tryz.func292 (by kernel_rfl) (by kernel_rfl) h
def akd:Ann:= {quiet:=fun d=> [14,17,20,23,27,34,38,41,43,49,53].contains d,loop:=fun r=>(bif r==2 then [(10,.int .i64),(11,.int .i64)] else [])}
def agl (data:Sl) (a:Int) (m:Int) (b:Int) (cmp:Value) (K:Value ->World ->Prop) (w:World):Prop:=
 ∃ (I1:Int ->Int ->World ->Prop) (M2:Int ->Int ->World ->Nat),I1 (IntKind.i64.wrap (m - a)) (IntKind.i64.wrap (b - m)) w/\∀ _u4:Nat ->Value,∀ i5:Int,∀ j6:Int,∀ w3:World,I1 i5 j6 w3 ->bif (i5 !=j6) then (bif (decide (i5>j6)) then (Calls P abM #[(Sv data),(Iv (IntKind.i64.wrap (m - i5))),(Iv m),(Iv j6),cmp] w3 fun e8 w7=>e8= .returned (.tuple #[])/\(I1 (IntKind.i64.wrap (i5 - j6)) j6 w7/\M2 (IntKind.i64.wrap (i5 - j6)) j6 w7<M2 i5 j6 w3)) else (Calls P abM #[(Sv data),(Iv (IntKind.i64.wrap (m - i5))),(Iv (IntKind.i64.wrap ((IntKind.i64.wrap (m+j6)) - i5))),(Iv i5),cmp] w3 fun e10 w9=>e10= .returned (.tuple #[])/\(I1 i5 (IntKind.i64.wrap (j6 - i5)) w9/\M2 i5 (IntKind.i64.wrap (j6 - i5)) w9<M2 i5 j6 w3))) else (Calls P abM #[(Sv data),(Iv (IntKind.i64.wrap (m - i5))),(Iv m),(Iv i5),cmp] w3 fun e12 w11=>e12= .returned (.tuple #[])/\K (.tuple #[]) w11)
theorem akY (data:Sl) (a:Int) (m:Int) (b:Int) (cmp:Value) (h:agl data a m b cmp K w):Calls P aeb #[(Sv data),(Iv a),(Iv m),(Iv b),cmp] w (Ret K):=ofVc (A:=akd) Tryz.func304 (by kernel_rfl) (by kernel_rfl) h
def ahU:Ann:= {quiet:=fun d=> [14,17,20,23,27,34,38,41,43,49,53].contains d,loop:=fun r=>(bif r==2 then [(10,.int .i64),(11,.int .i64)] else [])}
def aez (data:Sl) (a:Int) (m:Int) (b:Int) (cmp:Value) (K:Value ->World ->Prop) (w:World):Prop:=
 ∃ (I1:Int ->Int ->World ->Prop) (M2:Int ->Int ->World ->Nat),I1 (IntKind.i64.wrap (m - a)) (IntKind.i64.wrap (b - m)) w/\∀ _u4:Nat ->Value,∀ i5:Int,∀ j6:Int,∀ w3:World,I1 i5 j6 w3 ->bif (i5 !=j6) then (bif (decide (i5>j6)) then (Calls P abf #[(Sv data),(Iv (IntKind.i64.wrap (m - i5))),(Iv m),(Iv j6),cmp] w3 fun e8 w7=>e8= .returned (.tuple #[])/\(I1 (IntKind.i64.wrap (i5 - j6)) j6 w7/\M2 (IntKind.i64.wrap (i5 - j6)) j6 w7<M2 i5 j6 w3)) else (Calls P abf #[(Sv data),(Iv (IntKind.i64.wrap (m - i5))),(Iv (IntKind.i64.wrap ((IntKind.i64.wrap (m+j6)) - i5))),(Iv i5),cmp] w3 fun e10 w9=>e10= .returned (.tuple #[])/\(I1 i5 (IntKind.i64.wrap (j6 - i5)) w9/\M2 i5 (IntKind.i64.wrap (j6 - i5)) w9<M2 i5 j6 w3))) else (Calls P abf #[(Sv data),(Iv (IntKind.i64.wrap (m - i5))),(Iv m),(Iv i5),cmp] w3 fun e12 w11=>e12= .returned (.tuple #[])/\K (.tuple #[]) w11)
theorem aij (data:Sl) (a:Int) (m:Int) (b:Int) (cmp:Value) (h:aez data a m b cmp K w):Calls P acH #[(Sv data),(Iv a),(Iv m),(Iv b),cmp] w (Ret K):=ofVc (A:=ahU) Tryz.func305 (by kernel_rfl) (by kernel_rfl) h
def ai3:Ann:= {quiet:=fun d=> [13,15,19,23,27,33].contains d,sig:=fun r=>(bif r==3 then some ([0,1,2,3,4,5,6,7,8,9,10,11,12,13,14,15,16,17,18,19,20,21,22,23],[21,23]) else none),loop:=fun r=>(bif r==1 then [(10,.int .i64)] else [])}
def afv (data:Sl) (a:Int) (b:Int) (n:Int) (cmp:Value) (K:Value ->World ->Prop) (w:World):Prop:=
 ∃ (I1:Int ->World ->Prop) (M2:Int ->World ->Nat),I1 0 w/\∀ _u4:Nat ->Value,∀ i5 w3,I1 i5 w3 ->bif (decide (i5<n)) then (Dr (fun w6=>elAt data.p data.n (IntKind.i64.wrap (b+i5)) 1 fun a7=>∃ x8,w6.cell? a7=some (Iv x8)/\elAt data.p data.n (IntKind.i64.wrap (a+i5)) 1 fun a9=>∃ x10,w6.cell? a9=some (Iv x10)/\elAt data.p data.n (IntKind.i64.wrap (a+i5)) 1 fun a11=>St a11 (Iv x8) (fun w12=>elAt data.p data.n (IntKind.i64.wrap (b+i5)) 1 fun a13=>St a13 (Iv x10) (fun w14=>(I1 (IntKind.i64.wrap (i5+1)) w14/\M2 (IntKind.i64.wrap (i5+1)) w14<M2 i5 w3)) w12) w6) w3) else (K (.tuple #[]) w3)
theorem ajt (data:Sl) (a:Int) (b:Int) (n:Int) (cmp:Value) (h:afv data a b n cmp K w):Calls P abM #[(Sv data),(Iv a),(Iv b),(Iv n),cmp] w (Ret K):=ofVc (A:=ai3) Tryz.func311 (by kernel_rfl) (by kernel_rfl) h
def ag8:Ann:= {quiet:=fun d=> [13,15,19,23,27,33].contains d,sig:=fun r=>(bif r==3 then some ([0,1,2,3,4,5,6,7,8,9,10,11,12,13,14,15,16,17,18,19,20,21,22,23],[21,23]) else none),loop:=fun r=>(bif r==1 then [(10,.int .i64)] else [])}
def adR (data:Sl) (a:Int) (b:Int) (n:Int) (cmp:Value) (K:Value ->World ->Prop) (w:World):Prop:=
 ∃ (I1:Int ->World ->Prop) (M2:Int ->World ->Nat),I1 0 w/\∀ _u4:Nat ->Value,∀ i5 w3,I1 i5 w3 ->bif (decide (i5<n)) then (Dr (fun w6=>elAt data.p data.n (IntKind.i64.wrap (b+i5)) 2 fun a7=>∃ x8,w6.cell? (a7.add 0)=some (Iv x8)/\∃ x9:Int,w6.cell? (a7.add 1)=some (.int .u64 x9)/\elAt data.p data.n (IntKind.i64.wrap (a+i5)) 2 fun a10=>∃ x11,w6.cell? (a10.add 0)=some (Iv x11)/\∃ x12:Int,w6.cell? (a10.add 1)=some (.int .u64 x12)/\elAt data.p data.n (IntKind.i64.wrap (a+i5)) 2 fun a13=>StN [(Iv x8),(.int .u64 x9)] a13 (fun w14=>elAt data.p data.n (IntKind.i64.wrap (b+i5)) 2 fun a15=>StN [(Iv x11),(.int .u64 x12)] a15 (fun w16=>(I1 (IntKind.i64.wrap (i5+1)) w16/\M2 (IntKind.i64.wrap (i5+1)) w16<M2 i5 w3)) w14) w6) w3) else (K (.tuple #[]) w3)
theorem ahm (data:Sl) (a:Int) (b:Int) (n:Int) (cmp:Value) (h:adR data a b n cmp K w):Calls P abf #[(Sv data),(Iv a),(Iv b),(Iv n),cmp] w (Ret K):=ofVc (A:=ag8) Tryz.func312 (by kernel_rfl) (by kernel_rfl) h
end Go.Mp
end
section
set_option maxRecDepth 100000
namespace Go.Mp
open Go Go.Vc
def ajR:Ann:= {quiet:=fun d=> [20,24,27,30,33,36,39,41,43,46,49,50,51,54,56,58,61,65,66,68,72,74,76,77,80,83,85,87,89,92,93,96,100,101,103,107,109,111,112,115,118,120,122,124,126,128,131,132,134].contains d,head:=fun r=>(bif r==6 then 8 else 0),loop:=fun r=>(bif r==17 then [(15,.int .u64),(16,.int .u64)] else bif r==24 then [(16,.int .u64),(18,.int .u64)] else []),join:=fun r=>(bif r==3 then some [] else bif r==5 then some [] else bif r==18 then some [] else bif r==21 then some [(15,.int .u64)] else bif r==25 then some [] else bif r==28 then some [(18,.int .u64)] else none)}
def ahL (hi:Int) (lo:Int) (y:Int) (K:Value ->World ->Prop) (Kp:List PanicEntry ->World ->Prop) (w:World):Prop:=
 ∃ J1:World ->Prop,(bif (y==0) then (∃ x4:Value,w.cell? (⟨0,0,none⟩:Addr)=some x4/\(match x4 with | .iface t v=>Kp [pe (.iface t v)] w | _=>False)) else (J1 w))/\
  (∀ _u3:Nat ->Value,∀ w2:World,J1 w2 ->∃ J5:World ->Prop,(bif (decide (y<=hi)) then (∃ x8:Value,w2.cell? (⟨1,0,none⟩:Addr)=some x8/\(match x8 with
  | .iface t v=>Kp [pe (.iface t v)] w2 | _=>False)) else (J5 w2))/\(∀ _u7:Nat ->Value,∀ w6:World,J5 w6 ->bif (hi==0) then (Dr (fun w9=>y≠0/\y≠0/\K (.tuple
  #[(.int .u64 (IntKind.u64.wrap (lo.tdiv y))),(.int .u64 (lo.tmod y))]) w9) w6) else (Calls P akL #[(.int .u64 y)] w6 fun e11 w10=>∃ x12:Int,e11=
  .returned (Iv x12)/\0<=(IntKind.u64.wrap x12)/\0<=(32:Int)/\0<=(IntKind.u64.wrap x12)/\0<=(IntKind.u64.wrap (64 - (IntKind.u64.wrap x12)))/\0<=
  (IntKind.u64.wrap x12)/\0<=(32:Int)/\((IntKind.u64.wrap (y*2 ^ (min (IntKind.u64.wrap x12).toNat 64))).fdiv (2 ^ (min (32:Int).toNat 64)))≠0/\∃ J13:Int ->World ->
  Prop,(∃ (I17:Int ->Int ->World ->Prop) (M18:Int ->Int ->World ->Nat),I17 (IntKind.u64.wrap ((orI .u64 (IntKind.u64.wrap (hi*2 ^ (min (IntKind.u64.wrap x12).toNat 64)))
  (lo.fdiv (2 ^ (min (IntKind.u64.wrap (64 - (IntKind.u64.wrap x12))).toNat 64)))).tdiv ((IntKind.u64.wrap (y*2 ^ (min (IntKind.u64.wrap x12).toNat 64))).fdiv (2 ^ (min (32:
  Int).toNat 64))))) (IntKind.u64.wrap ((orI .u64 (IntKind.u64.wrap (hi*2 ^ (min (IntKind.u64.wrap x12).toNat 64))) (lo.fdiv (2 ^ (min (IntKind.u64.wrap (64 - (IntKind.u64.wrap
  x12))).toNat 64)))) - (IntKind.u64.wrap ((IntKind.u64.wrap ((orI .u64 (IntKind.u64.wrap (hi*2 ^ (min (IntKind.u64.wrap x12).toNat 64))) (lo.fdiv (2 ^ (min (IntKind.u64.wrap
  (64 - (IntKind.u64.wrap x12))).toNat 64)))).tdiv ((IntKind.u64.wrap (y*2 ^ (min (IntKind.u64.wrap x12).toNat 64))).fdiv (2 ^ (min (32:Int).toNat 64)))))*((IntKind.u64.wrap
  (y*2 ^ (min (IntKind.u64.wrap x12).toNat 64))).fdiv (2 ^ (min (32:Int).toNat 64))))))) w10/\∀ _u20:Nat ->Value,∀ q121:Int,∀ rhat22:Int,∀ w19:World,I17 q121
  rhat22 w19 ->∃ J23:World ->Prop,(bif (decide (q121≥4294967296)) then (J23 w19) else (bif (decide ((IntKind.u64.wrap (q121*(andI .u64 (IntKind.u64.wrap (y*2 ^ (min
  (IntKind.u64.wrap x12).toNat 64))) 4294967295)))>(IntKind.u64.wrap ((IntKind.u64.wrap (4294967296*rhat22))+((IntKind.u64.wrap (lo*2 ^ (min (IntKind.u64.wrap x12).toNat
  64))).fdiv (2 ^ (min (32:Int).toNat 64))))))) then (J23 w19) else (J13 q121 w19)))/\(∀ _u25:Nat ->Value,∀ w24:World,J23 w24 ->bif (decide ((IntKind.u64.wrap (rhat22+
  ((IntKind.u64.wrap (y*2 ^ (min (IntKind.u64.wrap x12).toNat 64))).fdiv (2 ^ (min (32:Int).toNat 64)))))≥4294967296)) then (J13 (IntKind.u64.wrap (q121 - 1)) w24) else
  ((I17 (IntKind.u64.wrap (q121 - 1)) (IntKind.u64.wrap (rhat22+((IntKind.u64.wrap (y*2 ^ (min (IntKind.u64.wrap x12).toNat 64))).fdiv (2 ^ (min (32:Int).toNat 64))))) w24/\
  M18 (IntKind.u64.wrap (q121 - 1)) (IntKind.u64.wrap (rhat22+((IntKind.u64.wrap (y*2 ^ (min (IntKind.u64.wrap x12).toNat 64))).fdiv (2 ^ (min (32:Int).toNat 64))))) w24<
  M18 q121 rhat22 w19))))/\(∀ _u15:Nat ->Value,∀ q116 w14,J13 q116 w14 ->((IntKind.u64.wrap (y*2 ^ (min (IntKind.u64.wrap x12).toNat 64))).fdiv (2 ^ (min
  (32:Int).toNat 64)))≠0/\∃ J26:Int ->World ->Prop,(∃ (I30:Int ->Int ->World ->Prop) (M31:Int ->Int ->World ->Nat),I30 (IntKind.u64.wrap ((IntKind.u64.wrap
  ((IntKind.u64.wrap ((IntKind.u64.wrap ((orI .u64 (IntKind.u64.wrap (hi*2 ^ (min (IntKind.u64.wrap x12).toNat 64))) (lo.fdiv (2 ^ (min (IntKind.u64.wrap (64 - (IntKind.u64.wrap
  x12))).toNat 64))))*4294967296))+((IntKind.u64.wrap (lo*2 ^ (min (IntKind.u64.wrap x12).toNat 64))).fdiv (2 ^ (min (32:Int).toNat 64))))) - (IntKind.u64.wrap (q116*
  (IntKind.u64.wrap (y*2 ^ (min (IntKind.u64.wrap x12).toNat 64))))))) - (IntKind.u64.wrap ((IntKind.u64.wrap ((IntKind.u64.wrap ((IntKind.u64.wrap ((IntKind.u64.wrap ((orI .u64
  (IntKind.u64.wrap (hi*2 ^ (min (IntKind.u64.wrap x12).toNat 64))) (lo.fdiv (2 ^ (min (IntKind.u64.wrap (64 - (IntKind.u64.wrap x12))).toNat 64))))*4294967296))+
  ((IntKind.u64.wrap (lo*2 ^ (min (IntKind.u64.wrap x12).toNat 64))).fdiv (2 ^ (min (32:Int).toNat 64))))) - (IntKind.u64.wrap (q116*(IntKind.u64.wrap (y*2 ^ (min
  (IntKind.u64.wrap x12).toNat 64))))))).tdiv ((IntKind.u64.wrap (y*2 ^ (min (IntKind.u64.wrap x12).toNat 64))).fdiv (2 ^ (min (32:Int).toNat 64)))))*((IntKind.u64.wrap (y*
  2 ^ (min (IntKind.u64.wrap x12).toNat 64))).fdiv (2 ^ (min (32:Int).toNat 64))))))) (IntKind.u64.wrap ((IntKind.u64.wrap ((IntKind.u64.wrap ((IntKind.u64.wrap ((orI .u64
  (IntKind.u64.wrap (hi*2 ^ (min (IntKind.u64.wrap x12).toNat 64))) (lo.fdiv (2 ^ (min (IntKind.u64.wrap (64 - (IntKind.u64.wrap x12))).toNat 64))))*4294967296))+
  ((IntKind.u64.wrap (lo*2 ^ (min (IntKind.u64.wrap x12).toNat 64))).fdiv (2 ^ (min (32:Int).toNat 64))))) - (IntKind.u64.wrap (q116*(IntKind.u64.wrap (y*2 ^ (min
  (IntKind.u64.wrap x12).toNat 64))))))).tdiv ((IntKind.u64.wrap (y*2 ^ (min (IntKind.u64.wrap x12).toNat 64))).fdiv (2 ^ (min (32:Int).toNat 64))))) w14/\∀ _u33:Nat ->
  Value,∀ rhat34:Int,∀ q035:Int,∀ w32:World,I30 rhat34 q035 w32 ->∃ J36:World ->Prop,(bif (decide (q035≥4294967296)) then (J36 w32) else (bif (decide
  ((IntKind.u64.wrap (q035*(andI .u64 (IntKind.u64.wrap (y*2 ^ (min (IntKind.u64.wrap x12).toNat 64))) 4294967295)))>(IntKind.u64.wrap ((IntKind.u64.wrap (4294967296*
  rhat34))+(andI .u64 (IntKind.u64.wrap (lo*2 ^ (min (IntKind.u64.wrap x12).toNat 64))) 4294967295))))) then (J36 w32) else (J26 q035 w32)))/\(∀ _u38:Nat ->Value,∀ w37:
  World,J36 w37 ->bif (decide ((IntKind.u64.wrap (rhat34+((IntKind.u64.wrap (y*2 ^ (min (IntKind.u64.wrap x12).toNat 64))).fdiv (2 ^ (min (32:Int).toNat 64)))))≥
  4294967296)) then (J26 (IntKind.u64.wrap (q035 - 1)) w37) else ((I30 (IntKind.u64.wrap (rhat34+((IntKind.u64.wrap (y*2 ^ (min (IntKind.u64.wrap x12).toNat 64))).fdiv (2 ^
  (min (32:Int).toNat 64))))) (IntKind.u64.wrap (q035 - 1)) w37/\M31 (IntKind.u64.wrap (rhat34+((IntKind.u64.wrap (y*2 ^ (min (IntKind.u64.wrap x12).toNat 64))).fdiv (2 ^
  (min (32:Int).toNat 64))))) (IntKind.u64.wrap (q035 - 1)) w37<M31 rhat34 q035 w32))))/\(∀ _u28:Nat ->Value,∀ q029 w27,J26 q029 w27 ->0<=
  (IntKind.u64.wrap x12)/\K (.tuple #[(.int .u64 (IntKind.u64.wrap ((IntKind.u64.wrap (q116*4294967296))+q029))),(.int .u64 ((IntKind.u64.wrap ((IntKind.u64.wrap
  ((IntKind.u64.wrap ((IntKind.u64.wrap ((IntKind.u64.wrap ((IntKind.u64.wrap ((orI .u64 (IntKind.u64.wrap (hi*2 ^ (min (IntKind.u64.wrap x12).toNat 64))) (lo.fdiv (2 ^ (min
  (IntKind.u64.wrap (64 - (IntKind.u64.wrap x12))).toNat 64))))*4294967296))+((IntKind.u64.wrap (lo*2 ^ (min (IntKind.u64.wrap x12).toNat 64))).fdiv (2 ^ (min (32:
  Int).toNat 64))))) - (IntKind.u64.wrap (q116*(IntKind.u64.wrap (y*2 ^ (min (IntKind.u64.wrap x12).toNat 64)))))))*4294967296))+(andI .u64 (IntKind.u64.wrap (lo*2 ^
  (min (IntKind.u64.wrap x12).toNat 64))) 4294967295))) - (IntKind.u64.wrap (q029*(IntKind.u64.wrap (y*2 ^ (min (IntKind.u64.wrap x12).toNat 64))))))).fdiv (2 ^ (min
  (IntKind.u64.wrap x12).toNat 64))))]) w27)))))
theorem asN (hi:Int) (lo:Int) (y:Int) (K:Value ->World ->Prop) (Kp:List PanicEntry ->World ->Prop) (w:World):vcFn P tau rho pan ajR Go.Proofs.Tryz.f231 #[(.int .u64 hi),(.int .u64 lo),(.int .u64 y)] K Kp w=ahL hi lo y K Kp w:=by kernel_rfl
theorem asa:okFn P ajR Go.Proofs.Tryz.f231 3=true:=by kernel_rfl
theorem arV (hi:Int) (lo:Int) (y:Int) {K:Value ->World ->Prop} {Kp:List PanicEntry ->World ->Prop} {w:World} (h:ahL hi lo y K Kp w):Calls P ad8 #[(.int .u64 hi),(.int .u64 lo),(.int .u64 y)] w (RetP K Kp):=arn mixed Go.Proofs.Tryz.func231 asa (by rw [asN];exact h)
end Go.Mp
end
section
set_option maxRecDepth 100000
namespace Go.Kc
open Go Go.Vc
theorem u64w (n:Int):IntKind.u64.wrap n=n % 18446744073709551616:=by
 unfold IntKind.wrap;simp [IntKind.signed,IntKind.bits]
theorem u64n {n:Nat} (h:n<18446744073709551616):IntKind.u64.wrap (n:Int)=(n:Int):=by rw [u64w];omega
theorem u64m (n:Nat):IntKind.u64.wrap (n:Int)=((n % 18446744073709551616:Nat):Int):=by rw [u64w];omega
theorem ofI (a:Nat) (h:a<18446744073709551616):(BitVec.ofInt 64 (a:Int)).toNat=a:=by
 rw [BitVec.ofInt_natCast,BitVec.toNat_ofNat];exact Nat.mod_eq_of_lt (by omega)
theorem aem {a b:Nat} (ha:a<18446744073709551616) (hb:b<18446744073709551616):andI .u64 (a:Int) (b:Int)=((a &&& b:Nat):Int):=by
 show IntKind.u64.wrap ((BitVec.ofInt 64 (a:Int) &&& BitVec.ofInt 64 (b:Int)).toNat:Int)=_
 rw [BitVec.toNat_and,ofI a ha,ofI b hb]
 exact u64n (Nat.and_lt_two_pow (n:=64) _ hb)
theorem or64 {a b:Nat} (ha:a<18446744073709551616) (hb:b<18446744073709551616):orI .u64 (a:Int) (b:Int)=((a ||| b:Nat):Int):=by
 show IntKind.u64.wrap ((BitVec.ofInt 64 (a:Int) ||| BitVec.ofInt 64 (b:Int)).toNat:Int)=_
 rw [BitVec.toNat_or,ofI a ha,ofI b hb]
 exact u64n (Nat.or_lt_two_pow (n:=64) ha hb)
theorem aIU {a b:Nat} (ha:a<18446744073709551616) (hb:b<18446744073709551616):xorI .u64 (a:Int) (b:Int)=((a ^^^ b:Nat):Int):=by
 show IntKind.u64.wrap ((BitVec.ofInt 64 (a:Int) ^^^ BitVec.ofInt 64 (b:Int)).toNat:Int)=_
 rw [BitVec.toNat_xor,ofI a ha,ofI b hb]
 exact u64n (Nat.xor_lt_two_pow (n:=64) ha hb)
theorem aIE {a:Nat} (ha:a<18446744073709551616):notI .u64 (a:Int)=((18446744073709551615 ^^^ a:Nat):Int):=by
 show IntKind.u64.wrap ((BitVec.ofInt 64 ((18446744073709551615:Nat):Int) ^^^ BitVec.ofInt 64 (a:Int)).toNat:Int)=_
 rw [BitVec.toNat_xor,ofI a ha,ofI _ (by omega)]
 exact u64n (Nat.xor_lt_two_pow (n:=64) (by omega) ha)
theorem sh (n k:Nat):(n:Int).fdiv (2 ^ k)=((n / 2 ^ k:Nat):Int):=by
 rw [Int.fdiv_eq_ediv_of_nonneg _ (by exact_mod_cast Nat.zero_le (2 ^ k))]
 exact_mod_cast rfl
def wd:List Bool ->Nat
 | []=>0
 | b::r=>b.toNat+2*wd r
theorem axG:∀ (l:List Bool) (k:Nat),(wd l).testBit k=l.getD k false
 | [],k=>by simp [wd]
 | b::r,0=>by
  unfold wd
  rw [Nat.testBit_zero]
  cases b<;>simp
 | b::r,k+1=>by
  unfold wd
  rw [Nat.testBit_succ,show (b.toNat+2*wd r) / 2=wd r by cases b<;>simp<;>omega,axG r k]
  simp
theorem aHf:∀ (l:List Bool),wd l<2 ^ l.length
 | []=>by simp [wd]
 | b::r=>by
  have:=aHf r
  unfold wd
  rw [List.length_cons,Nat.pow_succ]
  have:b.toNat<=1:=by cases b<;>simp
  omega
theorem aHS {l:List Bool} (h:l.length<=64):wd l<18446744073709551616:=
 Nat.lt_of_lt_of_le (aHf l) (Nat.pow_le_pow_right (by decide) h)
theorem aIq {l:List Bool} {k:Nat} :wd l &&& 2 ^ k=if l.getD k false then 2 ^ k else 0:=by
 rw [<- axG]
 apply Nat.eq_of_testBit_eq
 intro i
 rw [Nat.testBit_and,Nat.testBit_two_pow]
 by_cases e:k=i
 ·subst e
  cases h:(wd l).testBit k<;>simp
 ·rw [decide_eq_false e,Bool.and_false]
  split
  ·rw [Nat.testBit_two_pow,decide_eq_false e]
  ·simp
theorem aHE {y:Nat} (h0:y≠0) (h:y<18446744073709551616):Lib.ctz 64 y<64/\y.testBit (Lib.ctz 64 y)=true/\∀ i,i<Lib.ctz 64 y ->y.testBit i=false:=by
 unfold Lib.ctz
 rw [if_neg h0]
 obtain ⟨m,hm,hl⟩:=Lib.ctzFrom_spec 64 y (by omega) (by simpa using h)
 generalize Lib.ctzFrom 64 y=c at*
 refine ⟨hl,?_,fun i hi=> ?_⟩
 ·rw [hm,Nat.testBit_two_pow_mul];simp
 ·rw [hm,Nat.testBit_two_pow_mul];simp;omega
theorem aGr {a i:Nat} (hi:i<64):(18446744073709551615 ^^^ a).testBit i= !a.testBit i:=by
 rw [Nat.testBit_xor,show (18446744073709551615:Nat)=2 ^ 64 - 1 by decide,Nat.testBit_two_pow_sub_one,decide_eq_true hi]
 cases a.testBit i<;>rfl
theorem aIn (x a:Nat) (hx:x<18446744073709551616) (hx0:x≠0) (hlow:x &&& (18446744073709551616 - x)=a):
  (IntKind.u64.wrap ((andI .u64 (x:Int) (IntKind.u64.wrap (0 - (x:Int))))*285870213051353865)).fdiv (2 ^ (min (58:Int).toNat 64))=((a*285870213051353865 % 18446744073709551616 / 288230376151711744:Nat):Int):=by
 have e1:IntKind.u64.wrap (0 - (x:Int))=((18446744073709551616 - x:Nat):Int):=by rw [u64w];omega
 rw [e1,aem hx (by omega),hlow,show ((a:Int)*285870213051353865)=((a*285870213051353865:Nat):Int) by omega,u64m]
 exact sh _ 58
end Go.Kc
end
section
namespace Go.Sp
open Go Go.Vc Go.RowKit Go.ChangeShapes
def Rd (P:Program) (W:World) (t:TypeId) (cs:List Value):Prop:=
 ∃ (H:Type) (enc:TypeId×Value ->H) (fuel:Nat) (x:DataW H×List MemPlace),DataW.trod enc P W 0 (fun _=>true) true fuel t cs=some x
section
variable {P:Program} {W:World} {t:TypeId} {cs:List Value}
theorem Rd.int {k:IntKind} (h:Rd P W t cs) (ht:P.underlying t=some (.int k)):∃ n,cs= [.int k n]/\(Lit.int k n).wf=true:=by
 obtain ⟨H,enc,fuel,x,h⟩:=h
 obtain ⟨n,h1,_,h2⟩:=DataW.trod_int ht h
 exact ⟨n,h1,h2⟩
theorem Rd.bool (h:Rd P W t cs) (ht:P.underlying t=some .bool):∃ b,cs= [.bool b]:=by
 obtain ⟨H,enc,fuel,x,h⟩:=h
 obtain ⟨n,h1,_⟩:=DataW.trod_bool ht h
 exact ⟨n,h1⟩
theorem Rd.str (h:Rd P W t cs) (ht:P.underlying t=some .string):∃ s,cs= [.string s]/\s.size<=maxLen:=by
 obtain ⟨H,enc,fuel,x,h⟩:=h
 obtain ⟨s,h1,_,h2⟩:=DataW.trod_string ht h
 exact ⟨s,h1,h2⟩
theorem Rd.slice {e:TypeId} (h:Rd P W t cs) (ht:P.underlying t=some (.slice e)):∃ (p:Option Addr) (n c:Nat),cs= [.slice p n c]/\n<=c/\c<=maxLen/\
  ∀ i,i<n ->∃ a es,p=some a/\es.length=P.cellsOf e/\(∀ j,j<P.cellsOf e ->W.cell? ((a.add (i*P.cellsOf e)).add j)=es[j]?)/\Rd P W e es:=by
 obtain ⟨H,enc,fuel,x,h⟩:=h
 rcases DataW.trod_slice ht h with ⟨rfl,rfl⟩ | ⟨a,len,cap,elems,rest,n,rfl,rfl,rfl,_,h1,h2,h3,h4,_⟩
 ·exact ⟨none,0,0,rfl,Nat.le_refl _,Nat.zero_le _,fun i hi=>by omega⟩
 ·refine ⟨some a,len,cap,rfl,h1,h2,fun i hi=> ?_⟩
  have:=h4 i hi
  rw [List.getElem?_eq_getElem (by omega)] at this
  obtain ⟨es,he,hr⟩:=Option.bind_eq_some_iff.1 this
  obtain ⟨_,hl,hc⟩:=World.cells?_some he
  exact ⟨a,es,rfl,hl,hc,H,enc,n,_,hr⟩
theorem Rd.struct {fs:Array Field} (h:Rd P W t cs) (ht:P.underlying t=some (.struct fs)):cs.length=P.cellsOf t/\
  ∀ (i:Nat) (f:Field),fs[i]? =some f ->Rd P W f.type ((cs.drop f.offset).take (P.cellsOf f.type)):=by
 obtain ⟨H,enc,fuel,x,h⟩:=h
 obtain ⟨xs,n,rfl,rfl,hl,hx,hf⟩:=DataW.trod_struct ht h
 refine ⟨hl,fun i f hi=> ?_⟩
 have hlt:i<xs.length:=by
  rw [hx]
  rcases Nat.lt_or_ge i fs.size with h' | h'
  ·exact h'
  ·simp [h'] at hi
 have:=hf i f hi
 rw [List.getElem?_eq_getElem hlt] at this
 exact ⟨H,enc,n,_,this⟩
theorem Rd.int1 {k:IntKind} {v:Value} (h:Rd P W t [v]) (ht:P.underlying t=some (.int k)):∃ n,v= .int k n/\(Lit.int k n).wf=true:=by
 obtain ⟨n,h1,h2⟩:=h.int ht
 exact ⟨n,by simpa using h1,h2⟩
theorem Rd.u8 {v:Value} (h:Rd P W t [v]) (ht:P.underlying t=some (.int .u8)):∃ n:UInt8,v= .int .u8 n.toNat:=by
 obtain ⟨n,h1,h2⟩:=h.int1 ht
 have:0<=n/\n<=255:=by simpa [Lit.wf,IntKind.has,IntKind.min,IntKind.max,IntKind.signed,IntKind.bits] using h2
 refine ⟨n.toNat.toUInt8,?_⟩
 have e:(n.toNat.toUInt8.toNat:Int)=n:=by
  show ((n.toNat % 2 ^ 8:Nat):Int)=n;omega
 rw [e];exact h1
theorem Rd.slice1 {e:TypeId} {v:Value} (h:Rd P W t [v]) (ht:P.underlying t=some (.slice e)):∃ (p:Option Addr) (n c:Nat),v= .slice p n c/\n<=c/\c<=maxLen/\
  ∀ i,i<n ->∃ a es,p=some a/\es.length=P.cellsOf e/\(∀ j,j<P.cellsOf e ->W.cell? ((a.add (i*P.cellsOf e)).add j)=es[j]?)/\Rd P W e es:=by
 obtain ⟨p,n,c,h1,h2⟩:=h.slice ht
 exact ⟨p,n,c,by simpa using h1,h2⟩
theorem ahF {r:Reach} {base:Nat} {v:Value} (h:Value.okWide P W r base t v) (hp:aggQ P t=some false):v.cells.toList= [v]:=by
 cases v with
 | agg cs=>
  exfalso
  unfold aggQ at hp
  cases hu:P.underlying t with
  | none=>simp [hu] at hp
  | some d=>cases d<;>simp [Value.okWide,Cell.okWide,Cell.ok,hu] at h hp
 | _=>rfl
end
section
variable {H:Type} {enc:TypeId×Value ->H} {P:Program}
theorem anV:∀ {ts:List TypeId} {vs:List Value} {ds:List (DataW H)} {ps:List MemPlace} {w:World} {b:Nat} {sp:Nat ->Bool} {hd:Bool},DataW.TrodAll enc P w b sp hd ts vs ds ps ->vs.length=ts.length/\ds.length=ts.length
 | [],[],[],_,_,_,_,_,_=>⟨rfl,rfl⟩
 | _::_,_::_,_::_,_,_,_,_,_,⟨_,_,_,h,_⟩=>by have:=anV h;simp [this]
 | [],_::_,_,_,_,_,_,_,h=>h.elim
 | [],[],_::_,_,_,_,_,_,h=>h.elim
 | _::_,[],_,_,_,_,_,_,h=>h.elim
 | _::_,_::_,[],_,_,_,_,_,h=>h.elim
theorem axz:∀ {ts:List TypeId} {vs:List Value} {ds:List (DataW H)} {ps:List MemPlace} {w:World},DataW.TrodAll enc P w 0 (fun _=>true) true ts vs ds ps ->
  ∀ (j:Nat) t v,ts[j]? =some t ->vs[j]? =some v ->Rd P w t v.cells.toList
 | [],[],[],_,_,_,j,_,_,h,_=>by simp at h
 | _::_,_::_,_::_,_,_,⟨_,_,⟨fuel,h1⟩,h2,_⟩,0,_,_,ht,hv=>by
  simp only [List.getElem?_cons_zero,Option.some.injEq] at ht hv
  subst ht hv
  exact ⟨H,enc,fuel,_,h1⟩
 | _::_,_::_,_::_,_,_,⟨_,_,_,h2,_⟩,j+1,t,v,ht,hv=>axz h2 j t v (by simpa using ht) (by simpa using hv)
 | [],_::_,_,_,_,h,_,_,_,_,_=>h.elim
 | [],[],_::_,_,_,h,_,_,_,_,_=>h.elim
 | _::_,[],_,_,_,h,_,_,_,_,_=>h.elim
 | _::_,_::_,[],_,_,h,_,_,_,_,_=>h.elim
theorem apT (hl:laidOutB P=true) {W W':World} (hb:Below W.heap.size W W'):∀ {ts:List TypeId} {vs:List Value} {ds:List (DataW H)} {ps:List MemPlace},(ts.all fun t=>P.readableRec t&&Nat.blt t P.types.size)=true ->
  (∀ x∈ps,x.block<W.heap.size) ->DataW.TrodAll enc P W 0 (fun _=>true) true ts vs ds ps ->DataW.TrodAll enc P W' 0 (fun b=>decide (b<W.heap.size)) true ts vs ds ps
 | [],[],[],_,_,_,h=>h
 | t::ts,_::_,_::_,_,hr,hlt,⟨p,q,h1,h2,h3⟩=>by
  subst h3
  simp only [List.all_cons,Bool.and_eq_true] at hr
  exact ⟨p,q,Below.trod hl hr.1.1 (by simpa using hr.1.2) h1 hb (fun x hx=>hlt x (by simp [hx])),apT hl hb hr.2 (fun x hx=>hlt x (by simp [hx])) h2,rfl⟩
 | [],_::_,_,_,_,_,h=>h.elim
 | [],[],_::_,_,_,_,h=>h.elim
 | _::_,[],_,_,_,_,h=>h.elim
 | _::_,_::_,[],_,_,_,h=>h.elim
theorem aGz (hl:laidOutB P=true) {f:Func} {s:ChangeSpec} {apart fresh handsOn:Bool} {W W':World} {args:Array Value} {ds gs:List (DataW H)} {before:List MemPlace} {tb:TypeId}
  (hread:(f.params.toList.all fun t=>P.readableRec t&&Nat.blt t P.types.size)=true) (hvars:varsRowed P s.vars=true) (hres:f.resultTypes.toList= [tb]) (htb:P.underlying tb=some .bool)
  (hspec:ds.length=f.params.size ->gs.length=s.vars.length ->s.fn H (ds++gs)= {results:= [.lit (.bool true)],args:=ds,vars:=gs})
  (hW:DataW.Whole enc P f.params.toList s.vars apart W args.toList ds gs before) (hb:Below W.heap.size W W'):s.post enc P f apart fresh handsOn false W args (.bool true) W':=by
 have hW':=hW
 obtain ⟨p,q,hA,hV,rfl,hfz,hnd⟩:=hW
 have hlt:∀ x∈p++q,x.block<W.heap.size:=fun x hx=>hW'.lt x hx
 have hlen:=anV hA
 have hgl:gs.length=s.vars.length:=by
  have go:∀ {ns:List String} {gs:List (DataW H)} {ps:List MemPlace},DataW.TrodVars enc P W (fun _=>true) ns gs ps ->gs.length=ns.length:=by
   intro ns
   induction ns with
   | nil=>intro gs ps h;cases gs with
    | nil=>rfl
    | cons _ _=>exact h.elim
   | cons n ns ih=>intro gs ps h;cases gs with
    | nil=>exact h.elim
    | cons g gs=>
     obtain ⟨_,_,_,_,_,_,_,_,_,_,h,_⟩:=h
     simp [ih h]
  exact go hV
 have hsp:=hspec (by simpa using hlen.2) hgl
 refine ⟨ds,gs,p++q,[],p,q,hW',?_,?_,?_,hb.frame _,fun h=>by cases h⟩
 ·rw [hsp,hres]
  have:f.resultTypes.size=1:=by rw [<- Array.length_toList,hres];rfl
  rw [this]
  refine ⟨[],[],⟨1,?_⟩,rfl,rfl⟩
  unfold DataW.trod;rw [htb];rfl
 ·rw [hsp];exact apT hl hb hread (fun x hx=>hlt x (by simp [hx])) hA
 ·rw [hsp];exact Below.trodVars hl hb hvars hV
theorem Sep.start (W:World):Sep (World.env W) [old W.heap] W:=
 ⟨rfl,fun x=>x<W.heap.size,⟨fun _ _=>rfl,fun _=>Iff.rfl⟩,fun _ hb=>⟨hb,id⟩,trivial⟩
theorem Sep.below {L:List Asn} {W W':World} {i:Nat} (h:Sep (World.env W) L W') (hi:L[i]? =some (old W.heap)):Below W.heap.size W W':=by
 have h:=h.fr i hi
 obtain ⟨he,F,⟨h1,h2⟩,h3,_⟩:=h
 have e:=he
 simp only [World.env,Env.mk.injEq] at e
 refine ⟨e.1,e.2.1,e.2.2,?_,h1⟩
 rcases Nat.eq_zero_or_pos W.heap.size with h0 | h0
 ·omega
 ·have:=(h3 (W.heap.size - 1) ((h2 _).2 (by omega))).1;omega
theorem Sep.oldCell {E:Env} {L:List Asn} {w:World} {W:World} {i:Nat} (h:Sep E L w) (hi:L[i]? =some (old W.heap)) {a:Addr} {v:Value} (hc:W.cell? a=some v):w.cell? a=some v:=by
 have h:=h.fr i hi
 have hb:a.block<W.heap.size:=by
  rcases Nat.lt_or_ge a.block W.heap.size with h' | h'
  ·exact h'
  ·simp [World.cell?,Array.getElem?_eq_none h'] at hc
 have:=h.oldBlock a.block hb
 unfold World.cell? at hc ⊢
 rw [this];exact hc
end
end Go.Sp
end
section
namespace Go.Sp
open Go Go.Vc
def aoj (P:Program) (rec_:TypeId ->Option (List TypeId)):List Field ->Nat ->Option (List TypeId)
 | [],_=>some []
 | f::fs,o=>match Nat.beq f.offset o,rec_ f.type with
  | true,some l=>match Nat.beq (P.cellsOf f.type) l.length with
   | true=>match aoj P rec_ fs (o+l.length) with
    | some r=>some (l++r)
    | none=>none
   | false=>none
  | _,_=>none
def asZ (P:Program):Nat ->TypeId ->Option (List TypeId)
 | 0,_=>none
 | d+1,t=>match P.underlying t with
  | some (.struct fs)=>match aoj P (asZ P d) fs.toList 0 with
   | some l=>match Nat.beq (P.cellsOf t) l.length with
    | true=>some l
    | false=>none
   | none=>none
  | some (.int _)=>some [t]
  | some .bool=>some [t]
  | some .string=>some [t]
  | some (.slice _)=>some [t]
  | _=>none
section
variable {P:Program} {W:World}
def aoN (P:Program) (W:World):List TypeId ->List Value ->Prop
 | [],[]=>True
 | t::ts,v::vs=>Rd P W t [v]/\aoN P W ts vs
 | _,_=>False
theorem aoN.append:∀ {ts us:List TypeId} {vs xs:List Value},aoN P W ts vs ->aoN P W us xs ->aoN P W (ts++us) (vs++xs)
 | [],_,[],_,_,h=>h
 | _::_,_,_::_,_,⟨h1,h2⟩,h=>⟨h1,h2.append h⟩
 | [],_,_::_,_,h,_=>h.elim
 | _::_,_,[],_,h,_=>h.elim
theorem Rd.leaves:∀ (d:Nat) {t:TypeId} {ts:List TypeId} {cs:List Value},asZ P d t=some ts ->Rd P W t cs ->aoN P W ts cs:=by
 intro d
 induction d with
 | zero=>intro t ts cs h;simp [asZ] at h
 | succ d ih=>
  intro t ts cs h hr
  unfold asZ at h
  cases hu:P.underlying t with
  | none=>simp [hu] at h
  | some x=>
   cases x<;>simp only [hu] at h<;>try (simp at h;done)
   case bool=>
    simp only [Option.some.injEq] at h;subst h
    obtain ⟨b,rfl⟩:=hr.bool hu;exact ⟨hr,trivial⟩
   case int k=>
    simp only [Option.some.injEq] at h;subst h
    obtain ⟨b,rfl,_⟩:=hr.int hu;exact ⟨hr,trivial⟩
   case string=>
    simp only [Option.some.injEq] at h;subst h
    obtain ⟨b,rfl,_⟩:=hr.str hu;exact ⟨hr,trivial⟩
   case slice e=>
    simp only [Option.some.injEq] at h;subst h
    obtain ⟨p,n,c,rfl,_⟩:=hr.slice hu;exact ⟨hr,trivial⟩
   case struct fs=>
    cases hg:aoj P (asZ P d) fs.toList 0 with
    | none=>simp [hg] at h
    | some l=>
     simp only [hg] at h
     split at h
     ·next hsz=>
      simp only [Option.some.injEq] at h;subst h
      obtain ⟨hlen,hfs⟩:=hr.struct hu
      rw [Nat.eq_of_beq_eq_true hsz] at hlen
      have key:∀ (fl:List Field) (o:Nat) (l:List TypeId),aoj P (asZ P d) fl o=some l ->(∀ f∈fl,Rd P W f.type ((cs.drop f.offset).take (P.cellsOf f.type))) ->cs.length=o+l.length ->aoN P W l (cs.drop o):=by
       intro fl
       induction fl with
       | nil=>
        intro o l hl _ hc
        simp only [aoj,Option.some.injEq] at hl;subst hl
        rw [List.drop_of_length_le (by simpa using Nat.le_of_eq hc)];trivial
       | cons f fl ihf=>
        intro o l hl hrd hc
        unfold aoj at hl
        split at hl
        ·next l1 ho hl1=>
         split at hl
         ·next hn=>
          split at hl
          ·next r hrr=>
           simp only [Option.some.injEq] at hl;subst hl
           have ho':=Nat.eq_of_beq_eq_true ho
           have hn':=Nat.eq_of_beq_eq_true hn
           have h1:=hrd f (by simp)
           rw [ho',hn'] at h1
           have h2:=ih hl1 h1
           have h3:=ihf (o+l1.length) r hrr (fun g hg=>hrd g (by simp [hg])) (by rw [hc,List.length_append];omega)
           have e:cs.drop o=(cs.drop o).take l1.length++cs.drop (o+l1.length):=by
            rw [<- List.drop_drop,List.take_append_drop]
           rw [e];exact h2.append h3
          ·simp at hl
         ·simp at hl
        ·simp at hl
      have:=key fs.toList 0 l hg (fun f hf=>by
       obtain ⟨i,hi,rfl⟩:=List.mem_iff_getElem.1 hf
       exact hfs i _ (by simp at hi ⊢)) (by simpa using hlen)
      simpa using this
     ·simp at h
end
end Go.Sp
end
section
namespace Go.Sp
open Go Go.Vc
def famA {ι:Type} (f:ι ->Asn):Asn:=
  ⟨fun h F=>∃ Fs:ι ->Nat ->Prop,(∀ i,(f i).holds h (Fs i))/\(∀ i j b,i≠j ->Fs i b ->¬ Fs j b)/\∀ b,F b↔∃ i,Fs i b,
   fun ⟨Fs,h1,h2,h3⟩ hl=>⟨Fs,fun i=>(f i).loc (h1 i) (fun b hb=>hl b ((h3 b).2 ⟨i,hb⟩)),h2,h3⟩⟩
section
variable {E:Env} {L:List Asn} {w:World} {ι:Type} [DecidableEq ι]
def setA (f:ι ->Asn) (i:ι) (A:Asn):ι ->Asn:=fun j=>if j=i then A else f j
omit [DecidableEq ι] in
theorem famA.nil (h:Sep E L w) {f:ι ->Asn} (hf:∀ i,f i=emp):Sep E (famA f::L) w:=by
 obtain ⟨he,h⟩:=h
 refine ⟨he,fun _=>False,⟨fun _ _=>False,fun i=> ?_,fun _ _ _ _ h=>h.elim,fun b=>⟨fun h=>h.elim,fun ⟨_,h⟩=>h.elim⟩⟩,fun _ h=>h.elim,h.weaken (fun _ hb=>hb.elim id id)⟩
 rw [hf];exact fun _ h=>h
theorem famA.out {f:ι ->Asn} (h:Sep E (famA f::L) w) (i:ι):Sep E (f i::famA (setA f i emp)::L) w:=by
 obtain ⟨he,F,⟨Fs,h1,h2,h3⟩,h4,h5⟩:=h
 refine ⟨he,Fs i,h1 i,fun b hb=>h4 b ((h3 b).2 ⟨i,hb⟩),fun b=>∃ j,j≠i/\Fs j b,⟨fun j b=>j≠i/\Fs j b,fun j=> ?_,?_,fun b=>Iff.rfl⟩,?_,?_⟩
 ·unfold setA
  split
  ·next hh=>subst hh;exact fun b hb=>hb.1 rfl
  ·next hh=>
   have e:(fun b=>j≠i/\Fs j b)=Fs j:=by funext b;simp [hh]
   show (f j).holds w.heap (fun b=>j≠i/\Fs j b)
   rw [e];exact h1 j
 ·intro j k b hjk hb hb';exact h2 j k b hjk hb.2 hb'.2
 ·rintro b ⟨j,hj,hb⟩
  refine ⟨(h4 b ((h3 b).2 ⟨j,hb⟩)).1,?_⟩
  rintro (hu | hu)
  ·exact hu
  ·exact h2 j i b hj hb hu
 ·refine h5.weaken ?_
  rintro b ((hu | hu) | ⟨j,hj,hu⟩)
  ·exact hu.elim
  ·exact .inr ((h3 b).2 ⟨i,hu⟩)
  ·exact .inr ((h3 b).2 ⟨j,hu⟩)
theorem famA.in_ {f:ι ->Asn} {i:ι} {A:Asn} (h:Sep E (A::famA f::L) w) (hi:f i=emp):Sep E (famA (setA f i A)::L) w:=by
 obtain ⟨he,F,h1,h2,G,⟨Fs,g1,g2,g3⟩,h3,h4⟩:=h
 have hno:∀ b,¬ Fs i b:=by
  have:=g1 i
  rw [hi] at this;exact this
 refine ⟨he,fun b=>F b\/G b,⟨fun j b=>if j=i then F b else Fs j b,fun j=> ?_,?_,fun b=> ?_⟩,?_,?_⟩
 ·unfold setA
  split
  ·next hh=>subst hh;simpa using h1
  ·next hh=>simpa [hh] using g1 j
 ·intro j k b hjk hb hb'
  by_cases hj:j=i
  ·by_cases hk:k=i
   ·exact hjk (hj.trans hk.symm)
   ·simp only [hj,if_true] at hb
    simp only [hk,if_false] at hb'
    exact (h3 b ((g3 b).2 ⟨k,hb'⟩)).2 (.inr hb)
  ·simp only [hj,if_false] at hb
   by_cases hk:k=i
   ·simp only [hk,if_true] at hb'
    exact (h3 b ((g3 b).2 ⟨j,hb⟩)).2 (.inr hb')
   ·simp only [hk,if_false] at hb'
    exact g2 j k b hjk hb hb'
 ·constructor
  ·rintro (hb | hb)
   ·exact ⟨i,by simpa using hb⟩
   ·obtain ⟨j,hj⟩:=(g3 b).1 hb
    refine ⟨j,?_⟩
    have:j≠i:=by rintro rfl;exact hno b hj
    simpa [this] using hj
  ·rintro ⟨j,hj⟩
   by_cases h:j=i
   ·exact .inl (by simpa [h] using hj)
   ·exact .inr ((g3 b).2 ⟨j,by simpa [h] using hj⟩)
 ·rintro b (hb | hb)
  ·exact h2 b hb
  ·exact ⟨(h3 b hb).1,fun hu=>hu⟩
 ·refine h4.weaken ?_
  rintro b (hu | hu | hu)
  ·exact hu.elim
  ·exact .inl (.inr hu)
  ·exact .inr hu
theorem aFO (f:ι ->Asn) (i:ι) (A B:Asn):setA (setA f i A) i B=setA f i B:=by
 funext j;unfold setA;split<;>simp_all
@[simp] theorem aIX (f:ι ->Asn) (i:ι) (A:Asn):setA f i A i=A:=by simp [setA]
theorem famA.back {f:ι ->Asn} {i:ι} {A:Asn} (h:Sep E (A::famA (setA f i emp)::L) w):Sep E (famA (setA f i A)::L) w:=by
 have:=famA.in_ (i:=i) h (by simp)
 rwa [aFO] at this
end
end Go.Sp
end
section
namespace Go.Sp
open Go Go.Vc
def rowA (s:Sl) (m:Nat) (vs:List Value):Asn:=
 match s.p with
 | none=>pur (s.n=0/\s.c=0/\vs= []) emp
 | some a=>exA fun spare:List Value=>pur (a.off=0/\a.spot=none/\vs.length=s.n*m/\vs.length+spare.length=s.c*m/\s.n<=s.c) (blk a.block (vs++spare))
section
variable {E:Env} {L:List Asn} {w:World} {P:Program} {s:Sl} {m:Nat} {vs:List Value}
theorem rowA.none_ (h:Sep E L w):Sep E (rowA ⟨none,0,0⟩ m []::L) w:=Sep.pur.2 ⟨⟨rfl,rfl,rfl⟩,Sep.emp.2 h⟩
theorem rowA.make {b n c:Nat} {spare:List Value} (h:Sep E (blk b (vs++spare)::L) w) (h1:vs.length=n*m) (h2:vs.length+spare.length=c*m) (h3:n<=c):Sep E (rowA ⟨some ⟨b,0,none⟩,n,c⟩ m vs::L) w:=
 Sep.ex.2 ⟨spare,Sep.pur.2 ⟨⟨rfl,rfl,h1,h2,h3⟩,h⟩⟩
theorem rowA.length (h:Sep E (rowA s m vs::L) w):vs.length=s.n*m:=by
 unfold rowA at h
 split at h
 ·obtain ⟨⟨h1,_,h3⟩,_⟩:=Sep.pur.1 h;rw [h1,h3];simp
 ·obtain ⟨_,h⟩:=Sep.ex.1 h
  exact (Sep.pur.1 h).1.2.2.1
theorem rowA.get_ (h:Sep E (rowA s m vs::L) w) (hn:0<s.n):∃ b spare,s.p=some ⟨b,0,none⟩/\vs.length=s.n*m/\vs.length+spare.length=s.c*m/\s.n<=s.c/\Sep E (blk b (vs++spare)::L) w:=by
 unfold rowA at h
 split at h
 ·obtain ⟨⟨h1,_⟩,_⟩:=Sep.pur.1 h;omega
 ·next a ha=>
  obtain ⟨spare,h⟩:=Sep.ex.1 h
  obtain ⟨⟨h1,h2,h3,h4,h5⟩,h⟩:=Sep.pur.1 h
  refine ⟨a.block,spare,?_,h3,h4,h5,h⟩
  rw [ha];cases a;simp_all
theorem rowA.cell {b:Nat} {spare:List Value} (h:Sep E (blk b (vs++spare)::L) w) {j:Nat} (hj:j<vs.length):w.cell? ⟨b,j,none⟩=vs[j]? :=by
 rw [h.cell,List.getElem?_append_left hj]
theorem rowA.el {i:Int} {f:Addr ->Prop} (q:Nat) (h:Sep E L w) (hq:L[q]? =some (rowA s m vs)) (h0:0<=i) (h1:i<s.n) (k:∀ b,s.p=some ⟨b,0,none⟩ ->(∀ j,j<m ->w.cell? ⟨b,i.toNat*m+j,none⟩=vs[i.toNat*m+j]?) ->f ⟨b,i.toNat*m,none⟩):elAt s.p s.n i m f:=by
 have h:=h.fr q hq
 obtain ⟨b,spare,hp,hl,_,_,h⟩:=rowA.get_ h (by omega)
 refine ⟨⟨b,0,none⟩,hp,⟨h0,h1⟩,?_⟩
 rw [aad,Nat.zero_add]
 refine k b hp (fun j hj=>rowA.cell h ?_)
 have:i.toNat*m+m<=s.n*m:=by
  rw [<- Nat.succ_mul];exact Nat.mul_le_mul_right _ (by omega)
 omega
theorem rowA.st {b:Nat} {o:Nat} {v:Value} {f:World ->Prop} (h:Sep E (rowA s m vs::L) w) (hp:s.p=some ⟨b,0,none⟩) (ho:o<vs.length) (k:∀ w1,Sep E (rowA s m (vs.set o v)::L) w1 ->f w1):St ⟨b,o,none⟩ v f w:=by
 have hl:=rowA.length h
 have hn:0<s.n:=by
  rcases Nat.eq_zero_or_pos s.n with h0 | h0
  ·have h9:vs.length=0:=by rw [hl,h0,Nat.zero_mul]
   omega
  ·exact h0
 obtain ⟨b',spare,hp',h1,h2,h3,h⟩:=rowA.get_ h hn
 rw [hp] at hp'
 simp only [Option.some.injEq,Addr.mk.injEq,and_true] at hp'
 subst hp'
 refine St.i h (by simp;omega) (fun w1 h4=>k w1 ?_)
 rw [List.set_append_left _ _ ho] at h4
 have hs:s=⟨some ⟨b,0,none⟩,s.n,s.c⟩:=by cases s;simp_all
 rw [hs]
 exact rowA.make (spare:=spare) h4 (by simpa using h1) (by simpa using h2) h3
theorem rowA.stN {b:Nat} {o:Nat} {xs:List Value} {f:World ->Prop} (h:Sep E (rowA s m vs::L) w) (hp:s.p=some ⟨b,0,none⟩) (hx:0<xs.length) (ho:o+xs.length<=vs.length) (k:∀ w1,Sep E (rowA s m (acf vs o xs)::L) w1 ->f w1):StN xs ⟨b,o,none⟩ f w:=by
 have hl:=rowA.length h
 have hn:0<s.n:=by
  rcases Nat.eq_zero_or_pos s.n with h0 | h0
  ·have h9:vs.length=0:=by rw [hl,h0,Nat.zero_mul]
   omega
  ·exact h0
 obtain ⟨b',spare,hp',h1,h2,h3,h⟩:=rowA.get_ h hn
 rw [hp] at hp'
 simp only [Option.some.injEq,Addr.mk.injEq,and_true] at hp'
 subst hp'
 refine StN.i h (by simp;omega) (fun w1 h4=>k w1 ?_)
 have e:acf (vs++spare) o xs=acf vs o xs++spare:=by
  rw [aft _ _ _ (by simp;omega),aft _ _ _ ho,List.take_append_of_le_length (by omega),List.drop_append_of_le_length ho]
  simp
 rw [e] at h4
 have hs:s=⟨some ⟨b,0,none⟩,s.n,s.c⟩:=by cases s;simp_all
 rw [hs]
 exact rowA.make (spare:=spare) h4 (by simpa using h1) (by simpa using h2) h3
theorem ah9 (z:Array Value) (n:Nat):(Builtin.zeroCells z n).toList.length=n*z.size:=by simp [Builtin.zeroCells]
theorem rowA.append {x:Value} {k:Nat} {news:List Value} {st xt ty:TypeId} {by_:Nat} {zs:List Value} (h:Sep E (rowA s m vs::L) w) (hq:slQ P st=some (by_,m,zs)) (hz:zs.length=m) (hs:Src P m xt x k news w) (hk:0<k)
  (hfit:(s.n+k)*(by_+1)<=70368744177664) {G:Sl ->World ->Prop}
  (g:∀ s' w1,s'.n=s.n+k ->Sep E (rowA s' m (vs++news)::L) w1 ->G s' w1):
  ∃ x1:Sl,∃ w1,Sem.run P (Builtin.append_ #[st,xt] ty #[.slice s.p s.n s.c,x]) w= .ok (.slice x1.p x1.n x1.c) w1/\G x1 w1:=by
 have hnew:=hs.newsLen
 have hb1:(s.n+k)*by_+(s.n+k)<=70368744177664:=by rw [Nat.mul_add,Nat.mul_one] at hfit;exact hfit
 have hcap:∀ c,c<s.n+k ->Builtin.nextslicecap (s.n+k) c*by_<=281474976710656:=by
  intro c hc
  have hle:Builtin.nextslicecap (s.n+k) c<=2*(s.n+k)+1000:=by
   unfold Builtin.nextslicecap
   split
   ·omega
   ·split
    ·omega
    ·have go:∀ r c,c<=s.n+k+((s.n+k)+768) / 4 ->Builtin.growBy (s.n+k) r c<=s.n+k+((s.n+k)+768) / 4:=by
      intro r
      induction r with
      | zero=>intro c hc;exact hc
      | succ r ih=>
       intro c hc
       unfold Builtin.growBy
       split
       ·exact hc
       ·exact ih _ (by omega)
     have:=go 4 c (by omega)
     omega
  have h1:=Nat.mul_le_mul_right by_ hle
  rw [Nat.add_mul,Nat.mul_assoc] at h1
  have h2:by_<=(s.n+k)*by_:=Nat.le_mul_of_pos_left _ (by omega)
  by_cases hsm:s.n+k<=1000
  ·have h3:by_<=70368744177664:=by omega
   have h4:Builtin.nextslicecap (s.n+k) c<=4*(s.n+k):=by
    unfold Builtin.nextslicecap
    split
    ·omega
    ·split
     ·omega
     ·have go:∀ r c,c<=s.n+k+((s.n+k)+768) / 4 ->Builtin.growBy (s.n+k) r c<=s.n+k+((s.n+k)+768) / 4:=by
       intro r
       induction r with
       | zero=>intro c hc;exact hc
       | succ r ih=>
        intro c hc
        unfold Builtin.growBy
        split
        ·exact hc
        ·exact ih _ (by omega)
      have:=go 4 c (by omega)
      omega
   have h5:=Nat.mul_le_mul_right by_ h4
   rw [Nat.mul_assoc] at h5
   omega
  ·have h6:1000*by_<=(s.n+k)*by_:=Nat.mul_le_mul_right _ (by omega)
   omega
 unfold rowA at h
 split at h
 ·next hp=>
  obtain ⟨⟨h1,h2,h3⟩,h⟩:=Sep.pur.1 h
  have h:=Sep.emp.1 h
  rw [hp,h1,h2]
  refine appendNil.i h hq hs hk (by omega) (by have:=hcap 0 (by omega);rw [h1,Nat.zero_add] at this;exact this) (fun b' c' w1 hc' h4=>g _ w1 (by simp [h1]) ?_)
  subst h3
  refine rowA.make (spare:=(Builtin.zeroCells zs.toArray (c' - k)).toList) h4 (by simpa using hnew) ?_ hc'
  rw [ah9]
  simp only [List.nil_append,hnew,List.size_toArray,hz,<- Nat.add_mul]
  congr 1;omega
 ·next a ha=>
  obtain ⟨spare,h⟩:=Sep.ex.1 h
  obtain ⟨⟨h1,h2,h3,h4,h5⟩,h⟩:=Sep.pur.1 h
  obtain ⟨b,o,sp⟩:=a
  simp only at h1 h2
  subst h1 h2
  rw [ha]
  have hdl:((s.n+k)*m)=s.n*m+k*m:=Nat.add_mul _ _ _
  by_cases hr:s.n+k<=s.c
  ·have hle:(s.n+k)*m<=s.c*m:=Nat.mul_le_mul_right _ hr
   refine append.i h hq hs (by simp;omega) (fun _=>by simp;omega) (by omega) (fun hh=>by omega) (fun _ w1 h6=>g _ w1 rfl ?_) (fun hlt=>by omega)
   ·have e:acf (vs++spare) (0+s.n*m) news=vs++news++spare.drop news.length:=by
     rw [aft _ _ _ (by simp;omega),List.take_append_of_le_length (by omega),List.take_of_length_le (by omega),List.drop_append]
     rw [List.drop_eq_nil_of_le (by omega)]
     simp only [List.nil_append]
     congr 2;omega
    rw [e] at h6
    refine rowA.make (spare:=spare.drop news.length) h6 (by simp;omega) (by simp;omega) hr
  ·refine append.i h hq hs (by simp;omega) (fun hh=>absurd hh hr) (by omega) (hcap _) (fun hh=>absurd hh hr) (fun _ b' c' w1 hc' h6=>g _ w1 rfl ?_)
   have e:((vs++spare).drop 0).take (s.n*m)=vs:=by
    rw [List.drop_zero,List.take_append_of_le_length (by omega),List.take_of_length_le (by omega)]
   rw [e] at h6
   have h7:=(h6.fr 1 rfl).tail
   refine rowA.make (spare:=(Builtin.zeroCells zs.toArray (c' - (s.n+k))).toList) h7 (by simp;omega) ?_ hc'
   rw [ah9]
   simp only [List.length_append,h3,hnew,List.size_toArray,hz,<- Nat.add_mul]
   congr 1;omega
theorem Src.blk {b n c i:Nat} {C:List Value} {xt:TypeId} {by_:Nat} {zs:List Value} (h:Sep E L w) (hi:L[i]? =Option.some (Sp.blk b C)) (hq:slQ P xt=Option.some (by_,m,zs)) (hl:C.length=n*m) (h1:∀ u∈C,u.oneCell'=true):
  Src P m xt (.slice (Option.some ⟨b,0,none⟩) n c) n C w:=by
 obtain ⟨e,ti,z,ht,_⟩:=aoF hq
 exact Src.ofSlice w ht ⟨b,0,none⟩ n c C hl (fun j u hu=>by rw [aad,h.cellAt i hi,Nat.zero_add];exact hu) h1
end
end Go.Sp
end
section
namespace Go.Sp
open Go Go.Vc
def recs {α:Type} (f:α ->List Value) (l:List α):List Value:=(l.map f).flatten
section
variable {α:Type} {f:α ->List Value} {m:Nat} (hf:∀ a,(f a).length=m)
include hf
theorem ag5 (l:List α):(recs f l).length=l.length*m:=by
 induction l with
 | nil=>simp [recs]
 | cons a l ih=>
  have:recs f (a::l)=f a++recs f l:=rfl
  rw [this,List.length_append,hf,ih,List.length_cons,Nat.add_mul,Nat.one_mul,Nat.add_comm]
theorem aGJ (l:List α) (i j:Nat) (hj:j<m):(recs f l)[i*m+j]? =l[i]?.bind fun a=>(f a)[j]? :=by
 induction l generalizing i with
 | nil=>simp [recs]
 | cons a l ih=>
  have:recs f (a::l)=f a++recs f l:=rfl
  rw [this]
  cases i with
  | zero=>rw [List.getElem?_append_left (by rw [hf];omega)];simp
  | succ i=>
   rw [List.getElem?_append_right (by rw [hf,Nat.add_mul];omega),hf]
   have e:(i+1)*m+j - m=i*m+j:=by rw [Nat.add_mul];omega
   rw [e,ih i];simp
theorem aov {l:List α} {i:Nat} {a:α} (h:l[i]? =some a) (j:Nat) (hj:j<m):(recs f l)[i*m+j]? =(f a)[j]? :=by
 rw [aGJ hf l i j hj,h];rfl
theorem avM {l:List α} {i j:Nat} {a a':α} {v:Value} (h:l[i]? =some a) (hj:j<m) (ha:f a'=(f a).set j v):(recs f l).set (i*m+j) v=recs f (l.set i a'):=by
 induction l generalizing i with
 | nil=>simp at h
 | cons b l ih=>
  have e0:recs f (b::l)=f b++recs f l:=rfl
  rw [e0]
  cases i with
  | zero=>
   simp only [List.getElem?_cons_zero,Option.some.injEq] at h;subst h
   rw [List.set_append_left _ _ (by rw [hf];omega),Nat.zero_mul,Nat.zero_add,<- ha];rfl
  | succ i=>
   rw [List.set_append_right _ _ (by rw [hf,Nat.add_mul];omega),hf]
   have e:(i+1)*m+j - m=i*m+j:=by rw [Nat.add_mul];omega
   rw [e,ih (by simpa using h)];rfl
theorem aDc {l:List α} {i j:Nat} {a a':α} {xs:List Value} (h:l[i]? =some a) (hj:j+xs.length<=m) (ha:f a'=acf (f a) j xs):acf (recs f l) (i*m+j) xs=recs f (l.set i a'):=by
 induction l generalizing i with
 | nil=>simp at h
 | cons b l ih=>
  have e0:recs f (b::l)=f b++recs f l:=rfl
  have hlen:=ag5 hf (b::l)
  have hi:i<(b::l).length:=by
   rcases Nat.lt_or_ge i (b::l).length with h' | h'
   ·exact h'
   ·simp [List.getElem?_eq_none h'] at h
  have hle:i*m+m<=(b::l).length*m:=by rw [<- Nat.succ_mul];exact Nat.mul_le_mul_right _ hi
  rw [aft _ _ _ (by rw [hlen];omega),e0]
  cases i with
  | zero=>
   simp only [List.getElem?_cons_zero,Option.some.injEq] at h;subst h
   rw [aft _ _ _ (by rw [hf];omega)] at ha
   have e1:recs f ((b::l).set 0 a')=f a'++recs f l:=rfl
   rw [e1,ha,Nat.zero_mul,Nat.zero_add,List.take_append_of_le_length (by rw [hf];omega),List.drop_append_of_le_length (by rw [hf];omega)]
   simp
  | succ i=>
   have hl2:=ag5 hf l
   have hi':i<l.length:=by simpa using hi
   have hle':i*m+m<=l.length*m:=by rw [<- Nat.succ_mul];exact Nat.mul_le_mul_right _ hi'
   have:=ih (by simpa using h)
   rw [aft _ _ _ (by rw [hl2];omega)] at this
   have e1:recs f ((b::l).set (i+1) a')=f b++recs f (l.set i a'):=rfl
   rw [e1,<- this,List.take_append,List.drop_append]
   have q1:(i+1)*m+j - (f b).length=i*m+j:=by rw [hf,Nat.add_mul];omega
   have q2:(i+1)*m+j+xs.length - (f b).length=i*m+j+xs.length:=by rw [hf,Nat.add_mul];omega
   rw [q1,q2,List.take_of_length_le (by rw [hf,Nat.add_mul];omega),List.drop_of_length_le (by rw [hf,Nat.add_mul];omega)]
   simp
omit hf in
theorem akB (l l':List α):recs f (l++l')=recs f l++recs f l':=by simp [recs]
omit hf in
theorem apB (a:α):recs f [a]=f a:=by simp [recs]
end
end Go.Sp
end
section
namespace Go.Sp
open Go Go.Vc Go.WideElems Go.WideShapes Go.RowKit
structure KeysOf (f:Int ->Option Value) (l:List Int):Prop where
 rise:l.Pairwise (· < ·)
 mem:∀ k,k∈l↔(f k).isSome=true
def intL (l:List Int):List Value:=l.map (Value.int .i64)
@[simp] theorem aC2 (l:List Int):(intL l).length=l.length:=by simp [intL]
@[simp] theorem api (l:List Int) (i:Nat):(intL l)[i]? =l[i]?.map (Value.int .i64):=by simp [intL]
theorem ahD:∀ (N:Nat) (l:List Int),l.Nodup ->(∀ x∈l,0<=x/\x<N) ->l.length<=N
 | 0,l,_,h=>by
  cases l with
  | nil=>simp
  | cons x l=>have:=h x (by simp);omega
 | N+1,l,hd,h=>by
  have h1:=ahD N (l.filter (· ≠(N:Int))) (hd.filter _) (fun x hx=>by
   simp only [List.mem_filter,decide_eq_true_eq] at hx
   have:=h x hx.1;omega)
  by_cases hm:(N:Int)∈l
  ·have h2:(l.filter (· ≠(N:Int))).length=l.length - 1:=by
    have:l.filter (· ≠(N:Int))=l.erase (N:Int):=by rw [hd.erase_eq_filter];congr 1;funext x;simp [bne,decide_not];rfl
    rw [this,List.length_erase_of_mem hm]
   omega
  ·have:l.filter (· ≠(N:Int))=l:=by
    rw [List.filter_eq_self]
    intro a ha
    simp only [ne_eq,decide_eq_true_eq]
    rintro rfl;exact hm ha
   rw [this] at h1;omega
section
variable {E:Env} {L:List Asn} {w:World} {P:Program} {f:Int ->Option Value} {b:Nat}
def as6:Value ->Option (DataW Unit×List MemPlace):=fun _=>some (.lit (.bool true),[])
theorem mapF.owns {i:Nat} {kt:TypeId} (h:Sep E L w) (hi:L[i]? =some (mapF b (Value.int .i64) f)) (hk:P.underlying kt=some (.int .i64)) {N:Nat} (hN:∀ k v,f k=some v ->0<=k/\k<N) (hb:N<=17592186044416):
  ∃ D:DataW Unit,w.ownsMap P kt as6 b N D/\Maps.size D<=N/\∀ ss:List Int,ss.Perm (intKeys D) ->ss.Nodup/\∀ k,k∈ss↔(f k).isSome=true:=by
 obtain ⟨es,ck,hb',M⟩:=mapF.at_ h hi
 have hkey:∀ e∈es,∃ k:Int,e.key= .int .i64 k/\f k=some e.val/\(Lit.int .i64 k).wf=true:=by
  intro e he
  obtain ⟨k,h1,h2⟩:=M.key e he
  refine ⟨k,h1,h2,?_⟩
  have:=hN k _ h2
  simp only [Lit.wf,IntKind.min,IntKind.max,IntKind.signed,IntKind.bits,Bool.and_eq_true,decide_eq_true_eq]
  constructor<;>simp<;>omega
 let kn:MapEntry ->Int:=fun e=>match e.key with | .int _ n=>n | _=>0
 have hkn:∀ e∈es,e.key= .int .i64 (kn e)/\f (kn e)=some e.val/\(Lit.int .i64 (kn e)).wf=true:=by
  intro e he
  obtain ⟨k,h1,h2,h3⟩:=hkey e he
  have:kn e=k:=by simp only [kn,h1]
  rw [this];exact ⟨h1,h2,h3⟩
 have hnd:(es.map kn).Nodup:=by
  rw [List.nodup_iff_pairwise_ne,List.pairwise_map]
  refine List.Pairwise.imp_of_mem ?_ M.one
  intro a b ha hb hne he
  exact hne (by rw [(hkn a ha).1,(hkn b hb).1,he])
 have hlen:es.length<=N:=by
  have:=ahD N (es.map kn) hnd (fun x hx=>by
   obtain ⟨e,he,rfl⟩:=List.mem_map.1 hx
   exact hN _ _ (hkn e he).2.1)
  simpa using this
 have hrd:∀ e∈es,rd P kt as6 e=some (.int .i64 (kn e),.lit (.bool true)):=by
  intro e he
  have hh:=hkn e he
  unfold rd
  rw [hh.1,Maps.keyOf_int_mk hk hh.2.2];rfl
 have hrg:es.map (rg P kt as6)=es.map fun e=>(Lit.int .i64 (kn e),(DataW.lit (.bool true):DataW Unit)):=by
  apply List.map_congr_left
  intro e he
  unfold rg;rw [hrd e he];rfl
 refine ⟨.map ((es.map (rg P kt as6)).foldr DataW.insert []),⟨es.toArray,ck,hb',⟨?_,?_,?_⟩,by simpa using hlen,by simp⟩,?_,?_⟩
 ·simp [maxLen];omega
 ·refine ⟨by simpa using M.born,?_,?_⟩
  ·simp only [List.nodup_iff_pairwise_ne,List.pairwise_map];exact M.bone
  ·simp only [List.nodup_iff_pairwise_ne,List.pairwise_map];exact M.one
 ·intro x hx
  exact ⟨_,hrd x (by simpa using hx)⟩
 ·show ((es.map (rg P kt as6)).foldr DataW.insert []).length<=N
  rw [(sorted_perm _).length_eq];simpa using hlen
 ·intro ss hss
  have hp:ss.Perm (es.map kn):=by
   refine hss.trans ?_
   show (((es.map (rg P kt as6)).foldr DataW.insert []).map fun p=>intOf p.1).Perm _
   refine ((sorted_perm _).map _).trans ?_
   rw [hrg,List.map_map]
   exact List.Perm.of_eq (List.map_congr_left (fun e _=>rfl))
  refine ⟨hp.nodup_iff.2 hnd,fun k=> ?_⟩
  rw [hp.mem_iff,List.mem_map]
  constructor
  ·rintro ⟨e,he,rfl⟩
   rw [(hkn e he).2.1];rfl
  ·intro hs
   obtain ⟨v,hv⟩:=Option.isSome_iff_exists.1 hs
   obtain ⟨e,he,h1,h2⟩:=M.has k v hv
   refine ⟨e,he,?_⟩
   have:=(hkn e he).1
   rw [h1] at this
   simpa using this.symm
theorem auy {ss:List Int} (hn:ss.Nodup):(ss.mergeSort fun x y=>decide (x<=y)).Pairwise (· < ·):=by
 have h1:=List.pairwise_mergeSort (le:=fun x y:Int=>decide (x<=y)) (by simpa using fun a b c=>Int.le_trans) (by simpa using fun a b=>Int.le_total a b) ss
 have h2:(ss.mergeSort fun x y=>decide (x<=y)).Nodup:=(List.mergeSort_perm _ _).nodup_iff.2 hn
 rw [List.nodup_iff_pairwise_ne] at h2
 exact (h1.and h2).imp (fun {a b} h=>by have:=h.1;simp at this;have:=h.2;omega)
theorem ayt {W:World} {v:Value} {l:List Int} {et:TypeId} (h:Sep E L w) (hw:W.ownsRow w.heap.size et 1 v l.length (l.map encZ)) (hb:RowKit.Below w.heap.size w W):
  ∃ s:Sl,v= .slice s.p s.n s.c/\s.n=l.length/\Sep E (rowA s 1 (intL l)::L) W:=by
 obtain ⟨hl,h0 | ⟨g,cap,cur,hv,hg,hcell,hle,hmax,hsz,htake⟩⟩:=hw
 ·obtain ⟨rfl,h1⟩:=h0
  have:l= []:=List.eq_nil_of_length_eq_zero h1
  subst this
  refine ⟨⟨none,0,0⟩,rfl,rfl,rowA.none_ (h.grow ⟨hb.os,hb.tape,hb.output,hb.size,hb.block⟩)⟩
 ·refine ⟨⟨some ⟨g,0,none⟩,l.length,cap⟩,hv,rfl,?_⟩
  have hcur:cur.toList=intL l++cur.toList.drop l.length:=by
   have:intL l=cur.toList.take l.length:=by rw [Nat.mul_one] at htake;exact htake.symm
   rw [this,List.take_append_drop]
  have hsz':cur.toList.length=cap:=by simpa using hsz
  have hS:Sep E (blk g (intL l++cur.toList.drop l.length)::L) W:=by
   refine h.new ⟨hb.os,hb.tape,hb.output,hb.size,hb.block⟩ (F':=fun x=>x=g) ⟨⟨et,(0,0),?_,fun _ _ hh=>by omega⟩,fun _=>Iff.rfl⟩ (fun x hx=> ?_)
   ·rw [hcell,<- hcur]
   ·subst hx;exact ⟨hg,(Array.getElem?_eq_some_iff.1 hcell).1⟩
  exact rowA.make hS (by simp) (by simp;omega) hle
end
end Go.Sp
end
section
namespace Go.Sp
open Go Go.Vc
theorem bT {b:Bool} {A B:Prop} (h:b=true) (k:A):bif b then A else B:=by subst h;exact k
theorem bF {b:Bool} {A B:Prop} (h:b=false) (k:B):bif b then A else B:=by subst h;exact k
theorem bLt {n i:Int} {A B:Prop} (h1:n<i ->A) (h2:i<=n ->B):bif decide (n<i) then A else B:=
 bifI (fun h=>h1 (by simpa using h)) (fun h=>h2 (by simpa using h))
theorem bLe {n i:Int} {A B:Prop} (h1:n<=i ->A) (h2:i<n ->B):bif decide (n<=i) then A else B:=
 bifI (fun h=>h1 (by simpa using h)) (fun h=>h2 (by simpa using h))
theorem bGe {n i:Int} {A B:Prop} (h1:i<=n ->A) (h2:n<i ->B):bif decide (n≥i) then A else B:=
 bifI (fun h=>h1 (by simpa using h)) (fun h=>h2 (by simpa using h))
theorem bGt {n i:Int} {A B:Prop} (h1:i<n ->A) (h2:n<=i ->B):bif decide (n>i) then A else B:=
 bifI (fun h=>h1 (by simpa using h)) (fun h=>h2 (by simpa using h))
theorem bNe {n i:Int} {A B:Prop} (h1:n≠i ->A) (h2:n=i ->B):bif (n !=i) then A else B:=
 bifI (fun h=>h1 (by simpa using h)) (fun h=>h2 (by simpa using h))
theorem bEq {n i:Int} {A B:Prop} (h1:n=i ->A) (h2:n≠i ->B):bif (n==i) then A else B:=
 bifI (fun h=>h1 (by simpa using h)) (fun h=>h2 (by simpa using h))
section
variable {E:Env} {L:List Asn} {w:World} {P:Program}
theorem ld {α:Type} {mk:α ->Value} {F:α ->Prop} {a:Addr} {b o:Nat} {c:List Value} {x:α} (h:Sep E L w) (i:Nat) (ha:a=⟨b,o,none⟩) (hi:L[i]? =some (blk b c)) (hv:c[o]? =some (mk x)) (k:F x):
  ∃ x,w.cell? a=some (mk x)/\F x:=⟨x,by rw [ha,h.cellAt i hi];exact hv,k⟩
theorem zst (f:World ->Prop) {b:Nat} {C:List Value} {vs:List Value} (h:Sep E (blk b C::L) w) (hC:C.length=vs.length) (k:∀ w1,Sep E (blk b vs::L) w1 ->f w1):StN vs ⟨b,0,none⟩ f w:=by
 refine StN.i h (by omega) (fun w1 h1=>k w1 ?_)
 rw [aft _ _ _ (by omega)] at h1
 simpa [<- hC] using h1
theorem elI {s:Sl} {l:List Int} {i:Int} {f:Addr ->Prop} (q:Nat) (h:Sep E L w) (hq:L[q]? =some (rowA s 1 (intL l))) (hn:s.n=l.length) (h0:0<=i) (h1:i<l.length)
  (k:∀ a,w.cell? a=some (.int .i64 (l.getD i.toNat 0)) ->f a):elAt s.p s.n i 1 f:=by
 refine rowA.el q h hq h0 (by omega) (fun b _ hc=>k _ ?_)
 have:=hc 0 (by omega)
 rw [Nat.add_zero] at this
 rw [this,Nat.mul_one]
 have hlt:i.toNat<l.length:=by omega
 simp [hlt,List.getD,intL]
theorem elJ {s:Sl} {l:List Int} {i:Int} {f:Addr ->Prop} (q:Nat) (h:Sep E L w) (hq:L[q]? =some (rowA s 1 (intL l))) (hn:s.n=l.length) (h0:0<=i) (h1:i<l.length)
  (k:∀ a,(∀ {L':List Asn} {w':World} (q':Nat),Sep E L' w' ->L'[q']? =some (rowA s 1 (intL l)) ->w'.cell? a=some (.int .i64 (l.getD i.toNat 0))) ->f a):elAt s.p s.n i 1 f:=by
 refine rowA.el q h hq h0 (by omega) (fun b hb _=>k _ (fun {L' w'} q' h' hq'=> ?_))
 have h2:=h'.fr q' hq'
 obtain ⟨b',spare,hb',hl,_,_,h2⟩:=rowA.get_ h2 (by omega)
 have e:b'=b:=by rw [hb] at hb';simpa using hb'.symm
 subst e
 have:=rowA.cell h2 (j:=i.toNat) (by rw [hl,hn];omega)
 rw [Nat.mul_one,this]
 have hlt:i.toNat<l.length:=by omega
 simp [hlt,List.getD,intL]
end
end Go.Sp
end
section
set_option maxRecDepth 100000
namespace Go.Mp
open Go Go.Vc Go.Sp Go.Proofs Go.Kc
theorem aHo {x y:Nat} (hx:x<4294967296) (hy:y<4294967296) (w:World):Calls P ad9 #[.int .u64 (x:Nat),.int .u64 (y:Nat)] w (Ret fun v w'=>v= .tuple #[.int .u64 0,.int .u64 ((x*y:Nat):Int)]/\w'=w):=by
 apply akP
 unfold ahM
 have hxy:x*y<18446744073709551616:=by
  have:x*y<=4294967295*4294967295:=Nat.mul_le_mul (by omega) (by omega)
  omega
 have e1:(x:Int).fdiv (2 ^ (min (32:Int).toNat 64))=((0:Nat):Int):=by
  rw [show (x:Int).fdiv (2 ^ (min (32:Int).toNat 64))=((x / 2 ^ 32:Nat):Int) from sh x 32,Nat.div_eq_of_lt (by omega)]
 have e2:(y:Int).fdiv (2 ^ (min (32:Int).toNat 64))=((0:Nat):Int):=by
  rw [show (y:Int).fdiv (2 ^ (min (32:Int).toNat 64))=((y / 2 ^ 32:Nat):Int) from sh y 32,Nat.div_eq_of_lt (by omega)]
 have m:∀ {z:Nat},z<18446744073709551616 ->andI .u64 (z:Int) 4294967295=((z % 4294967296:Nat):Int):=by
  intro z hz
  have h:=aem (a:=z) (b:=4294967295) hz (by omega)
  have e:z &&& 4294967295=z % 4294967296:=Nat.and_two_pow_sub_one_eq_mod z 32
  rw [e] at h;exact h
 rw [e1,e2,m (by omega),m (by omega),Nat.mod_eq_of_lt hx,Nat.mod_eq_of_lt hy]
 have z1:∀ a:Int,((0:Nat):Int)*a=((0:Nat):Int):=fun a=>by simp
 have z2:∀ a:Int,a*((0:Nat):Int)=((0:Nat):Int):=fun a=>by simp
 rw [z1,z1,z2,u64n (n:=0) (by omega),<- Int.natCast_mul,u64n hxy]
 rw [show ((x*y:Nat):Int).fdiv (2 ^ (min (32:Int).toNat 64))=((x*y / 4294967296:Nat):Int) from sh _ 32]
 rw [show ((0:Nat):Int)+((x*y / 4294967296:Nat):Int)=((x*y / 4294967296:Nat):Int) by omega,u64n (n:=x*y / 4294967296) (by omega)]
 rw [show ((x*y / 4294967296:Nat):Int).fdiv (2 ^ (min (32:Int).toNat 64))=((x*y / 4294967296 / 4294967296:Nat):Int) from sh _ 32]
 rw [m (by omega),show x*y / 4294967296 / 4294967296=0 by omega,Nat.mod_eq_of_lt (by omega)]
 rw [show ((x*y / 4294967296:Nat):Int)+((0:Nat):Int)=((x*y / 4294967296:Nat):Int) by omega,u64n (n:=x*y / 4294967296) (by omega)]
 rw [show ((x*y / 4294967296:Nat):Int).fdiv (2 ^ (min (32:Int).toNat 64))=((x*y / 4294967296 / 4294967296:Nat):Int) from sh _ 32,show x*y / 4294967296 / 4294967296=0 by omega]
 refine ⟨by decide,by decide,by decide,by decide,by decide,?_,rfl⟩
 simp [u64w]
theorem aDj {E:Env} {L:List Asn} {x s:Nat} (hx:x<18446744073709551616) (h0:s≠0) {w:World} (h:Sep E L w):Calls P ad8 #[.int .u64 0,.int .u64 (x:Nat),.int .u64 (s:Nat)] w (Ret fun v w'=>v= .tuple #[.int .u64 ((x / s:Nat):Int),.int .u64 ((x % s:Nat):Int)]/\Sep E L w'):=by
 have key:Calls P ad8 #[.int .u64 0,.int .u64 (x:Nat),.int .u64 (s:Nat)] w (RetP (fun v w'=>v= .tuple #[.int .u64 ((x / s:Nat):Int),.int .u64 ((x % s:Nat):Int)]/\Sep E L w') (fun _ _=>False)):=by
  apply arV
  unfold ahL
  refine ⟨fun w'=>w'=w,bEq (fun e=>absurd e (by omega)) (fun _=>rfl),?_⟩
  rintro _ w1 rfl
  refine ⟨fun w'=>w'=w1,bLe (fun e=>absurd e (by omega)) (fun _=>rfl),?_⟩
  rintro _ w2 rfl
  refine bT rfl (Dr.i h (fun w3 h3=>⟨by omega,by omega,?_,h3⟩))
  have e1:((x:Int)).tdiv (s:Int)=((x / s:Nat):Int):=by rw [Int.tdiv_eq_ediv_of_nonneg (by omega)];exact (Int.natCast_ediv x s).symm
  have e2:((x:Int)).tmod (s:Int)=((x % s:Nat):Int):=by rw [Int.tmod_eq_emod_of_nonneg (by omega)];exact (Int.natCast_emod x s).symm
  have:=Nat.div_le_self x s
  rw [e1,e2,u64n (by omega)]
 refine key.mono fun e w' he=> ?_
 rcases he with he | ⟨ch,_,hf⟩
 ·exact he
 ·exact hf.elim
end Go.Mp
end
section
namespace Go.Kc
open Go.Kt
theorem asL:∀ {l:List Nod} {n i:Nat} {x:Nod},aaL n l=true ->l[i]? =some x ->((n+i=0/\x.parent= -1)\/(0<=x.parent/\x.parent<((n+i:Nat):Int)))/\isA x.use=true/\isA x.own=true
 | [],_,_,_,_,h=>by simp at h
 | y::l,n,0,x,h,hx=>by
  simp only [List.getElem?_cons_zero,Option.some.injEq] at hx
  subst hx
  unfold aaL at h
  simp only [Bool.and_eq_true,Bool.or_eq_true,decide_eq_true_eq] at h
  exact ⟨by simpa using h.1.1.1,h.1.1.2,h.1.2⟩
 | y::l,n,i+1,x,h,hx=>by
  unfold aaL at h
  rw [Bool.and_eq_true] at h
  have:=asL h.2 (i:=i) (by simpa using hx)
  rw [show n+(i+1)=n+1+i by omega];exact this
theorem aoM:∀ {l:List Nod} {n k:Nat},aaL n l=true ->aaL n (l.take k)=true
 | [],n,k,h=>by simp [aaL]
 | y::l,n,0,h=>by simp [aaL]
 | y::l,n,k+1,h=>by
  unfold aaL at h
  rw [Bool.and_eq_true] at h
  show aaL n (y::l.take k)=true
  unfold aaL
  rw [Bool.and_eq_true]
  exact ⟨h.1,aoM h.2⟩
theorem aoL:∀ {l:List Nod} {n:Nat} {x:Nod},aaL n (l++ [x])=(aaL n l&&aaL (n+l.length) [x])
 | [],n,x=>by simp [aaL]
 | y::l,n,x=>by
  obtain ⟨c,hc⟩:∃ c,∀ r:List Nod,aaL n (y::r)=(c&&aaL (n+1) r):=⟨_,fun r=>rfl⟩
  rw [List.cons_append,hc,hc,aoL (l:=l),List.length_cons,show n+(l.length+1)=n+1+l.length by omega,Bool.and_assoc]
theorem ag2 {n:Nat} {x:Nod} :aaL n [x]=(((decide (n=0)&&decide (x.parent= -1))||(decide (0<=x.parent)&&decide (x.parent<(n:Int))))&&isA x.use&&isA x.own):=by
 unfold aaL;unfold aaL;rw [Bool.and_true]
variable {l:List Nod} {t:Int}
theorem agQ (h:ab8 l=true) {i:Nat} {x:Nod} (hx:l[i]? =some x):((i=0/\x.parent= -1)\/(0<=x.parent/\x.parent<(i:Int)))/\(0<=x.use/\x.use<=top)/\0<=x.own/\x.own<=top:=by
 unfold ab8 at h
 rw [Bool.and_eq_true] at h
 have:=asL h.1 hx
 rw [Nat.zero_add,asW,asW] at this
 exact this
theorem aGa (h:ab8 l=true):l.length<=64:=by
 unfold ab8 at h
 rw [Bool.and_eq_true,decide_eq_true_eq] at h
 exact h.2
theorem aok {i:Nat} {x:Nod} (hx:l[i]? =some x):nAt l (i:Int)=x:=by unfold nAt;rw [Int.toNat_natCast,List.getD_eq_getElem?_getD,hx];rfl
theorem aCe (h:ab8 l=true):∀ (f f':Nat) (x:Int),x<l.length ->(x+1).toNat<f ->(x+1).toNat<f' ->upN l t f x=upN l t f' x
 | 0,_,_,_,h1,_=>by omega
 | _,0,_,_,_,h1=>by omega
 | f+1,f'+1,x,hx,h1,h2=>by
  unfold upN
  split
  ·rfl
  ·split
   ·rfl
   ·next hne h0=>
    obtain ⟨n,rfl⟩:∃ n:Nat,x=n:=⟨x.toNat,by omega⟩
    obtain ⟨y,hy⟩:∃ y,l[n]? =some y:=⟨_,List.getElem?_eq_getElem (by omega)⟩
    rw [aok hy]
    have hv:=(agQ h hy).1
    rw [aCe h f f' y.parent (by omega) (by omega) (by omega)]
theorem apH {f:Nat} {x:Int} (hne:x≠t):upN l t (f+1) x=x::(if x<0 then [] else upN l t f (nAt l x).parent):=by
 rw [upN,if_neg hne]
 split<;>rfl
theorem aF2 (h:ab8 l=true):∀ (f:Nat) (g:Int),g<l.length ->∀ x∈upN l t f g,x<l.length
 | 0,_,_,x,hx=>by simp [upN] at hx
 | f+1,g,hg,x,hx=>by
  by_cases hne:g=t
  ·rw [upN,if_pos hne] at hx;cases hx
  ·rw [apH hne] at hx
   rcases List.mem_cons.1 hx with rfl | hx
   ·exact hg
   ·split at hx
    ·cases hx
    ·next h0=>
     obtain ⟨n,rfl⟩:∃ n:Nat,g=n:=⟨g.toNat,by omega⟩
     obtain ⟨y,hy⟩:∃ y,l[n]? =some y:=⟨_,List.getElem?_eq_getElem (by omega)⟩
     rw [aok hy] at hx
     have hv:=(agQ h hy).1
     exact aF2 h f y.parent (by omega) x hx
theorem aAP (h:ab8 l=true) (ht:0<=t) {i:Nat} {x:Nod} (hx:l[i]? =some x) (hb:agT l i t=true) (hne:(i:Int)≠t):0<=x.parent/\x.parent<(i:Int):=by
 have hlt:=(List.getElem?_eq_some_iff.1 hx).1
 rcases (agQ h hx).1 with ⟨rfl,hp⟩ | hp
 ·exfalso
  unfold agT ups at hb
  rw [apH hne,if_neg (by omega),aok hx,hp] at hb
  obtain ⟨m,hm⟩:∃ m,l.length=m+1:=⟨l.length - 1,by omega⟩
  rw [hm,apH (by omega)] at hb
  simp at hb
 ·exact hp
theorem arq (l:List Nod) (t:Int):∀ (a b:List Nod) (out:List Int),ahg l t (a++b) out=ahg l t b (ahg l t a out)
 | [],b,out=>rfl
 | x::a,b,out=>by
  show ahg l t (a++b) _=ahg l t b (ahg l t a _)
  rw [arq l t a b]
theorem ars (l:List Nod) (t:Int):∀ (a:List Nod) (out:List Int),(ahg l t a out).length=out.length+a.length
 | [],out=>rfl
 | x::a,out=>by
  show (ahg l t a _).length=_
  rw [ars l t a,List.length_append];simp;omega
def aa5 (l:List Nod) (t:Int) (k:Nat):List Int:=ahg l t (l.take k) []
theorem alz {k:Nat} (hk:k<=l.length):(aa5 l t k).length=k:=by
 unfold aa5;rw [ars,List.length_take];simp;omega
theorem anI {k:Nat} {x:Nod} (hx:l[k]? =some x):aa5 l t (k+1)=aa5 l t k++ [aix l t (aa5 l t k) k x]:=by
 have hlt:=(List.getElem?_eq_some_iff.1 hx).1
 have hl:=alz (l:=l) (t:=t) (k:=k) (by omega)
 have:l.take (k+1)=l.take k++ [x]:=by rw [List.take_add_one,hx];rfl
 unfold aa5 at hl ⊢
 rw [this,arq]
 show ahg l t (l.take k) []++ [aix l t _ (ahg l t (l.take k) []).length x]=_
 rw [hl]
theorem aou {x:Nod} (hu:0<=x.use/\x.use<=top) (ho:0<=x.own/\x.own<=top):0<=x.ownN/\x.ownN<=x.use:=by unfold Nod.ownN;omega
theorem aGq {x:Nod} (hx:0<=x.ownN) {out:List Int} (hout:∀ y∈out,0<=y) (i:Nat):0<=aix l t out i x/\aix l t out i x<=x.ownN:=by
 unfold aix
 split
 ·exact ⟨Int.le_refl _,hx⟩
 ·split
  ·next h=>
   have h0:0<=out.getD x.parent.toNat 0:=by
    rw [List.getD_eq_getElem?_getD]
    cases hh:out[x.parent.toNat]? with
    | none=>exact Int.le_refl _
    | some y=>exact hout y (List.mem_of_getElem? hh)
   have hs:0<sumOf l x.parent:=by omega
   refine ⟨Int.ediv_nonneg (Int.mul_nonneg hx h0) (by omega),?_⟩
   have h1:x.ownN*out.getD x.parent.toNat 0<=x.ownN*sumOf l x.parent:=Int.mul_le_mul_of_nonneg_left (by omega) hx
   have h2:=Int.ediv_le_ediv hs h1
   rw [Int.mul_ediv_cancel _ (by omega)] at h2
   exact h2
  ·exact ⟨hx,Int.le_refl _⟩
theorem art (h:ab8 l=true):∀ (k:Nat),k<=l.length ->∀ (i:Nat) (y:Int),(aa5 l t k)[i]? =some y ->0<=y/\∃ x,l[i]? =some x/\y<=x.ownN
 | 0,_,i,y,hy=>by simp [aa5,ahg] at hy
 | k+1,hk,i,y,hy=>by
  obtain ⟨x,hx⟩:∃ x,l[k]? =some x:=⟨_,List.getElem?_eq_getElem (by omega)⟩
  rw [anI hx] at hy
  have hl:=alz (l:=l) (t:=t) (k:=k) (by omega)
  rcases Nat.lt_or_ge i k with hi | hi
  ·rw [List.getElem?_append_left (by omega)] at hy
   exact art h k (by omega) i y hy
  ·rw [List.getElem?_append_right (by omega),hl] at hy
   have hik:i - k=0:=by
    rcases Nat.eq_zero_or_pos (i - k) with e | e
    ·exact e
    ·rw [List.getElem?_eq_none (by simp;omega)] at hy;cases hy
   rw [hik] at hy
   simp only [List.getElem?_cons_zero,Option.some.injEq] at hy
   have hik:i=k:=by omega
   subst hik
   have hv:=agQ h hx
   have:=aGq (l:=l) (t:=t) (x:=x) (aou hv.2.1 hv.2.2).1 (out:=aa5 l t i) (fun y hy=>by
    obtain ⟨j,hj,rfl⟩:=List.mem_iff_getElem.1 hy
    exact (art h i (by omega) j _ (List.getElem?_eq_getElem hj)).1) i
   rw [hy] at this
   exact ⟨this.1,x,hx,this.2⟩
def ag1 (l:List Nod) (k:Nat) (p:Int):Int:=(((l.drop 1).take k).filter fun x=>x.parent==p).foldl (fun s x=>s+x.ownN) 0
theorem auH {k:Nat} {x:Nod} (hx:(l.drop 1)[k]? =some x) (p:Int):ag1 l (k+1) p=if x.parent=p then ag1 l k p+x.ownN else ag1 l k p:=by
 unfold ag1
 have:(l.drop 1).take (k+1)=(l.drop 1).take k++ [x]:=by rw [List.take_add_one,hx];rfl
 rw [this,List.filter_append,List.foldl_append,List.filter_cons]
 by_cases e:x.parent=p
 ·rw [if_pos e,if_pos (by simpa using e)];rfl
 ·rw [if_neg e,if_neg (by simpa using e)];rfl
theorem axy (p:Int):ag1 l (l.length - 1) p=sumOf l p:=by
 unfold ag1 sumOf
 rw [List.take_of_length_le (by simp)]
theorem asC (h:ab8 l=true) (p:Int):∀ (k:Nat),k<l.length ->0<=ag1 l k p/\ag1 l k p<=k*top
 | 0,_=>by show 0<=(0:Int)/\(0:Int)<=_;omega
 | k+1,hk=>by
  obtain ⟨x,hx⟩:∃ x,l[k+1]? =some x:=⟨_,List.getElem?_eq_getElem (by omega)⟩
  have hx':(l.drop 1)[k]? =some x:=by rw [List.getElem?_drop,Nat.add_comm];exact hx
  have ih:=asC h p k (by omega)
  have hv:=agQ h hx
  have ho:=aou hv.2.1 hv.2.2
  rw [auH hx']
  have e:((k+1:Nat):Int)*top=(k:Int)*top+top:=by rw [Int.natCast_add,Int.add_mul];simp
  rw [e]
  have:0<=top:=by decide
  split<;>omega
end Go.Kc
end
section
namespace Go.Sp
open Go Go.Vc
section
variable {E:Env} {L:List Asn} {w:World} {P:Program}
theorem Sep.putObj {b:Nat} {o o':Obj} (h:Sep E (objB b o::L) w):Sep E (objB b o'::L) (w.putObj b o'):=by
 have hb:=h.objBlock
 have hlt:b<w.heap.size:=(Array.getElem?_eq_some_iff.1 hb).1
 refine h.change (A':=objB b o') rfl (by simp) (fun F hF hl=>⟨fun x _ hnF=> ?_,F,⟨?_,hF.2⟩,fun x hx=>⟨?_,.inl hx⟩⟩)
 ·exact World.putObj_heap_other (fun e=>hnF ((hF.2 x).2 e))
 ·exact World.putObj_heap_same hlt
 ·simpa using hl x hx
theorem ahn.i {l:Nat} {r:Loop} {f:World ->Prop} (h:Sep E (objB l (.loop r)::L) w) (hr:r.state= .ready) (k:∀ w1,Sep E (objB l (.loop {r with state:= .busy})::L) w1 ->f w1):ahn l f w:=
 ⟨r,h.objBlock,hr,k _ h.putObj⟩
theorem EndR.i {l:Nat} {r:Loop} {j:Option Code} {R:Ending ->World ->Prop} (h:Sep E (objB l (.loop r)::L) w)
  (k:∀ w1,Sep E (objB l (.loop {r with state:=if j.isNone then .ready else .done,pending:=j})::L) w1 ->R (.returned (.bool j.isNone)) w1):EndR l j R w:=
 ⟨r,h.objBlock,k _ h.putObj⟩
def axI (P:Program) (E:Env) (f:FuncId) (ca:Array Value) (A A':Asn) (xs:List Value):Prop:=
 ∀ (l:Nat) (J X:Nat ->Asn),(∀ L k x W,xs[k]? =some x ->Sep E (J k::L) W ->YieldAt Fence.wide 0 P l #[x] W (fun e W'=>
   (e= .returned (.bool true)/\Sep E (J (k+1)::L) W')\/(e= .returned (.bool false)/\Sep E (X k::L) W'))) ->
  ∀ L W,Sep E (J 0::A::L) W ->Calls P f (#[.func (.yield l) #[] #[]]++ca) W (fun e W'=>(∃ v,e= .returned v)/\(Sep E (J xs.length::A'::L) W'\/∃ k,k<xs.length/\Sep E (X k::A'::L) W'))
theorem af6.i {τ:TypeId ->K1} {ρ:TypeId ->Kd} {pan:FuncId ->Bool} {An:Ann} {yl:Nat ->Bool} {N p:Nat} {f:FuncId} {ca:Array Value} {A A':Asn} {xs:List Value} {asg body:Code} {T:Tr} {done ret:Nat ->World ->Prop}
  (hm:P.follows .mixedOrders=true) (hN:N<=8000) (hp:p<N) (hok:abA P N An asg=true/\abA P N An body=true) (hf:aju P f=true) (hs:axI P E f ca A A' xs) (Jb Xb:Nat ->Asn)
  (hround:∀ (l:Nat) (r:Loop) L k x W R,r.state= .ready ->r.pending=none ->xs[k]? =some x ->Sep E (objB l (.loop r)::Jb k::L) W ->(∀ W',Sep E (objB l (.loop r)::Jb (k+1)::L) W' ->R (.returned (.bool true)) W') ->
   (∀ W',Sep E (objB l (.loop {r with state:= .done,pending:=some .ret})::Xb k::L) W' ->R (.returned (.bool false)) W') ->af0 P τ ρ pan An yl N l asg body (ah7 [(p,x)] T) W R)
  (h:Sep E (Jb 0::A::L) w) (hdone:∀ b W,Sep E (objB b (.deferred (some []))::Jb xs.length::A'::L) W ->done b W)
  (hret:∀ b k W,k<xs.length ->Sep E (objB b (.deferred (some []))::Xb k::A'::L) W ->ret b W):af6 P N (.func (.func f) #[] ca) #[p] asg body T w done ret:=by
 refine ⟨f,ca,rfl,hf,fun fn tm hsz htm=> ?_⟩
 have h1:=h.allocO (.deferred (some []))
 have h2:=h1.allocO (.loop (am9 fn tm #[p] asg body w.heap.size))
 rw [size_alloc] at h2
 generalize hr:am9 fn tm #[p] asg body w.heap.size=r at h2 ⊢
 have hr1:r.state= .ready:=by rw [<- hr];rfl
 have hr2:r.pending=none:=by rw [<- hr];rfl
 have hr3:r.params= #[p]:=by rw [<- hr];rfl
 have hr4:r.tmps=tm:=by rw [<- hr];rfl
 have hr5:r.assign=asg:=by rw [<- hr];rfl
 have hr6:r.body=body:=by rw [<- hr];rfl
 generalize w.heap.size=b at h2 ⊢
 have h3:Sep E (star (objB (b+1) (.loop r)) (star (objB b (.deferred (some []))) (Jb 0))::A::L) ((w.alloc (.deferred (some []))).alloc (.loop r)):=
  Sep.star.2 ((Sep.star.2 ((h2.ro 3 [1,2,0] rfl))).swap)
 refine Calls.mono (hs (b+1) (fun k=>star (objB (b+1) (.loop r)) (star (objB b (.deferred (some []))) (Jb k))) (fun k=>star (objB (b+1) (.loop {r with state:= .done,pending:=some .ret})) (star (objB b (.deferred (some []))) (Xb k)))
  (fun L' k x W hx hW=> ?_) L _ h3) (fun e W' he=> ?_)
 ·have hW1:=Sep.star.1 ((Sep.star.1 hW).swap)
  have hW2:Sep E (objB (b+1) (.loop r)::Jb k::objB b (.deferred (some []))::L') W:=hW1.ro 3 [2,1,0] rfl
  refine aCw (τ:=τ) (ρ:=ρ) (pan:=pan) (A:=An) (yl:=yl) (N:=N) (T:=T) hm hN hW2.objBlock (by rw [hr3];rfl) (by rw [hr4];exact hsz) (by rw [hr4];exact htm) (fun t ht=> ?_) (by rw [hr5];exact hok.1) (by rw [hr6];exact hok.2) ?_
  ·rw [hr3] at ht
   have:t=p:=by simpa using ht
   rw [this];exact hp
  ·have hz:(r.params.zip #[x]).toList= [(p,x)]:=by rw [hr3,Array.toList_zip];rfl
   have key:∀ R,af0 P τ ρ pan An yl N (b+1) asg body (ah7 [(p,x)] T) W R ->af0 P τ ρ pan An yl N (b+1) r.assign r.body (ah7 (r.params.zip #[x]).toList T) W R:=by
    intro R hR;rw [hz,hr5,hr6];exact hR
   refine key _ (hround (b+1) r _ k x W _ hr1 hr2 hx hW2 (fun W' h'=> .inl ⟨rfl,?_⟩) (fun W' h'=> .inr ⟨rfl,?_⟩))
   ·exact Sep.star.2 ((Sep.star.2 (h'.ro 3 [2,1,0] rfl)).swap)
   ·exact Sep.star.2 ((Sep.star.2 (h'.ro 3 [2,1,0] rfl)).swap)
 ·obtain ⟨⟨v,rfl⟩,he⟩:=he
  rcases he with he | ⟨k,hk,he⟩
  ·have h5:=Sep.star.1 he
   refine ⟨r,h5.objBlock,by rw [hr1];simp,?_⟩
   have h6:=(h5.putObj (o':= .loop {r with state:= .exhausted})).tail
   generalize W'.putObj (b+1) (.loop {r with state:= .exhausted})=wX at h6 ⊢
   rw [hr2]
   exact hdone _ _ (Sep.star.1 h6)
  ·have h5:=Sep.star.1 he
   exact ⟨_,h5.objBlock,by simp,hret _ k _ hk (Sep.star.1 (h5.putObj).tail)⟩
end
end Go.Sp
end
section
namespace Go.Sp
open Go Go.Vc
section
variable {E:Env} {L:List Asn} {w:World} {P:Program} {s:Sl} {m:Nat} {vs:List Value}
theorem rowA.cap (h:Sep E (rowA s m vs::L) w):s.n<=s.c:=by
 unfold rowA at h
 split at h
 ·obtain ⟨⟨h1,h2,_⟩,_⟩:=Sep.pur.1 h;omega
 ·obtain ⟨_,h⟩:=Sep.ex.1 h
  exact (Sep.pur.1 h).1.2.2.2.2
theorem elC {α:Type} {f:α ->List Value} {l:List α} (hf:∀ a,(f a).length=m) {F:Addr ->Prop} {i:Int} {k:Nat} {a:α} (q:Nat) (h:Sep E L w) (hq:L[q]? =some (rowA s m (recs f l))) (hn:s.n=l.length) (hi:i=k) (ha:l[k]? =some a)
  (kk:∀ b,s.p=some ⟨b,0,none⟩ ->(∀ j v,(f a)[j]? =some v ->w.cell? ⟨b,k*m+j,none⟩=some v) ->F ⟨b,k*m,none⟩):elAt s.p s.n i m F:=by
 have hlt:=(List.getElem?_eq_some_iff.1 ha).1
 have hik:i.toNat=k:=by omega
 refine rowA.el q h hq (by omega) (by omega) (fun b hb hc=> ?_)
 rw [hik] at hc ⊢
 refine kk b hb (fun j v hj=> ?_)
 have hjm:j<m:=by have:=(List.getElem?_eq_some_iff.1 hj).1;rwa [hf] at this
 rw [hc j hjm,aov hf ha j hjm];exact hj
theorem stC {α:Type} {f:α ->List Value} {l:List α} (hf:∀ a,(f a).length=m) {F:World ->Prop} {k j b:Nat} {a a':α} {v:Value} (h:Sep E (rowA s m (recs f l)::L) w) (hb:s.p=some ⟨b,0,none⟩) (ha:l[k]? =some a) (hj:j<m) (ha':f a'=(f a).set j v)
  (kk:∀ w1,Sep E (rowA s m (recs f (l.set k a'))::L) w1 ->F w1):St ⟨b,k*m+j,none⟩ v F w:=by
 have hlt:=(List.getElem?_eq_some_iff.1 ha).1
 refine rowA.st h hb ?_ (fun w1 h1=>kk w1 ?_)
 ·rw [ag5 hf]
  have:(k+1)*m<=l.length*m:=Nat.mul_le_mul_right _ hlt
  rw [Nat.succ_mul] at this;omega
 ·rw [avM hf ha hj ha'] at h1;exact h1
end
end Go.Sp
end
