/- Core: Shrinking takes nothing from whom it is held by a low, or a min: the law answers true and lets its arguments be; for every input. -/
import Derived.Test.YtkjijachkcmelaaGreatDoorC14
import Derived.Test.YtkjijachkcmelaaGreatDoorProg
import Derived.Test.YtkjijachkcmelaaGreatDoorChecked
import Derived.ProofKit
import Derived.OpenVars
import Derived.LaidMore
import Derived.Lay
import Derived.OpenShut
import Derived.Stop.LaidErr
import Derived.Lib.LaidTab
import Derived.SevenTiedAt
import Derived.Test.YtkjijachkcmelaaGreatDoorRows
import Derived.Test.YtkjijachkcmelaaGreatDoorTie
import Derived.Test.YtkjijachkcmelaaGreatDoorCards
set_option linter.all false
section
namespace Go.Mp
open Go Go.Vc
abbrev aaT:FuncId:=5
noncomputable abbrev aaN:Func:=Go.Proofs.Tryz.f5
theorem aee:P.funcs[aaT]? =some aaN:=Go.Proofs.Tryz.func5
end Go.Mp
end
section
namespace Go.Sp
open Go Go.Vc Go.RowKit Go.ChangeShapes
section
variable {P:Program} {W:World} {t:TypeId} {cs:List Value}
theorem Rd.bool1 {v:Value} (h:Rd P W t [v]) (ht:P.underlying t=some .bool):∃ b,v= .bool b:=by
 obtain ⟨n,h1⟩:=h.bool ht
 exact ⟨n,by simpa using h1⟩
end
section
variable {H:Type} {enc:TypeId×Value ->H} {P:Program}
end
end Go.Sp
end
section
set_option maxRecDepth 100000
namespace Go.Mp
open Go Go.Vc Go.Proofs
variable {K:Value ->World ->Prop} {w:World}
def aly:Ann:= {quiet:=fun d=> [24,27,31,35,39,43,59,62,66,68,74,76,95,102,103,104,112,113,114,123,125,126,127,128,133,139,140,147,155,156,157].contains d,loop:=fun r=>(bif r==12 then [(15,.int .i64)] else bif r==16 then [(16,.int .i64)] else []),join:=fun r=>(bif r==6 then some [] else bif r==11 then some [] else bif r==22 then some [(17,.int .i64)] else none)}
def al4 (n:Int) (m:Int) (k:Int) (low:Bool) (K:Value ->World ->Prop) (w:World):Prop:=
 Calls P aao #[] w fun e2 w1=>∃ x3,e2= .returned (.bool x3)/\bif (!x3) then (K (.bool false) w1) else (∃ J4:World ->Prop,(bif (decide (n<1)) then (K (.bool x3) w1) else (bif (decide (n>8)) then (K (.bool x3) w1) else (bif (decide (m<0)) then (K (.bool x3) w1) else (bif (decide (m>8)) then (K (.bool x3) w1) else (bif (decide (k<1)) then (K (.bool x3) w1) else (bif (decide (k>20)) then (K (.bool x3) w1) else (J4 w1)))))))/\(∀ _u6:Nat ->Value,∀ w5:World,J4 w5 ->Al (.cells #[(Iv 8)] 3) (fun p7 w8=>Calls P abD #[(Iv 20),(Iv 20),(.slice (some p7) 1 1)] w8 fun e10 w9=>∃ x11,e10= .returned (Pv x11)/\Calls P abW #[(Pv x11),(Iv 0)] w9 fun e13 w12=>∃ x14:Int,∃ x15:Int,e13= .returned (.tuple #[(Iv x14),(Iv x15)])/\Calls P abW #[(Pv x11),(Iv 0)] w12 fun e17 w16=>∃ x18:Int,∃ x19:Int,e17= .returned (.tuple #[(Iv x18),(Iv x19)])/\∃ J20:World ->Prop,(bif (x15 !=0) then (K (.bool false) w16) else (bif (x19 !=0) then (K (.bool false) w16) else (J20 w16)))/\(∀ _u22:Nat ->Value,∀ w21:World,J20 w21 ->∃ (I23:Int ->World ->Prop) (M24:Int ->World ->Nat),I23 0 w21/\∀ _u26:Nat ->Value,∀ i27 w25,I23 i27 w25 ->bif (decide (i27<n)) then (Calls P aa1 #[(Pv x11),(Iv x14)] w25 fun e29 w28=>∃ x30:Int,∃ x31:Int,∃ x32:Int,e29= .returned (.tuple #[(Iv x30),(Iv x31),(Iv x32)])/\(I23 (IntKind.i64.wrap (i27+1)) w28/\M24 (IntKind.i64.wrap (i27+1)) w28<M24 i27 w25)) else (∃ (I33:Int ->World ->Prop) (M34:Int ->World ->Nat),I33 0 w25/\∀ _u36:Nat ->Value,∀ i37 w35,I33 i37 w35 ->bif (decide (i37<m)) then (Calls P afD #[(Pv x11),(.agg #[(Iv 0),(Iv i37)]),(Iv x18)] w35 fun e39 w38=>∃ x40:Int,∃ x41:Int,∃ x42:Int,e39= .returned (.tuple #[(Iv x40),(Iv x41),(Iv x42)])/\(I33 (IntKind.i64.wrap (i37+1)) w38/\M34 (IntKind.i64.wrap (i37+1)) w38<M34 i37 w35)) else (∃ J43:Int ->World ->Prop,(bif low then (J43 1 w35) else (J43 0 w35))/\(∀ _u45:Nat ->Value,∀ what46 w44,J43 what46 w44 ->Calls P ad5 #[(Pv x11),(Iv x14),(Iv what46),(Iv n)] w44 fun e48 w47=>∃ x49,e48= .returned (Iv x49)/\Calls P acU #[(Pv x11),(Iv 0),(Iv k)] w47 fun e51 w50=>∃ x52,e51= .returned (Iv x52)/\bif low then (bif x3 then (bif (x49==0) then (bif (x52==(min1 k (IntKind.i64.wrap (n+m)))) then (Calls P aae #[(Pv x11),(Iv x18)] w50 fun e54 w53=>∃ x55,e54= .returned (Iv x55)/\bif (x55==(max1 (IntKind.i64.wrap (m - k)) 0)) then (Calls P aae #[(Pv x11),(Iv x14)] w53 fun e57 w56=>∃ x58,e57= .returned (Iv x58)/\K (.bool (x58==(min1 n (max1 (IntKind.i64.wrap ((IntKind.i64.wrap (n+m)) - k)) 0)))) w56) else (K (.bool false) w53)) else (K (.bool false) w50)) else (K (.bool false) w50)) else (K (.bool false) w50)) else (bif x3 then (bif (x49==0) then (bif (x52==(min1 k m)) then (Calls P aae #[(Pv x11),(Iv x14)] w50 fun e60 w59=>∃ x61,e60= .returned (Iv x61)/\bif (x61==n) then (Calls P aae #[(Pv x11),(Iv x18)] w59 fun e63 w62=>∃ x64,e63= .returned (Iv x64)/\K (.bool (x64==(max1 (IntKind.i64.wrap (m - k)) 0))) w62) else (K (.bool false) w59)) else (K (.bool false) w50)) else (K (.bool false) w50)) else (K (.bool false) w50))))))) w5))
theorem al1 (n:Int) (m:Int) (k:Int) (low:Bool) (h:al4 n m k low K w):Calls P aaT #[(Iv n),(Iv m),(Iv k),(.bool low)] w (Ret K):=ofVc (A:=aly) Tryz.func5 (by kernel_rfl) (by kernel_rfl) h
end Go.Mp
end
section
set_option maxRecDepth 100000
namespace Go.Proofs.YtkjijachkcmelaaGreatDoor
open Go Go.Vc Go.Sp Go.Mp Go.RowKit Go.ChangeShapes
theorem ao9 {α:Type} {a:Array α} (h:a.size=4):∃ x0 x1 x2 x3,a= #[x0,x1,x2,x3]:=by
 obtain ⟨l⟩:=a
 match l,h with
 | [x0,x1,x2,x3],_=>exact ⟨x0,x1,x2,x3,rfl⟩
theorem aGi {W:World} {base:Nat} {v:Value} (h:Rd P W aeL v.cells.toList/\Value.okWide P W .any base aeL v):∃ b,v= .bool b:=by
 obtain ⟨h1,h2⟩:=h
 rw [ahF h2 (by kernel_rfl)] at h1
 obtain ⟨b,h3⟩:=h1.bool1 (by kernel_rfl)
 exact ⟨b,h3⟩
end Go.Proofs.YtkjijachkcmelaaGreatDoor
end
section
set_option maxRecDepth 100000
namespace Go.Kc
open Go
def lo1:Cs:=Kc.new 20 20 [8]
def lo2:Cs:=(lo1.addGroup 0).1
def lo0:Cs:=(lo2.addGroup 0).1
def loN:Nat ->Cs
 | 0=>lo0
 | n+1=>((loN n).fresh 1).1
def loM (n:Nat):Nat ->Cs
 | 0=>loN n
 | m+1=>((loM n m).openF (0,(m:Int)) 2).1
def okL (n m k:Nat) (low:Bool):Bool:=
 let g:=(loM n m).limit 1 (if low then 1 else 0) n
 let r:=g.1.shrink 0 k
 g.2==0&&(if low then r.2==((min k (n+m):Nat):Int)&&r.1.memory 2==((m - k:Nat):Int)&&r.1.memory 1==((min n (n+m - k):Nat):Int)
  else r.2==((min k m:Nat):Int)&&r.1.memory 1==(n:Int)&&r.1.memory 2==((m - k:Nat):Int))
def okLs (n:Nat):Bool:=(List.range 9).all fun m=>(List.range 20).all fun k=>okL n m (k+1) true&&okL n m (k+1) false
theorem lo_1:okLs 1=true:=by decide+kernel
theorem lo_2:okLs 2=true:=by decide+kernel
theorem lo_3:okLs 3=true:=by decide+kernel
theorem lo_4:okLs 4=true:=by decide+kernel
theorem lo_5:okLs 5=true:=by decide+kernel
theorem lo_6:okLs 6=true:=by decide+kernel
theorem lo_7:okLs 7=true:=by decide+kernel
theorem lo_8:okLs 8=true:=by decide+kernel
theorem aIf {n m k:Nat} (h1:1<=n) (h2:n<=8) (hm:m<=8) (h3:1<=k) (h4:k<=20) (low:Bool):okL n m k low=true:=by
 have h:okLs n=true:=by
  match n,h1,h2 with
  | 1,_,_=>exact lo_1
  | 2,_,_=>exact lo_2
  | 3,_,_=>exact lo_3
  | 4,_,_=>exact lo_4
  | 5,_,_=>exact lo_5
  | 6,_,_=>exact lo_6
  | 7,_,_=>exact lo_7
  | 8,_,_=>exact lo_8
  | n+9,_,h=>omega
 have:=List.all_eq_true.1 (List.all_eq_true.1 h m (List.mem_range.2 (by omega))) (k - 1) (List.mem_range.2 (by omega))
 rw [show k - 1+1=k by omega,Bool.and_eq_true] at this
 cases low with
 | true=>exact this.1
 | false=>exact this.2
theorem ayX:(lo1.addGroup 0).2=(1,0)/\(lo2.addGroup 0).2=(2,0):=by decide+kernel
theorem aDD:((List.range 9).all fun n=>decide ((loN n).pages.next<16777216)&&(List.range 9).all fun m=>decide ((loM n m).pages.next<16777216))=true:=by decide+kernel
theorem aDB:Inv lo1:=Inv.new 20 20 [8]
theorem aDC:Inv lo2:=aDB.addGroup 0
theorem aHD:Inv lo0:=aDC.addGroup 0
theorem aGB {n:Nat} (h:n<9):(loN n).pages.next<16777216:=by
 have:=List.all_eq_true.1 aDD n (List.mem_range.2 h)
 rw [Bool.and_eq_true] at this
 simpa using this.1
theorem aBJ {n m:Nat} (h:n<9) (hm:m<9):(loM n m).pages.next<16777216:=by
 have:=List.all_eq_true.1 aDD n (List.mem_range.2 h)
 rw [Bool.and_eq_true] at this
 simpa using List.all_eq_true.1 this.2 m (List.mem_range.2 hm)
theorem ayg:∀ n:Nat,n<9 ->Inv (loN n)
 | 0,_=>aHD
 | n+1,h=>(ayg n (by omega)).fresh (aGB (by omega)) 1
theorem ayf {n:Nat} (hn:n<9):∀ m:Nat,m<9 ->Inv (loM n m)
 | 0,_=>ayg n hn
 | m+1,h=>(ayf hn m (by omega)).openF (aBJ hn (by omega)) _ 2
end Go.Kc
end
section
set_option maxRecDepth 100000
namespace Go.Mp
open Go Go.Vc Go.Sp Go.Proofs Go.Kc
variable {E:Env} {L:List Asn} {w:World}
theorem aEm {W:World} {n m k:Int} {low:Bool} (h:Sep E (tabA W.heap::L) w):
  Calls P aaT #[.int .i64 n,.int .i64 m,.int .i64 k,.bool low] w (Ret fun v w'=>v= .bool true/\Sep E (tabA W.heap::L) w'):=by
 apply al1
 refine use (afP h) ?_
 rintro _ w1 ⟨rfl,h1⟩
 refine ⟨_,rfl,bF rfl ⟨fun w'=>(1<=n/\n<=8/\0<=m/\m<=8/\1<=k/\k<=20)/\Sep E (tabA W.heap::L) w',bLt (fun _=>⟨rfl,h1⟩) (fun a1=>bGt (fun _=>⟨rfl,h1⟩) (fun a2=>bLt (fun _=>⟨rfl,h1⟩) (fun a3=>bGt (fun _=>⟨rfl,h1⟩) (fun a4=>bLt (fun _=>⟨rfl,h1⟩) (fun a5=>bGt (fun _=>⟨rfl,h1⟩) (fun a6=>⟨by omega,h1⟩)))))),?_⟩⟩
 rintro _ w2 ⟨⟨a1,a2,a3,a4,a5,a6⟩,h2⟩
 obtain ⟨N,rfl⟩:∃ N:Nat,n=N:=⟨n.toNat,by omega⟩
 obtain ⟨M,rfl⟩:∃ M:Nat,m=M:=⟨m.toNat,by omega⟩
 obtain ⟨K,rfl⟩:∃ K:Nat,k=K:=⟨k.toNat,by omega⟩
 refine Al.i h2 (fun b w3 h3=> ?_)
 have h3:Sep E (tabA W.heap::blk b (intL [8])::L) w3:=h3.swap
 refine use (afB (sz:=⟨some ⟨b,0,none⟩,1,1⟩) (l:= [8]) (Ints.blk_ (b:=b) (c:=1) (gs:= [8]) (q:=1) rfl) (Nat.le_refl _) h3) ?_
 rintro _ w4 ⟨A,rfl,ho,h4⟩
 have h4:Sep E (aaa A lo1++L) w4:=h4.cut
 refine ⟨_,rfl,use (ajb aDB h4) ?_⟩
 rintro _ w5 ⟨rfl,g1,u1,h5⟩
 rw [ayX.1]
 refine ⟨_,_,rfl,use (ajb (A:= {A with gs:=g1,us:=u1}) aDC h5) ?_⟩
 rintro _ w6 ⟨rfl,g2,u2,h6⟩
 rw [ayX.2]
 obtain ⟨B,hB⟩:∃ B:At,B= {A with gs:=g2,us:=u2} :=⟨_,rfl⟩
 have hBo:B.o=W.heap:=by rw [hB];exact ho
 have hBc:A.c=B.c:=by rw [hB]
 have h6:Sep E (aaa B lo0++L) w6:=by rw [hB];exact h6
 rw [hBc]
 refine ⟨_,_,rfl,fun w'=>Sep E (aaa B lo0++L) w',bNe (fun e=>absurd rfl e) (fun _=>bNe (fun e=>absurd rfl e) (fun _=>h6)),?_⟩
 intro _ w7 h7
 refine ⟨fun i w'=>∃ j:Nat,i=j/\j<=N/\Sep E (aaa B (loN j)++L) w',fun i _=>(N - i).toNat,⟨0,rfl,Nat.zero_le _,h7⟩,?_⟩
 rintro _ _ w8 ⟨j,rfl,hj,h8⟩
 refine bLt (fun hlt=> ?_) (fun hge=> ?_)
 ·refine use (afO (ayg j (by omega)) h8) ?_
  rintro _ w9 ⟨rfl,h9⟩
  rw [aah (by omega)]
  exact ⟨_,_,_,rfl,⟨j+1,rfl,by omega,h9⟩,by show ((N:Int) - ((j+1:Nat):Int)).toNat<((N:Int) - (j:Int)).toNat;omega⟩
 have:j=N:=by omega
 subst this
 refine ⟨fun i w'=>∃ q:Nat,i=q/\q<=M/\Sep E (aaa B (loM j q)++L) w',fun i _=>(M - i).toNat,⟨0,rfl,Nat.zero_le _,h8⟩,?_⟩
 rintro _ _ w9 ⟨q,rfl,hq,h9⟩
 refine bLt (fun hlt=> ?_) (fun hge2=> ?_)
 ·refine use (aE2 (k:=(0,(q:Int))) (ayf (by omega) q (by omega)) (aBJ (by omega) (by omega)) h9) ?_
  rintro _ w10 ⟨rfl,h10⟩
  rw [aah (by omega)]
  exact ⟨_,_,_,rfl,⟨q+1,rfl,by omega,h10⟩,by show ((M:Int) - ((q+1:Nat):Int)).toNat<((M:Int) - (q:Int)).toNat;omega⟩
 have:q=M:=by omega
 subst this
 have IM:=ayf (n:=j) (by omega) q (by omega)
 have hok:=aIf (n:=j) (m:=q) (k:=K) (by omega) (by omega) (by omega) (by omega) (by omega) low
 refine ⟨fun x w'=>x=(if low then 1 else 0)/\Sep E (aaa B (loM j q)++L) w',bifI (fun e=>⟨by rw [e];rfl,h9⟩) (fun e=>⟨by rw [e];rfl,h9⟩),?_⟩
 rintro _ x w10 ⟨rfl,h10⟩
 refine use (auU IM h10) ?_
 rintro _ w11 ⟨rfl,h11⟩
 refine ⟨_,rfl,use (apd (IM.limit _ _ _) h11) ?_⟩
 rintro _ w12 ⟨rfl,h12⟩
 unfold okL at hok
 have hdone:∀ {S:Cs} {w'},Sep E (aaa B S++L) w' ->Sep E (tabA W.heap::L) w':=fun hs=>by rw [<- hBo];exact ac3 hs
 have m1:∀ a b:Nat,min1 (a:Int) (b:Int)=((min a b:Nat):Int):=fun a b=>by unfold min1;split<;>omega
 have x1:max1 (IntKind.i64.wrap ((q:Int) - K)) 0=((q - K:Nat):Int):=by rw [w64 (by omega) (by omega)];unfold max1;split<;>omega
 have x2:max1 (IntKind.i64.wrap (IntKind.i64.wrap ((j:Int)+q) - K)) 0=((j+q - K:Nat):Int):=by rw [w64 (n:=(j:Int)+q) (by omega) (by omega),w64 (by omega) (by omega)];unfold max1;split<;>omega
 have x3:IntKind.i64.wrap ((j:Int)+q)=((j+q:Nat):Int):=by rw [w64 (by omega) (by omega)];omega
 cases low with
 | true=>
  simp only [if_true,Bool.and_eq_true] at hok ⊢
  obtain ⟨o1,⟨o2,o3⟩,o4⟩:=hok
  refine ⟨_,rfl,bT rfl (bT rfl (bT o1 (bT (by rw [x3,m1];exact o2) (use (abk 2 h12) ?_))))⟩
  rintro _ w13 ⟨rfl,h13⟩
  refine ⟨_,rfl,bT (by rw [x1];exact o3) (use (abk 1 h13) ?_)⟩
  rintro _ w14 ⟨rfl,h14⟩
  exact ⟨_,rfl,by rw [x2,m1];exact congrArg Value.bool o4,hdone h14⟩
 | false=>
  simp only [Bool.false_eq_true,if_false,Bool.and_eq_true] at hok ⊢
  obtain ⟨o1,⟨o2,o3⟩,o4⟩:=hok
  refine ⟨_,rfl,bF rfl (bT rfl (bT o1 (bT (by rw [m1];exact o2) (use (abk 1 h12) ?_))))⟩
  rintro _ w13 ⟨rfl,h13⟩
  refine ⟨_,rfl,bT o3 (use (abk 2 h13) ?_)⟩
  rintro _ w14 ⟨rfl,h14⟩
  exact ⟨_,rfl,by rw [x1];exact congrArg Value.bool o4,hdone h14⟩
end Go.Mp
end
section
set_option maxRecDepth 100000
namespace Go.Proofs.YtkjijachkcmelaaGreatDoor
open Go Go.Vc Go.Sp Go.Mp Go.RowKit Go.ChangeShapes
theorem awM (os:Os) (started:os.Started) (H:Type) (enc:TypeId×Value ->H):
  ReturnsInHanded {} Chk os aaT .any (fun w args=>(Rows.coreLowsSpec.pre enc P aaN [] false w args/\laidMetH P aa3 w)/\sizedMet enc P aaN (OpenSpec.ofChange Rows.coreLowsSpec) false w args) (Rows.coreLowsSpec.post enc P aaN false true false false):=by
 refine abO (C:=Chk) (tb:=aeL) (X:=fun w=>laidMetH P aa3 w) (fun _ _ hh h=>h.of_heap hh) own started (by kernel_rfl) aee
  (ChangeSpec.witness_shaped (enc:=enc) (C:=Chk) (os:=os) (X:=fun w _=>laidMetH P aa3 w) false (World.laidAll P os aa3) #[.int .i64 0,.int .i64 0,.int .i64 0,.bool false] 8 (World.laidAll_os _ _ _) (World.shaped_of_ZipB (by kernel_rfl) (by kernel_rfl)) (by kernel_rfl) (by kernel_rfl) (by kernel_rfl) (aeP os _))
  laidOut (by kernel_rfl) (by kernel_rfl) rfl (by kernel_rfl) ?_ ?_
 ·intro ds gs hd hg
  match ds,gs,hd,hg with
  | [d0,d1,d2,d3],[],_,_=>rfl
 ·intro W base args hsz hargs _ hx
  have hw:=aek hx
  obtain ⟨x0,x1,x2,x3,rfl⟩:=ao9 hsz
  have a0:=hargs 0 _ _ rfl rfl
  have a1:=hargs 1 _ _ rfl rfl
  have a2:=hargs 2 _ _ rfl rfl
  have a3:=hargs 3 _ _ rfl rfl
  obtain ⟨n,rfl,hn⟩:=aa9 a0
  obtain ⟨m,rfl,hm⟩:=aa9 a1
  obtain ⟨k,rfl,hk⟩:=aa9 a2
  obtain ⟨b,rfl⟩:=aGi a3
  refine use (aEm hw) ?_
  rintro v w' ⟨rfl,h⟩
  exact ⟨_,rfl,rfl,af5 h⟩
theorem aog:Tryz.pinned.checked.prog.funcNamed Rows.coreLowsRow.func=some aaT:=by kernel_rfl
theorem aCR:jfA P aaN Rows.coreLowsSpec Rows.coreLowsRow=true:=by kernel_rfl
theorem aCS:jfB P aaT Rows.coreLowsRow=true:=by kernel_rfl
theorem aCT:jfC P aaT Rows.coreLowsRow=true:=by kernel_rfl
theorem aCU:jfD P aaT Rows.coreLowsRow=true:=by kernel_rfl
theorem aCV:jfE P aaT Rows.coreLowsRow=true:=by kernel_rfl
theorem aCW:jfF P aaN Rows.coreLowsSpec Rows.coreLowsRow=true:=by kernel_rfl
theorem aCX:jfG P aaN Rows.coreLowsSpec Rows.coreLowsRow=true:=by kernel_rfl
theorem aCY:jfH P Rows.coreLowsRow=true:=by kernel_rfl
theorem aCZ:jfI P aaN Rows.coreLowsSpec Rows.coreLowsRow=true:=by kernel_rfl
theorem axW:Rows.CoreLowsSaid:=
 OpenClaim.holds_of_wide aaT aaN rfl rfl rfl rfl rfl rfl rfl ⟨rfl,rfl,rfl,rfl,rfl⟩ rfl rfl rfl rfl rfl aog aee
  (aeh aCR aCS aCT aCU aCV aCW aCX aCY aCZ)
  (of_decide_eq_true (by kernel_rfl)) (by unfold Func.isWrapper;rw [if_neg (by decide+kernel)];exact ⟨rfl,rfl⟩)
  (fun os started H enc _=>awM os started H enc)
theorem aC0:Rows.coreLowsRow.wfByText (OpenSpec.ofChange Rows.coreLowsSpec)=true:=by kernel_rfl
theorem azT:Tryz.pinned.checked.prog.mainIs=some (true, "3b9054f10c9c5fb82da89a913622f02e1aaecefdee6eb776dafd30a2283a3747".toList):=by kernel_rfl
theorem axX:false=Tryz.pinned.checked.prog.looks []:=by kernel_rfl
theorem azS:false=Rows.coreLowsRow.goesBy Tryz.pinned.checked.prog:=by kernel_rfl
theorem axY:(aaN.params.toList.all fun u=> !P.wantsStandIn u)=true:=by kernel_rfl
theorem coreLows_card:Rows.CoreLowsCardSaid:=
 Claim7.holds_tied_plain_at .later [] [.data] true (true, "3b9054f10c9c5fb82da89a913622f02e1aaecefdee6eb776dafd30a2283a3747") false
  axW (fun _ h=>by cases h) aC0 (fun _ h=>by cases h) coreLows_row_tie rfl ⟨rfl,rfl⟩ azT rfl
  (fun f fn hf hfn=>by
   obtain rfl:f=aaT:=Option.some.inj (aog.symm.trans hf) |>.symm
   obtain rfl:fn=aaN:=(Option.some.inj (aee.symm.trans hfn)).symm
   refine ⟨axX,fun j t ht=> ?_⟩
   have hm:t∈aaN.params.toList:=by simpa using Array.mem_of_getElem? ht
   exact (show P.wantsStandIn t=false by simpa using List.all_eq_true.1 axY t hm))
  azS
end Go.Proofs.YtkjijachkcmelaaGreatDoor
end
