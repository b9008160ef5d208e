/- Core: A page that is fresh is of noughts; one that is copied has the other one's bytes: the law answers true and lets its arguments be; for every input. -/
import Derived.Test.YtkjijachkcmelaaGreatDoorC14
import Derived.Test.YtkjijachkcmelaaGreatDoorProg
import Derived.Test.YtkjijachkcmelaaGreatDoorChecked
import Derived.LaidMore
import Derived.Lay
import Derived.OpenShut
import Derived.Stop.LaidErr
import Derived.Lib.LaidTab
import Derived.SevenTiedAt
import Derived.Test.YtkjijachkcmelaaGreatDoorRows
import Derived.Test.YtkjijachkcmelaaGreatDoorTie
import Derived.Test.YtkjijachkcmelaaGreatDoorCards
set_option linter.all false
section
set_option maxRecDepth 100000
namespace Go.Kc
open Go Go.Vc Go.Sp
namespace By
variable {n:Nat} {X:List UInt8} {i j:Int}
theorem acx {t:List UInt8} (h:X.length=16*n) (hi:pg n i) (ht:t.length=16) (k:Nat):
  (wrAt X i t)[k]? =if 16*i.toNat<=k/\k<16*i.toNat+16 then t[k - 16*i.toNat]? else X[k]? :=by
 obtain ⟨h1,h2⟩:=hi
 unfold wrAt
 by_cases hk:k<16*i.toNat
 ·rw [if_neg (by omega),List.append_assoc,List.getElem?_append_left (by simp;omega)];simp [hk]
 ·by_cases hk2:k<16*i.toNat+16
  ·rw [if_pos (by omega),List.append_assoc,List.getElem?_append_right (by simp;omega),List.getElem?_append_left (by simp;omega)]
   congr 1;simp;omega
  ·rw [if_neg (by omega),List.getElem?_append_right (by simp;omega)]
   simp only [List.getElem?_drop,List.length_append,List.length_take]
   congr 1;omega
end By
end Go.Kc
end
section
namespace Go.Mp
open Go Go.Vc
abbrev aaO:FuncId:=8
noncomputable abbrev aaA:Func:=Go.Proofs.Tryz.f8
theorem adN:P.funcs[aaO]? =some aaA:=Go.Proofs.Tryz.func8
end Go.Mp
end
section
namespace Go.Kc
open Go Go.Kt Go.Sp
def acts (S:Cs):List Act ->Cs
 | []=>S
 | x::l=>acts (S.act x).1 l
variable {S:Cs}
end Go.Kc
end
section
set_option maxRecDepth 100000
namespace Go.Mp
open Go Go.Vc Go.Proofs
variable {K:Value ->World ->Prop} {w:World}
def akG:Ann:= {quiet:=fun d=> [41,45,54,55,57,66,75,79,84,86,90,92,93,97,100,117,119,128,131,147,151,156,162,180,185,191,195,200,204,209,214,219,221,222].contains d,loop:=fun r=>(bif r==8 then [(15,.int .i64)] else bif r==17 then [(22,.int .i64)] else []),join:=fun r=>(bif r==6 then some [] else none)}
def agY (frames:Int) (slots:Int) (l:Sl) (g:Int) (atA:Int) (b:Int) (K:Value ->World ->Prop) (w:World):Prop:=
 Calls P aao #[] w fun e2 w1=>∃ x3,e2= .returned (.bool x3)/\bif (!x3) then (K (.bool false) w1) else (∃ J4:World ->Prop,(Calls P aaZ #[(Iv frames),(Iv slots),(.slice none 0 0),(Sv l)] w1 fun e8 w7=>∃ x9,e8= .returned (.bool x9)/\bif x9 then (K (.bool x3) w7) else (bif (decide (atA<0)) then (K (.bool x3) w7) else (bif (decide (atA>15)) then (K (.bool x3) w7) else (J4 w7))))/\(∀ _u6:Nat ->Value,∀ w5:World,J4 w5 ->Al (.cells #[(Iv 4),(Iv 4)] 3) (fun p10 w11=>Calls P abD #[(Iv frames),(Iv slots),(.slice (some p10) 2 2)] w11 fun e13 w12=>∃ x14,e13= .returned (Pv x14)/\∃ (I15:Int ->World ->Prop) (M16:Int ->World ->Nat),I15 0 w12/\∀ _u18:Nat ->Value,∀ i19 w17,I15 i19 w17 ->bif (decide (i19<((l.n:Nat):Int))) then (elAt l.p l.n i19 6 fun a20=>∃ x21,w17.cell? (a20.add 0)=some (Iv x21)/\∃ x22,w17.cell? (a20.add 1)=some (Iv x22)/\∃ x23,w17.cell? (a20.add 2)=some (Iv x23)/\∃ x24,w17.cell? (a20.add 3)=some (Iv x24)/\∃ x25,w17.cell? (a20.add 4)=some (Iv x25)/\∃ x26,w17.cell? (a20.add 5)=some (Iv x26)/\Calls P aag #[(Pv x14),(.agg #[(Iv x21),(Iv x22),(Iv x23),(Iv x24),(Iv x25),(Iv x26)])] w17 fun e28 w27=>∃ x29:Int,∃ x30:Int,∃ x31:Int,e28= .returned (.tuple #[(Iv x29),(Iv x30),(Iv x31)])/\(I15 (IntKind.i64.wrap (i19+1)) w27/\M16 (IntKind.i64.wrap (i19+1)) w27<M16 i19 w17)) else (Calls P ab4 #[(Pv x14)] w17 fun e33 w32=>∃ x34:Sl,e33= .returned (Sv x34)/\Calls P aa1 #[(Pv x14),(Iv g)] w32 fun e36 w35=>∃ x37:Int,∃ x38:Int,∃ x39:Int,e36= .returned (.tuple #[(Iv x37),(Iv x38),(Iv x39)])/\bif (x39 !=0) then (bif x3 then (bif (x37==(-1)) then (Calls P ab4 #[(Pv x14)] w35 fun e41 w40=>∃ x42:Sl,e41= .returned (Sv x42)/\bif (((x42.n:Nat):Int)==((x34.n:Nat):Int)) then (bif ((x39==12)==(decide (x38≥0))) then (bif (x39==12) then (K (.bool true) w40) else (bif (x39==2) then (Calls P aci #[(Pv x14)] w40 fun e44 w43=>∃ x45,e44= .returned (Pv x45)/\Calls P aam #[(Pv x45),(Iv g)] w43 fun e47 w46=>∃ x48,e47= .returned (.bool x48)/\K (.bool (!x48)) w46) else (K (.bool false) w40))) else (K (.bool false) w40)) else (K (.bool false) w40)) else (K (.bool false) w35)) else (K (.bool false) w35)) else (Calls P abt #[(Pv x14),(Iv x37)] w35 fun e50 w49=>∃ x51:Int,∃ x52:Int,∃ x53:Int,∃ x54:Int,∃ x55:Int,∃ x56:Int,∃ x57:Int,∃ x58:Bool,∃ x59:Bool,∃ x60:Int,e50= .returned (.tuple #[(.agg #[(Iv x51),(Iv x52),(Iv x53),(Iv x54),(Iv x55),(Iv x56),(Iv x57),(.bool x58),(.bool x59)]),(Iv x60)])/\Al (.cells #[(Iv 0),(Iv 0),(Iv 0),(Iv 0),(Iv 0),(Iv 0),(Iv 0),(.bool false),(.bool false)] 38) (fun p61 w62=>StN [(Iv x51),(Iv x52),(Iv x53),(Iv x54),(Iv x55),(Iv x56),(Iv x57),(.bool x58),(.bool x59)] p61 (fun w63=>∃ (I64:Int ->World ->Prop) (M65:Int ->World ->Nat),I64 0 w63/\∀ _u67:Nat ->Value,∀ i68 w66,I64 i68 w66 ->bif (decide (i68<16)) then (Calls P ac1 #[(Pv x14),(Iv x37),(Iv i68)] w66 fun e70 w69=>∃ x71:Int,∃ x72:Int,e70= .returned (.tuple #[(.int .u8 x71),(Iv x72)])/\bif (x71 !=0) then (K (.bool false) w69) else (bif (x72 !=0) then (K (.bool false) w69) else ((I64 (IntKind.i64.wrap (i68+1)) w69/\M65 (IntKind.i64.wrap (i68+1)) w69<M65 i68 w66)))) else (Calls P aeQ #[(Pv x14),(Iv x37),(Iv atA),(.int .u8 b)] w66 fun e74 w73=>∃ x75,e74= .returned (Iv x75)/\Calls P afC #[(Pv x14),(Iv x37),(Iv g)] w73 fun e77 w76=>∃ x78:Int,∃ x79:Int,∃ x80:Int,e77= .returned (.tuple #[(Iv x78),(Iv x79),(Iv x80)])/\bif (x80 !=0) then (bif x3 then (bif (x60==0) then (∃ x81,w76.cell? (p61.add 2)=some (Iv x81)/\bif (x81==1) then (∃ x82,w76.cell? (p61.add 4)=some (Iv x82)/\K (.bool (x82==g)) w76) else (K (.bool false) w76)) else (K (.bool false) w76)) else (K (.bool false) w76)) else (Calls P ac1 #[(Pv x14),(Iv x78),(Iv atA)] w76 fun e84 w83=>∃ x85:Int,∃ x86:Int,e84= .returned (.tuple #[(.int .u8 x85),(Iv x86)])/\Calls P abt #[(Pv x14),(Iv x37)] w83 fun e88 w87=>∃ x89:Int,∃ x90:Int,∃ x91:Int,∃ x92:Int,∃ x93:Int,∃ x94:Int,∃ x95:Int,∃ x96:Bool,∃ x97:Bool,∃ x98:Int,e88= .returned (.tuple #[(.agg #[(Iv x89),(Iv x90),(Iv x91),(Iv x92),(Iv x93),(Iv x94),(Iv x95),(.bool x96),(.bool x97)]),(Iv x98)])/\Al (.cells #[(Iv 0),(Iv 0),(Iv 0),(Iv 0),(Iv 0),(Iv 0),(Iv 0),(.bool false),(.bool false)] 38) (fun p99 w100=>StN [(Iv x89),(Iv x90),(Iv x91),(Iv x92),(Iv x93),(Iv x94),(Iv x95),(.bool x96),(.bool x97)] p99 (fun w101=>bif x3 then (bif (x60==0) then (∃ x102,w101.cell? (p61.add 2)=some (Iv x102)/\bif (x102==1) then (∃ x103,w101.cell? (p61.add 4)=some (Iv x103)/\bif (x103==g) then (bif (x38==(-1)) then (bif (x78 !=x37) then (bif (x86==0) then (bif (x85==b) then (∃ x104,w101.cell? (p99.add 2)=some (Iv x104)/\bif (x104 !=0) then (Calls P ab4 #[(Pv x14)] w101 fun e106 w105=>∃ x107:Sl,e106= .returned (Sv x107)/\K (.bool (((x107.n:Nat):Int)==(IntKind.i64.wrap (((x34.n:Nat):Int)+2)))) w105) else (K (.bool false) w101)) else (K (.bool false) w101)) else (K (.bool false) w101)) else (K (.bool false) w101)) else (K (.bool false) w101)) else (K (.bool false) w101)) else (K (.bool false) w101)) else (K (.bool false) w101)) else (K (.bool false) w101)) w100) w87))) w62) w49))) w5))
theorem alB (frames:Int) (slots:Int) (l:Sl) (g:Int) (atA:Int) (b:Int) (h:agY frames slots l g atA b K w):Calls P aaO #[(Iv frames),(Iv slots),(Sv l),(Iv g),(Iv atA),(.int .u8 b)] w (Ret K):=ofVc (A:=akG) Tryz.func8 (by kernel_rfl) (by kernel_rfl) h
end Go.Mp
end
section
set_option maxRecDepth 100000
namespace Go.Mp
open Go Go.Vc Go.Sp Go.Proofs Go.Kc
variable {E:Env} {L:List Asn} {w:World} {A:At} {S:Cs}
theorem acN (S:Cs):∀ (l:List Kc.Act) (x:Kc.Act),acts S (l++ [x])=((acts S l).act x).1
 | [],_=>rfl
 | y::l,x=>acN (S.act y).1 l x
theorem ah3 {W:World} {l:Sl} {xs:List Kc.Act} {REST:World ->Prop} (hA:acL W l xs) (hl:xs.length<=60) (ho:A.o=W.heap) (I:Kc.Inv S) (hn:S.pages.next<=1000) (h:Sep E (aaa A S++L) w)
  (k:∀ (gs us:Sl) (w':World),Kc.Inv (acts S xs) ->(acts S xs).pages.next<=S.pages.next+60 ->Sep E (aaa {A with gs:=gs,us:=us} (acts S xs)++L) w' ->REST w'):
  ∃ (I12:Int ->World ->Prop) (M13:Int ->World ->Nat),I12 0 w/\∀ _u15:Nat ->Value,∀ i16:Int,∀ w14:World,I12 i16 w14 ->bif (decide (i16<((l.n:Nat):Int))) then (elAt l.p l.n i16 6 fun a17=>∃ x18:Int,w14.cell? (a17.add 0)=some (.int .i64 x18)/\∃ x19:Int,w14.cell? (a17.add 1)=some (.int .i64 x19)/\
   ∃ x20:Int,w14.cell? (a17.add 2)=some (.int .i64 x20)/\∃ x21:Int,w14.cell? (a17.add 3)=some (.int .i64 x21)/\∃ x22:Int,w14.cell? (a17.add 4)=some (.int .i64 x22)
   /\∃ x23:Int,w14.cell? (a17.add 5)=some (.int .i64 x23)/\Calls P aag #[(.pointer (some ⟨A.c,0,none⟩)),(.agg #[(.int .i64 x18),(.int .i64 x19),(.int .i64 x20),(.int .i64
   x21),(.int .i64 x22),(.int .i64 x23)])] w14 fun e25 w24=>∃ x26:Int,∃ x27:Int,∃ x28:Int,e25= .returned (.tuple #[(.int .i64 x26),(.int .i64 x27),(.int .i64 x28)])
   /\(I12 (IntKind.i64.wrap (i16+1)) w24/\M13 (IntKind.i64.wrap (i16+1)) w24<M13 i16 w14)) else REST w14:=by
 refine ⟨fun i w'=>∃ (k:Nat) (gs us:Sl),i=k/\k<=xs.length/\Kc.Inv (acts S (xs.take k))/\(acts S (xs.take k)).pages.next<=S.pages.next+k/\Sep E (aaa {A with gs:=gs,us:=us} (acts S (xs.take k))++L) w',fun i _=>(xs.length - i).toNat,⟨0,A.gs,A.us,rfl,Nat.zero_le _,I,by show S.pages.next<=S.pages.next+0;omega,h⟩,?_⟩
 rintro _ _ w1 ⟨j,gs,us,rfl,hj,hI,hnx,h1⟩
 have hln:=hA.1
 refine bLt (fun hlt=> ?_) (fun hge=> ?_)
 ·have hjl:j<xs.length:=by omega
  obtain ⟨x,hx⟩:∃ x,xs[j]? =some x:=⟨_,List.getElem?_eq_getElem hjl⟩
  obtain ⟨a,hp,hc⟩:=hA.2 j x hx
  have hq:(aaa {A with gs:=gs,us:=us} (acts S (xs.take j))++L)[15]? =some (tabA W.heap):=by rw [<- ho];rfl
  have rd:∀ (i:Nat) v,(aeB x)[i]? =some v ->w1.cell? ((a.add (j*6)).add i)=some v:=fun i v hv=>oldT h1 hq (hc i v hv)
  refine ⟨a,hp,⟨by omega,by omega⟩,?_⟩
  rw [Int.toNat_natCast]
  refine ⟨_,rd 0 _ rfl,_,rd 1 _ rfl,_,rd 2 _ rfl,_,rd 3 _ rfl,_,rd 4 _ rfl,_,rd 5 _ rfl,use (c_Do (A:= {A with gs:=gs,us:=us}) hI (by omega) h1) ?_⟩
  rintro _ w2 ⟨rfl,gs',us',h2⟩
  have hsn:=acN S (xs.take j) x
  rw [<- aaj hx] at hsn
  rw [aah (by omega)]
  have hnn:=agq hI (by omega) x
  refine ⟨_,_,_,rfl,⟨j+1,gs',us',rfl,hjl,by rw [hsn];exact hI.act (by omega) x,by rw [hsn];omega,by rw [hsn];exact h2⟩,?_⟩
  show (((xs.length:Nat):Int) - ((j+1:Nat):Int)).toNat<(((xs.length:Nat):Int) - (j:Int)).toNat
  omega
 ·have:j=xs.length:=by omega
  subst this
  rw [List.take_length] at hI hnx h1
  exact k gs us w1 hI (by omega) h1
end Go.Mp
end
section
set_option maxRecDepth 100000
namespace Go.Proofs.YtkjijachkcmelaaGreatDoor
open Go Go.Vc Go.Sp Go.Mp Go.RowKit Go.ChangeShapes
theorem aDZ {α:Type} {a:Array α} (h:a.size=6):∃ x0 x1 x2 x3 x4 x5,a= #[x0,x1,x2,x3,x4,x5]:=by
 obtain ⟨l⟩:=a
 match l,h with
 | [x0,x1,x2,x3,x4,x5],_=>exact ⟨x0,x1,x2,x3,x4,x5,rfl⟩
theorem aCb {W:World} {base:Nat} {v:Value} (h:Rd P W amS v.cells.toList/\Value.okWide P W .any base amS v):∃ b:UInt8,v= .int .u8 b.toNat:=by
 obtain ⟨h1,h2⟩:=h
 rw [ahF h2 (by kernel_rfl)] at h1
 obtain ⟨n,h3,h4⟩:=h1.int1 (k:= .u8) (by kernel_rfl)
 have:0<=n/\n<=255:=by simpa [Lit.wf,IntKind.has,IntKind.min,IntKind.max,IntKind.signed,IntKind.bits] using h4
 refine ⟨UInt8.ofNat n.toNat,?_⟩
 rw [h3]
 congr 1
 simp only [UInt8.toNat_ofNat']
 omega
end Go.Proofs.YtkjijachkcmelaaGreatDoor
end
section
set_option maxRecDepth 100000
namespace Go.Kc
open Go Go.Kt Go.Sp
variable {S:Cs}
namespace By
variable {n:Nat} {X t:List UInt8} {i j:Int}
theorem abz (h:X.length=16*n) (hi:0<=i) (hj:0<=j) (hne:i≠j):rd n (wr n X i t).1 j=rd n X j:=by
 unfold rd
 by_cases hp:pg n j
 ·rw [if_pos hp,if_pos hp]
  congr 1
  unfold wr
  split
  ·next hh=>
   apply List.ext_getElem?
   intro k
   by_cases hk:k<16
   ·rw [aaV hk,aaV hk,acx h hh.1 hh.2,if_neg (by omega)]
   ·rw [List.getElem?_eq_none (by unfold pgAt;simp;omega),List.getElem?_eq_none (by unfold pgAt;simp;omega)]
  ·rfl
 ·rw [if_neg hp,if_neg hp]
theorem acn (h:X.length=16*n) (hp:pg n i) (ht:t.length=16):rd n (wr n X i t).1 i=(t,0):=by
 unfold rd
 rw [if_pos hp]
 congr 1
 unfold wr
 rw [if_pos ⟨hp,ht⟩]
 apply List.ext_getElem?
 intro k
 by_cases hk:k<16
 ·rw [aaV hk,acx h hp ht,if_pos (by omega),Nat.add_sub_cancel_left]
 ·rw [List.getElem?_eq_none (by unfold pgAt;simp;omega),List.getElem?_eq_none (by omega)]
theorem aeX (h:X.length=16*n) (hi:0<=i) (hj:0<=j) (hne:i≠j):rd n (cl n X i).1 j=rd n X j:=abz h hi hj hne
theorem aeY {a:Int} {b:UInt8} (hi:0<=i) (hj:0<=j) (hne:i≠j):rd n (pt n X i a b).1 j=rd n X j:=by
 unfold rd
 by_cases hp:pg n j
 ·rw [if_pos hp,if_pos hp]
  congr 1
  unfold pt
  split
  ·next hh=>
   apply List.ext_getElem?
   intro k
   by_cases hk:k<16
   ·rw [aaV hk,aaV hk,List.getElem?_set_ne (by omega)]
   ·rw [List.getElem?_eq_none (by unfold pgAt;simp;omega),List.getElem?_eq_none (by unfold pgAt;simp;omega)]
  ·rfl
 ·rw [if_neg hp,if_neg hp]
theorem awX {a:Int} (h:X.length=16*n) (hp:pg n i) (ha:0<=a/\a<16):gt n X i a=((rd n X i).1.getD a.toNat 0,0):=by
 have:=h
 unfold gt rd
 rw [if_pos ⟨hp,ha.1,ha.2⟩,if_pos hp]
 congr 1
 rw [List.getD_eq_getElem?_getD,List.getD_eq_getElem?_getD,aaV (by omega)]
theorem abR (h:X.length=16*n) (hp:pg n i):(rd n X i).1.length=16:=by
 unfold rd
 rw [if_pos hp]
 exact aeJ h hp
theorem avL {a:Int} {b:UInt8} (h:X.length=16*n) (hp:pg n i) (ha:0<=a/\a<16):pt n X i a b=((pt n X i a b).1,0)/\(rd n (pt n X i a b).1 i).1.getD a.toNat 0=b:=by
 obtain ⟨h1,h2⟩:=hp
 refine ⟨by unfold pt;rw [if_pos ⟨⟨h1,h2⟩,ha.1,ha.2⟩],?_⟩
 unfold rd
 rw [if_pos ⟨h1,h2⟩]
 rw [List.getD_eq_getElem?_getD,aaV (by omega)]
 unfold pt
 rw [if_pos ⟨⟨h1,h2⟩,ha.1,ha.2⟩]
 show ((X.set _ b)[_]?).getD 0=b
 rw [List.getElem?_set_self (by omega)];rfl
end By
structure Went (S:Cs) (id:Int) (p:Pg) (S':Cs):Prop where
 fr:S'.fr=S.fr.give p.at_ (aac S.tree p.owner)
 oth:∀ x,x≠id ->S'.pages.pg x=S.pages.pg x
 how:(0<=p.kf/\S'.sl=S.sl)\/(p.kf<0/\S'.files=S.files/\∃ a:Nat,S.sl.pool[a]? =some false/\(∀ g∈aac S.tree p.owner,cUse S.sl.used g+1<=aab S.sl.used g)/\
  S'.sl=⟨S.sl.pool.set a true,(By.wr S.sl.pool.length S.sl.by_ a (S.text p)).1,cAdd S.sl.used (aac S.tree p.owner) 1⟩/\S'.pages.pg id=some (p.to 2 a))
theorem acJ (h:Inv S) {id:Int} {p:Pg} (hp:S.pages.pg id=some p) (h1:p.place=1) (ho:(S.out id).2=true):Went S id p (S.out id).1:=by
 have _:=h1
 unfold Cs.out at ho ⊢
 rw [h.page hp] at ho ⊢
 dsimp only at ho ⊢
 by_cases hk:0<=p.kf
 ·rw [if_pos hk]
  dsimp only
  obtain ⟨q,hq,e1,e2,e3,e4,e5,e6⟩:=agu id p p hp
  obtain ⟨c1,c2,c3,c4,c5,c6,c7⟩:=adW (S:=S) id p
  have hcl:=h.clean id p
  rw [hcl.put0 hq]
  refine ⟨?_,fun x hx=> ?_,.inl ⟨hk,c3⟩⟩
  ·show (S.clean id p).fr.give p.at_ (S.chain p.owner)=_
   rw [c2];rfl
  ·show ((S.clean id p).pages.putT id q 0 0).pg x=_
   rw [abB,if_neg hx]
   unfold Cs.clean
   split
   ·show (S.pages.mark id false).1.pg x=_
    rw [(abv _ _ _).2.2.2]
    cases S.pages.pg x with
    | none=>rfl
    | some r=>show some (if x=id then _ else r)=_;rw [if_neg hx]
   ·rfl
 ·rw [if_neg hk] at ho ⊢
  split at ho
  ·next hw=>
   rw [if_pos hw]
   dsimp only
   unfold Cs.away at hw ⊢
   split at hw
   ·cases hw
   next hany=>
   rw [if_neg hany]
   dsimp only at hw ⊢
   split at hw
   ·cases hw
   next hf=>
   rw [if_neg hf]
   dsimp only
   obtain ⟨a,ha,_,he⟩:=agM (by simpa using hf)
   rw [he]
   dsimp only
   have hlive:=h.own _ _ hp
   have hlim:∀ g∈aac S.tree p.owner,cUse S.sl.used g+1<=aab S.sl.used g:=by
    intro g hg
    have:=(not_exists.1 (fun hh=>hany (List.any_eq_true.2 hh))) g
    simp only [decide_eq_true_eq,not_and,Int.not_le] at this
    have:=this hg
    omega
   have htry:cTry S.sl.used (S.chain p.owner) 1=(cAdd S.sl.used (aac S.tree p.owner) 1, -1,0):=by
    by_cases h0:(cTry S.sl.used (S.chain p.owner) 1).2.2=0
    ·exact (afN h0).2.1
    ·obtain ⟨g,hg,_,_,hlt⟩:=aeO (acW h.wf hlive ⟨by decide,by decide⟩) h0
     have:=hlim g hg;omega
   rw [htry]
   have hnf:∀ q id',S.pages.pg id'=some q ->q.place=2 ->q.at_=(a:Int) ->(2:Int)≠0 ->id'=id:=by
    intro q id' hq e1 e2 _
    have:=(h.sl.taken a).2 ⟨id',q,hq,e1,e2⟩
    rw [ha] at this;cases this
   rw [h.tab.put_eq hp ⟨by decide,by decide,by omega,fun hh=>absurd hh (by decide)⟩ hnf]
   refine ⟨rfl,fun x hx=>upd_ne _ _ hx,.inr ⟨by omega,rfl,a,ha,hlim,?_,ac8 _ _ _⟩⟩
   show (⟨_,(By.wr (S.sl.pool.set a true).length _ _ _).1,_⟩:Store)=_
   rw [List.length_set]
  ·cases ho
def Has (S:Cs) (id:Int) (t:List UInt8):Prop:=∃ p,S.pages.pg id=some p/\p.kf<0/\0<p.refs/\S.text p=t
theorem Has.lt (h:Inv0 S) {id:Int} {t:List UInt8} (H:Has S id t):id<S.pages.next:=by
 obtain ⟨p,hp,_⟩:=H
 exact (h.tab.ids _ _ hp).2
variable {S':Cs} {id:Int} {t:List UInt8}
theorem aaW {p:Pg} (h1:p.place=1):S.text p=(By.rd S.fr.pool.length S.fr.by_ p.at_).1:=by unfold Cs.text;rw [if_pos h1]
theorem aa4 {p:Pg} (h1:p.place=2):S.text p=(By.rd S.sl.pool.length S.sl.by_ p.at_).1:=by unfold Cs.text;rw [if_neg (by omega),if_pos h1]
theorem abQ (h:Inv S) {p:Pg} (hp:S.pages.pg id=some p) (hk:p.kf<0):p.place=1\/p.place=2:=by
 have h1:=(h.tab.pl _ _ hp).1
 have h2:=h.anon _ _ hp hk
 omega
theorem abI {pl:Int} {s:Store} (hs:aa8 S.pages S.tree s pl) {p:Pg} (hp:S.pages.pg id=some p) (h1:p.place=pl) (ha:0<=p.at_):By.pg s.pool.length p.at_/\s.pool[p.at_.toNat]? =some true:=by
 have:=(hs.taken p.at_.toNat).2 ⟨id,p,hp,h1,by omega⟩
 have hlt:=(List.getElem?_eq_some_iff.1 this).1
 exact ⟨⟨ha,by omega⟩,this⟩
theorem Has.keep (h:Inv S) (H:Has S id t) (hpg:∀ p,S.pages.pg id=some p ->p.kf<0 ->0<p.refs ->∃ q,S'.pages.pg id=some q/\q.kf=p.kf/\q.refs=p.refs/\q.place=p.place/\q.at_=p.at_)
  (hfr:∀ p,S.pages.pg id=some p ->p.place=1 ->By.rd S'.fr.pool.length S'.fr.by_ p.at_=By.rd S.fr.pool.length S.fr.by_ p.at_)
  (hsl:∀ p,S.pages.pg id=some p ->p.place=2 ->By.rd S'.sl.pool.length S'.sl.by_ p.at_=By.rd S.sl.pool.length S.sl.by_ p.at_):Has S' id t:=by
 obtain ⟨p,hp,hk,hr,ht⟩:=H
 obtain ⟨q,hq,e1,e2,e3,e4⟩:=hpg p hp hk hr
 refine ⟨q,hq,by rw [e1];exact hk,by rw [e2];exact hr,?_⟩
 rcases abQ h hp hk with e | e
 ·rw [aaW (by rw [e3,e]),e4,hfr p hp e,<- aaW e];exact ht
 ·rw [aa4 (by rw [e3,e]),e4,hsl p hp e,<- aa4 e];exact ht
theorem Has.len (h:Inv S) (H:Has S id t):t.length=16:=by
 obtain ⟨p,hp,hk,hr,ht⟩:=H
 have h1:=(h.tab.pl _ _ hp).1
 rw [<- ht]
 rcases abQ h hp hk with e | e
 ·rw [aaW e];exact By.abR h.fr.len (abI h.fr hp e h1.2.2.1).1
 ·rw [aa4 e];exact By.abR h.sl.len (abI h.sl hp e h1.2.2.1).1
theorem abC {n:Nat} {s:Store} {a b:Int} {ch:List Int} (hn:n=s.pool.length) (h:s.by_.length=16*s.pool.length) (ha:0<=a) (hb:0<=b) (hne:a≠b):By.rd (s.give a ch).pool.length (s.give a ch).by_ b=By.rd n s.by_ b:=by
 subst hn
 show By.rd (afa s.pool a).1.length (By.cl s.pool.length s.by_ a).1 b=_
 rw [aal]
 exact By.aeX h ha hb hne
theorem Has.went (h:Inv S) (H:Has S id t) {x:Int} {p:Pg} (hp:S.pages.pg x=some p) (h1:p.place=1) (hS:Went S x p S'):Has S' id t:=by
 have hat:=(h.tab.pl _ _ hp).1.2.2.1
 by_cases hx:id=x
 ·subst hx
  obtain ⟨p',hp',hk,hr,ht⟩:=H
  rw [hp] at hp'
  cases hp'
  rcases hS.how with ⟨hk',_⟩ | ⟨_,_,a,ha,_,hsl,hpg⟩
  ·omega
  ·refine ⟨_,hpg,hk,hr,?_⟩
   have hal:=(List.getElem?_eq_some_iff.1 ha).1
   rw [aa4 rfl,hsl]
   show (By.rd (S.sl.pool.set a true).length (By.wr S.sl.pool.length S.sl.by_ a (S.text p)).1 (a:Int)).1=t
   rw [List.length_set,By.acn h.sl.len ⟨by omega,by omega⟩ (Has.len h ⟨p,hp,hk,hr,rfl⟩)]
   exact ht
 ·refine H.keep h (fun q hq _ _=>⟨q,by rw [hS.oth _ hx];exact hq,rfl,rfl,rfl,rfl⟩) (fun q hq e=> ?_) (fun q hq e=> ?_)
  ·have hqa:=(h.tab.pl _ _ hq).1.2.2.1
   rw [hS.fr]
   exact abC rfl h.fr.len hat hqa (fun e2=>hx (h.tab.one hp hq (by omega) (by omega) e2.symm))
  ·rcases hS.how with ⟨_,hsl⟩ | ⟨_,_,a,ha,_,hsl,_⟩
   ·rw [hsl]
   ·have hqa:=(h.tab.pl _ _ hq).1.2.2.1
    have hta:=(abI h.sl hq e hqa).2
    rw [hsl]
    show By.rd (S.sl.pool.set a true).length _ _=_
    rw [List.length_set]
    exact By.abz h.sl.len (by omega) hqa (fun e2=>by
     rw [<- e2,Int.toNat_natCast,ha] at hta;cases hta)
theorem Has.outs (H:Has S id t) (h:Inv S) (ho:Outs S S'):Has S' id t:=by
 induction ho with
 | refl S=>exact H
 | step hp h1 h2 _ ih=>exact ih (Has.went h H hp h1 (acJ h hp h1 h2)) (h.out hp h1)
theorem Has.framed (h:Inv S) (H:Has S id t) {a:Nat} (ha:S.fr.pool[a]? =some false) {text:List UInt8} (hpg:S'.pages.pg id=S.pages.pg id) (hpo:S'.fr.pool.length=S.fr.pool.length) (hby:S'.fr.by_=(By.wr S.fr.pool.length S.fr.by_ a text).1)
  (hsl:∀ p,S.pages.pg id=some p ->p.place=2 ->By.rd S'.sl.pool.length S'.sl.by_ p.at_=By.rd S.sl.pool.length S.sl.by_ p.at_):Has S' id t:=by
 refine H.keep h (fun p hp _ _=>⟨p,by rw [hpg];exact hp,rfl,rfl,rfl,rfl⟩) (fun p hp e=> ?_) hsl
 have hpa:=(h.tab.pl _ _ hp).1.2.2.1
 have hta:=(abI h.fr hp e hpa).2
 rw [hpo,hby]
 exact By.abz h.fr.len (by omega) hpa (fun e2=>by rw [<- e2,Int.toNat_natCast,ha] at hta;cases hta)
theorem Has.withT (h:Inv S) (hn:S.pages.next<16777216) (H:Has S id t) {g:Int} (hl:S.live g=true) (text:List UInt8):Has (S.withT g text).1 id t:=by
 rcases acb h hn hl text with ⟨S0,a,k,he,_,hpg⟩ | ⟨S0,t',k,he⟩
 ·have h0:=k.outs.inv h
  have H0:=H.outs h k.outs
  have hid:id≠S.pages.next:=by have:=H.lt h.toInv0;omega
  refine H0.framed h0 k.free (text:=text) (by rw [hpg,if_neg hid]) ?_ ?_ (fun p _ _=> ?_)
  ·rw [he];show (S0.fr.pool.set a true).length=_;rw [List.length_set]
  ·rw [he]
   show (By.wr (S0.fr.pool.set a true).length S0.fr.by_ a text).1=_
   rw [List.length_set]
  ·rw [he];rfl
 ·rw [he];exact H.outs h k.outs
theorem Has.fresh (h:Inv S) (hn:S.pages.next<16777216) (H:Has S id t) (g:Int):Has (S.fresh g).1 id t:=by
 unfold Cs.fresh
 split
 ·exact H
 ·next hl=>exact H.withT h hn (by simpa using hl) _
theorem Has.copy (h:Inv S) (hn:S.pages.next<16777216) (H:Has S id t) (x g:Int):Has (S.copy x g).1 id t:=by
 unfold Cs.copy
 dsimp only
 split
 ·exact H
 ·next hl=>
  have hl:S.live g=true:=by
   cases hh:S.live g with
   | true=>rfl
   | false=>exact absurd (.inr (.inl hh)) hl
  exact H.withT h hn hl _
theorem Has.same (h:Inv S) (H:Has S id t) (h1:S'.pages.pg id=S.pages.pg id) (h2:S'.fr.pool.length=S.fr.pool.length/\S'.fr.by_=S.fr.by_) (h3:S'.sl.pool.length=S.sl.pool.length/\S'.sl.by_=S.sl.by_):Has S' id t:=
 H.keep h (fun p hp _ _=>⟨p,by rw [h1];exact hp,rfl,rfl,rfl,rfl⟩) (fun p _ _=>by rw [h2.1,h2.2]) (fun p _ _=>by rw [h3.1,h3.2])
theorem Has.brought (h:Inv S) (H:Has S id t) {x o:Int} {p:Pg} {S0:Cs} {a:Nat} {r:Cs×Int×Int} (hp:S.pages.pg x=some p) (h1:p.place≠1) (b:al7 S S0 x p o a r):Has r.1 id t:=by
 have h0:=b.took.outs.inv h
 have H0:=H.outs h b.took.outs
 have hal:=(List.getElem?_eq_some_iff.1 b.took.free).1
 by_cases hx:id=x
 ·subst hx
  obtain ⟨p',hp',hk,hr,ht⟩:=H0
  rw [b.page] at hp'
  cases hp'
  refine ⟨{p with owner:=o,place:=1,at_:=(a:Int)},by rw [b.pg,if_pos rfl],hk,hr,?_⟩
  rw [aaW rfl,b.by_,b.pool,List.length_set,By.acn h0.fr.len ⟨by omega,by omega⟩ (Has.len h0 ⟨p,b.page,hk,hr,rfl⟩)]
  exact ht
 ·refine H0.framed h0 b.took.free (text:=S0.text p) (by rw [b.pg,if_neg hx]) (by rw [b.pool,List.length_set]) b.by_ (fun q hq e=> ?_)
  rw [b.sl]
  by_cases e2:p.place=2
  ·rw [if_pos e2]
   have hqa:=(h0.tab.pl _ _ hq).1.2.2.1
   have hpa:=(h0.tab.pl _ _ b.page).1.2.2.1
   exact abC rfl h0.sl.len hpa hqa (fun e3=>hx (h0.tab.one b.page hq (by omega) (by omega) e3.symm))
  ·rw [if_neg e2]
theorem Has.bring (h:Inv S) (H:Has S id t) (x g:Int):Has (S.bring x g).1 id t:=by
 by_cases hb:S.pages.pg x=none\/S.live g=false\/∃ p,S.pages.pg x=some p/\p.place=0/\p.kf<0
 ·rw [abS h.toInv0 hb];exact H
 ·obtain ⟨p,hp⟩:∃ p,S.pages.pg x=some p:=by
   cases hq:S.pages.pg x with
   | none=>exact absurd (.inl hq) hb
   | some p=>exact ⟨p,rfl⟩
  have hl:S.live g=true:=by
   cases hh:S.live g with
   | true=>rfl
   | false=>exact absurd (.inr (.inl hh)) hb
  by_cases h1:p.place=1
  ·rw [acA h.toInv0 hp h1 hl]
   exact H.same h rfl ⟨rfl,rfl⟩ ⟨rfl,rfl⟩
  ·rcases acs h.toInv0 h.anon hp hl (fun e=>hb (.inr (.inr ⟨p,hp,e⟩))) h1 with ⟨S0,a,b,_⟩ | ⟨S0,t',b,he⟩
   ·exact H.brought h hp h1 b
   ·rw [he];exact H.outs h b.outs
end Go.Kc
end
section
set_option maxRecDepth 100000
namespace Go.Kc
open Go Go.Kt Go.Sp
variable {S S':Cs} {id:Int} {t:List UInt8}
theorem Has.openF (h:Inv S) (hn:S.pages.next<16777216) (H:Has S id t) (k:Int×Int) (g:Int):Has (S.openF k g).1 id t:=by
 unfold Cs.openF
 dsimp only
 split
 ·exact H
 ·next hh=>
  have hl:S.live g=true:=by
   cases hh':S.live g with
   | true=>rfl
   | false=>exact absurd (.inr hh') hh
  have hf:fHas S.files k=true:=by
   cases hh':fHas S.files k with
   | true=>rfl
   | false=>exact absurd (.inl hh') hh
  by_cases hm:S.pages.of k<0
  ·rw [decide_eq_true hm]
   simp only [if_true]
   obtain ⟨kf,ki⟩:=k
   have hkf:=aeK hf
   have hmk:=adQ S.pages (kf:=kf) (ki:=ki) (o:=g) ⟨h.tab.next,hn⟩ (.inr hm)
   rw [show (S.pages.make kf ki g).2.1=S.pages.next by rw [hmk.1]]
   have hI:=h.toInv0.make hn (kf:=kf) (ki:=ki) hl (.inr ⟨hm,hf⟩)
   have hkey:aaR S.pages kf ki=(kf,ki):=by unfold aaR;rw [if_neg (by have:0<=kf:=hkf;omega)]
   have hanon:∀ x p,(S.pages.make kf ki g).1.pg x=some p ->p.kf<0 ->p.place≠0:=by
    intro x q hq hq0
    rw [hmk.2.2] at hq
    split at hq
    ·rw [<- Option.some.inj hq,hkey] at hq0
     have:kf<0:=hq0
     have:0<=kf:=hkf
     omega
    ·exact h.anon _ _ hq hq0
   have hJ:Inv {S with pages:=(S.pages.make kf ki g).1} :=⟨hI,hanon⟩
   have hid:id≠S.pages.next:=by have:=H.lt h.toInv0;omega
   have HJ:Has {S with pages:=(S.pages.make kf ki g).1} id t:=H.same h (by show (S.pages.make kf ki g).1.pg id=_;rw [hmk.2.2,if_neg hid]) ⟨rfl,rfl⟩ ⟨rfl,rfl⟩
   have HB:=HJ.bring hJ S.pages.next g
   have IB:=hJ.bring S.pages.next g
   split
   ·exact HB
   ·refine HB.same IB ?_ ⟨rfl,rfl⟩ ⟨rfl,rfl⟩
    show (TS.drop _ _).1.pg id=_
    unfold TS.drop
    split
    ·rfl
    ·split
     ·rfl
     ·exact upd_ne _ _ hid
  ·rw [decide_eq_false hm]
   simp only [Bool.false_eq_true,if_false]
   have:=H.bring h (S.pages.of k) g
   split<;>exact this
theorem Has.get (h:Inv S) (H:Has S id t) (x a:Int):Has (S.get x a).1 id t:=by
 unfold Cs.get
 dsimp only
 split
 ·exact H
 ·dsimp only
  split
  ·exact H.same h rfl ⟨rfl,rfl⟩ ⟨rfl,rfl⟩
  ·exact H
theorem aeg {x:Int} (hh:(S.here x).2=true):∃ p,S.pages.pg x=some p/\p.place=1/\(S.here x).1=p.at_:=by
 unfold Cs.here TS.get at hh
 cases hp:S.pages.pg x with
 | none=>rw [hp] at hh;simp at hh
 | some p=>
  rw [hp] at hh
  refine ⟨p,rfl,by simpa using hh,?_⟩
  unfold Cs.here TS.get;rw [hp]
theorem Has.put (h:Inv S) (H:Has S id t) {x:Int} (hx:x≠id) (a:Int) (b:UInt8):Has (S.put x a b).1 id t:=by
 unfold Cs.put
 dsimp only
 split
 ·exact H
 ·next hh=>
  have hh:(S.here x).2=true:=by simpa using hh
  obtain ⟨p,hp,h1,he⟩:=aeg hh
  split
  ·have hat:=(h.tab.pl _ _ hp).1.2.2.1
   refine H.keep h (fun q hq _ _=>⟨q,?_,rfl,rfl,rfl,rfl⟩) (fun q hq e=> ?_) (fun q _ _=>rfl)
   ·show (S.pages.mark x true).1.pg id=_
    rw [(abv _ _ _).2.2.2,hq]
    show some (if id=x then _ else q)=_
    rw [if_neg (fun e=>hx e.symm)]
   ·have hqa:=(h.tab.pl _ _ hq).1.2.2.1
    show By.rd S.fr.pool.length (By.pt S.fr.pool.length S.fr.by_ (S.here x).1 a b).1 q.at_=_
    rw [he]
    exact By.aeY hat hqa (fun e2=>hx (h.tab.one hq hp (by omega) (by omega) e2))
  ·exact H
theorem Has.refer (h:Inv S) (H:Has S id t) {x:Int} (hx:x≠id) (n:Int):Has (S.refer x n).1 id t:=by
 rcases ab1 h x n with ⟨_,he⟩ | ⟨p,hp,⟨_,he⟩ | ⟨_,_,he⟩ | ⟨_,_,_,_,_,hpg,_,_,hfr,hsl,_⟩⟩
 ·rw [he];exact H
 ·rw [he];exact H
 ·rw [he];exact H.same h (upd_ne _ _ (fun e=>hx e.symm)) ⟨rfl,rfl⟩ ⟨rfl,rfl⟩
 ·have hat:=(h.tab.pl _ _ hp).1.2.2.1
  refine H.keep h (fun q hq _ _=>⟨q,by rw [hpg,if_neg (fun e=>hx e.symm)];exact hq,rfl,rfl,rfl,rfl⟩) (fun q hq e=> ?_) (fun q hq e=> ?_)
  ·rw [hfr]
   by_cases e1:p.place=1
   ·rw [if_pos e1]
    exact abC rfl h.fr.len hat (h.tab.pl _ _ hq).1.2.2.1 (fun e2=>hx (h.tab.one hq hp (by omega) (by omega) e2))
   ·rw [if_neg e1]
  ·rw [hsl]
   by_cases e1:p.place=2
   ·rw [if_pos e1]
    exact abC rfl h.sl.len hat (h.tab.pl _ _ hq).1.2.2.1 (fun e2=>hx (h.tab.one hq hp (by omega) (by omega) e2))
   ·rw [if_neg e1]
theorem Has.remove (h:Inv S) (H:Has S id t) (g:Int):Has (S.remove g).1 id t:=by
 unfold Cs.remove
 dsimp only
 split
 ·refine H.keep h (fun q hq _ _=>⟨if q.owner=g then {q with owner:=ab9 S.tree g} else q,?_,?_,?_,?_,?_⟩) (fun q _ _=>rfl) (fun q _ _=>rfl)
  ·show (S.pages.ownAll (S.pages.those g) (ab9 S.tree g)).pg id=_
   rw [agL h.tab,hq];rfl
  all_goals split<;>rfl
 ·exact H
theorem Has.addGroup (h:Inv S) (H:Has S id t) (p:Int):Has (S.addGroup p).1 id t:=by
 unfold Cs.addGroup
 dsimp only
 split
 ·exact H.same h rfl ⟨rfl,rfl⟩ ⟨rfl,rfl⟩
 ·exact H
theorem Has.limit (h:Inv S) (H:Has S id t) (g what n:Int):Has (S.limit g what n).1 id t:=by
 have key:∀ r:Cs×Int,r.1.pages=S.pages ->r.1.fr.pool=S.fr.pool/\r.1.fr.by_=S.fr.by_ ->r.1.sl.pool=S.sl.pool/\r.1.sl.by_=S.sl.by_ ->Has r.1 id t:=
  fun r h1 h2 h3=>H.same h (by rw [h1]) ⟨by rw [h2.1],h2.2⟩ ⟨by rw [h3.1],h3.2⟩
 unfold Cs.limit
 split
 ·exact H
 split
 ·exact H
 split
 ·exact key _ rfl ⟨rfl,rfl⟩ ⟨rfl,rfl⟩
 split
 ·exact key _ rfl ⟨rfl,rfl⟩ ⟨rfl,rfl⟩
 split
 ·exact key _ rfl ⟨rfl,rfl⟩ ⟨rfl,rfl⟩
 split
 ·exact key _ rfl ⟨rfl,rfl⟩ ⟨rfl,rfl⟩
 split
 ·split
  ·exact H
  ·exact key _ rfl ⟨rfl,rfl⟩ ⟨rfl,rfl⟩
 ·exact H
theorem Has.act (h:Inv S) (hn:S.pages.next<16777216) (H:Has S id t) (x:Act) (hx:¬ (x.b=id/\(x.k.tmod 12=7\/x.k.tmod 12=9))):Has (S.act x).1 id t:=by
 exact ag3 (P:=fun r=>Has r.1 id t) S x (fun _=>H.addGroup h _) (fun _=>H.remove h _) (fun _=>H.limit h _ _ _) (fun _=>H.fresh h hn _) (fun _=>H.openF h hn _ _) (fun _=>H.bring h _ _) (fun _=>H.copy h hn _ _)
  (fun e=>H.put h (fun e2=>hx ⟨e2,.inl e⟩) _ _) (fun _=>H.get h _ _) (fun e=>H.refer h (fun e2=>hx ⟨e2,.inr e⟩) _) (fun _=>H.same h rfl ⟨rfl,rfl⟩ ⟨rfl,rfl⟩) (fun _=>H.outs h (adY h _ _))
theorem akn (h:Inv S) {p:Pg} (hp:S.pages.pg id=some p) (h1:p.place=1) {a:Int} (ha:0<=a/\a<16):S.get id a=({S with gens:=(abZ S.gens id).1},(((S.text p).getD a.toNat 0).toNat:Int),0):=by
 have hat:=(h.tab.pl _ _ hp).1.2.2.1
 have hpg:=(abI h.fr hp h1 hat).1
 have hh:S.here id=(p.at_,true):=by
  unfold Cs.here;rw [h.page hp]
  show (p.at_,(0:Int)==0&&p.place==1)=_
  rw [h1];rfl
 unfold Cs.get
 rw [hh]
 dsimp only
 rw [if_neg (by decide),By.awX h.fr.len hpg ha,aaW h1]
 rfl
end Go.Kc
end
section
set_option maxRecDepth 100000
namespace Go.Kc
open Go Go.Kt Go.Sp
variable {S S':Cs}
theorem adh {C:List Cnt} (hC:C.length=64) (l:List Int) {n:Int} (hn:0<=n) (g:Int):cUse (aaC C l n).1 g<=cUse C g:=by
 cases hr:ab2 l n with
 | false=>unfold aaC;rw [hr];exact Int.le_refl _
 | true=>
  by_cases hb:∃ x∈l,cUse C x<n
  ·rw [ahp hr hb];exact Int.le_refl _
  ·rw [aeN hr (fun x hx=>Int.not_lt.1 (fun hlt=>hb ⟨x,hx,hlt⟩))]
   have:=abJ.1 hr
   rw [acm hC this.1 this.2.1]
   split<;>omega
structure Lim (S S':Cs):Prop where
 lim:∀ g,aab S'.fr.used g=aab S.fr.used g/\aab S'.sl.used g=aab S.sl.used g
 mem:∀ g,S'.memory g<=S.memory g\/S'.memory g<=aab S.fr.used g
 swp:∀ g,S'.swap g<=S.swap g\/S'.swap g<=aab S.sl.used g
 pool:S'.fr.pool.length=S.fr.pool.length/\S'.sl.pool.length=S.sl.pool.length
theorem Lim.refl (S:Cs):Lim S S:=⟨fun _=>⟨rfl,rfl⟩,fun _=> .inl (Int.le_refl _),fun _=> .inl (Int.le_refl _),rfl,rfl⟩
theorem Lim.same (h1:S'.fr.used=S.fr.used) (h2:S'.sl.used=S.sl.used) (h3:S'.fr.pool.length=S.fr.pool.length) (h4:S'.sl.pool.length=S.sl.pool.length):Lim S S':=by
 refine ⟨fun g=>by rw [h1,h2];exact ⟨rfl,rfl⟩,fun g=> .inl ?_,fun g=> .inl ?_,h3,h4⟩
 ·unfold Cs.memory;rw [h1];exact Int.le_refl _
 ·unfold Cs.swap;rw [h2];exact Int.le_refl _
theorem Lim.trans {A B C:Cs} (h:Lim A B) (h':Lim B C):Lim A C:=by
 refine ⟨fun g=>⟨(h'.lim g).1.trans (h.lim g).1,(h'.lim g).2.trans (h.lim g).2⟩,fun g=> ?_,fun g=> ?_,h'.pool.1.trans h.pool.1,h'.pool.2.trans h.pool.2⟩
 ·have h1:=h.mem g;have h2:=h'.mem g;have h3:=(h.lim g).1;omega
 ·have h1:=h.swp g;have h2:=h'.swp g;have h3:=(h.lim g).2;omega
theorem Lim.used (hC:S.fr.used.length=64) (hD:S.sl.used.length=64)
  (h1:S'.fr.used=S.fr.used\/(∃ l n,0<=n/\S'.fr.used=(aaC S.fr.used l n).1)\/∃ l,((∀ x∈l,0<=x/\x<64)/\l.Nodup)/\(∀ g∈l,cUse S.fr.used g+1<=aab S.fr.used g)/\S'.fr.used=cAdd S.fr.used l 1)
  (h2:S'.sl.used=S.sl.used\/(∃ l n,0<=n/\S'.sl.used=(aaC S.sl.used l n).1)\/∃ l,((∀ x∈l,0<=x/\x<64)/\l.Nodup)/\(∀ g∈l,cUse S.sl.used g+1<=aab S.sl.used g)/\S'.sl.used=cAdd S.sl.used l 1) (h3:S'.fr.pool.length=S.fr.pool.length) (h4:S'.sl.pool.length=S.sl.pool.length):Lim S S':=by
 have key:∀ {C C':List Cnt},C.length=64 ->(C'=C\/(∃ l n,0<=n/\C'=(aaC C l n).1)\/∃ l,((∀ x∈l,0<=x/\x<64)/\l.Nodup)/\(∀ g∈l,cUse C g+1<=aab C g)/\C'=cAdd C l 1) ->
   ∀ g,aab C' g=aab C g/\(cUse C' g<=cUse C g\/cUse C' g<=aab C g):=by
  intro C C' hC h g
  rcases h with rfl | ⟨l,n,hn,rfl⟩ | ⟨l,hl,hle,rfl⟩
  ·exact ⟨rfl,.inl (Int.le_refl _)⟩
  ·exact ⟨afx hC _ _ _,.inl (adh hC _ hn _)⟩
  ·refine ⟨adU hC hl.1 hl.2,?_⟩
   rw [acm hC hl.1 hl.2]
   by_cases hg:g∈l
   ·rw [if_pos hg];exact .inr (hle g hg)
   ·rw [if_neg hg];exact .inl (by omega)
 exact ⟨fun g=>⟨(key hC h1 g).1,(key hD h2 g).1⟩,fun g=>(key hC h1 g).2,fun g=>(key hD h2 g).2,h3,h4⟩
theorem Lim.went (h:Inv S) {x:Int} {p:Pg} (hp:S.pages.pg x=some p) (hS:Went S x p S'):Lim S S':=by
 have hc:=aan h.wf (h.own _ _ hp)
 refine Lim.used h.fr.used.len h.sl.used.len (.inr (.inl ⟨aac S.tree p.owner,1,by decide,by rw [hS.fr];rfl⟩)) ?_ (by rw [hS.fr];exact aal _ _) ?_
 rcases hS.how with ⟨_,hsl⟩ | ⟨_,_,a,_,hl,hsl,_⟩
 ·exact .inl (by rw [hsl])
 ·exact .inr (.inr ⟨_,⟨hc.1,hc.2.1⟩,hl,by rw [hsl]⟩)
 ·rcases hS.how with ⟨_,hsl⟩ | ⟨_,_,a,_,_,hsl,_⟩
  ·rw [hsl]
  ·rw [hsl];exact List.length_set
theorem Lim.outs (h:Inv S) (ho:Outs S S'):Lim S S':=by
 induction ho with
 | refl S=>exact .refl S
 | step hp h1 h2 _ ih=>exact (Lim.went h hp (acJ h hp h1 h2)).trans (ih (h.out hp h1))
theorem Lim.withT (h:Inv S) (hn:S.pages.next<16777216) {g:Int} (hl:S.live g=true) (text:List UInt8):Lim S (S.withT g text).1:=by
 have hc:=aan h.wf hl
 rcases acb h hn hl text with ⟨S0,a,k,he,_,hpg⟩ | ⟨S0,t',k,he⟩
 ·have h0:=k.outs.inv h
  have htr:=(k.outs.kept h).tree
  refine (Lim.outs h k.outs).trans (Lim.used h0.fr.used.len h0.sl.used.len (.inr (.inr ⟨aac S.tree g,⟨hc.1,hc.2.1⟩,k.lim,?_⟩)) (.inl ?_) (by rw [he];exact List.length_set) (by rw [he];rfl))
  ·rw [he,htr];rfl
  ·rw [he];rfl
 ·rw [he];exact Lim.outs h k.outs
theorem Lim.fresh (h:Inv S) (hn:S.pages.next<16777216) (g:Int):Lim S (S.fresh g).1:=by
 unfold Cs.fresh
 split
 ·exact .refl S
 ·next hl=>exact Lim.withT h hn (by simpa using hl) _
theorem Lim.copy (h:Inv S) (hn:S.pages.next<16777216) (x g:Int):Lim S (S.copy x g).1:=by
 unfold Cs.copy
 dsimp only
 split
 ·exact .refl S
 ·next hl=>
  have hl:S.live g=true:=by
   cases hh:S.live g with
   | true=>rfl
   | false=>exact absurd (.inr (.inl hh)) hl
  exact Lim.withT h hn hl _
theorem Lim.bring (h:Inv0 S) (hanon:∀ x p,S.pages.pg x=some p ->p.kf<0 ->p.place≠0) (x g:Int):Lim S (S.bring x g).1:=by
 have hI:Inv S:=⟨h,hanon⟩
 by_cases hb:S.pages.pg x=none\/S.live g=false\/∃ p,S.pages.pg x=some p/\p.place=0/\p.kf<0
 ·rw [abS h hb];exact .refl S
 ·obtain ⟨p,hp⟩:∃ p,S.pages.pg x=some p:=by
   cases hq:S.pages.pg x with
   | none=>exact absurd (.inl hq) hb
   | some p=>exact ⟨p,rfl⟩
  have hl:S.live g=true:=by
   cases hh:S.live g with
   | true=>rfl
   | false=>exact absurd (.inr (.inl hh)) hb
  by_cases h1:p.place=1
  ·rw [acA h hp h1 hl];exact Lim.same rfl rfl rfl rfl
  ·rcases acs h hanon hp hl (fun e=>hb (.inr (.inr ⟨p,hp,e⟩))) h1 with ⟨S0,a,b,_⟩ | ⟨S0,t',b,he⟩
   ·have h0:=b.took.outs.inv hI
    have hlo:S.live (if p.place=0 then g else p.owner)=true:=by
     split
     ·exact hl
     ·exact h.own _ _ hp
    have hc:=aan h.wf hlo
    refine (Lim.outs hI b.took.outs).trans (Lim.used h0.fr.used.len h0.sl.used.len (.inr (.inr ⟨_,⟨hc.1,hc.2.1⟩,b.took.lim,b.used⟩)) ?_ (by rw [b.pool];exact List.length_set) ?_)
    ·rw [b.sl]
     split
     ·exact .inr (.inl ⟨_,1,by decide,rfl⟩)
     ·exact .inl rfl
    ·rw [b.sl]
     split
     ·exact aal _ _
     ·rfl
   ·rw [he];exact Lim.outs hI b.outs
theorem Lim.openF (h:Inv S) (hn:S.pages.next<16777216) (k:Int×Int) (g:Int):Lim S (S.openF k g).1:=by
 unfold Cs.openF
 dsimp only
 split
 ·exact .refl S
 ·next hh=>
  have hl:S.live g=true:=by
   cases hh':S.live g with
   | true=>rfl
   | false=>exact absurd (.inr hh') hh
  have hf:fHas S.files k=true:=by
   cases hh':fHas S.files k with
   | true=>rfl
   | false=>exact absurd (.inl hh') hh
  by_cases hm:S.pages.of k<0
  ·rw [decide_eq_true hm]
   simp only [if_true]
   obtain ⟨kf,ki⟩:=k
   have hkf:=aeK hf
   have hmk:=adQ S.pages (kf:=kf) (ki:=ki) (o:=g) ⟨h.tab.next,hn⟩ (.inr hm)
   have hI:=h.toInv0.make hn (kf:=kf) (ki:=ki) hl (.inr ⟨hm,hf⟩)
   have hkey:aaR S.pages kf ki=(kf,ki):=by unfold aaR;rw [if_neg (by have:0<=kf:=hkf;omega)]
   have hanon:∀ x p,(S.pages.make kf ki g).1.pg x=some p ->p.kf<0 ->p.place≠0:=by
    intro x q hq hq0
    rw [hmk.2.2] at hq
    split at hq
    ·rw [<- Option.some.inj hq,hkey] at hq0
     have:kf<0:=hq0
     have:0<=kf:=hkf
     omega
    ·exact h.anon _ _ hq hq0
   have LB:=(Lim.same (S:=S) (S':= {S with pages:=(S.pages.make kf ki g).1}) rfl rfl rfl rfl).trans (Lim.bring hI hanon (S.pages.make kf ki g).2.1 g)
   split
   ·exact LB
   ·exact LB.trans (Lim.same rfl rfl rfl rfl)
  ·rw [decide_eq_false hm]
   simp only [Bool.false_eq_true,if_false]
   have:=Lim.bring h.toInv0 h.anon (S.pages.of k) g
   split<;>exact this
theorem Lim.get (x a:Int):Lim S (S.get x a).1:=by
 unfold Cs.get
 dsimp only
 split
 ·exact .refl S
 ·dsimp only
  split
  ·exact Lim.same rfl rfl rfl rfl
  ·exact .refl S
theorem Lim.put (x a:Int) (b:UInt8):Lim S (S.put x a b).1:=by
 unfold Cs.put
 dsimp only
 split
 ·exact .refl S
 ·split
  ·exact Lim.same rfl rfl rfl rfl
  ·exact .refl S
theorem Lim.refer (h:Inv S) (x n:Int):Lim S (S.refer x n).1:=by
 rcases ab1 h x n with ⟨_,he⟩ | ⟨p,hp,⟨_,he⟩ | ⟨_,_,he⟩ | ⟨_,_,_,_,_,hpg,_,_,hfr,hsl,_⟩⟩
 ·rw [he];exact .refl S
 ·rw [he];exact .refl S
 ·rw [he];exact Lim.same rfl rfl rfl rfl
 ·refine Lim.used h.fr.used.len h.sl.used.len ?_ ?_ (by rw [hfr];split;exact aal _ _;rfl) (by rw [hsl];split;exact aal _ _;rfl)
  ·rw [hfr]
   split
   ·exact .inr (.inl ⟨_,1,by decide,rfl⟩)
   ·exact .inl rfl
  ·rw [hsl]
   split
   ·exact .inr (.inl ⟨_,1,by decide,rfl⟩)
   ·exact .inl rfl
theorem Lim.remove (h:Inv S) (g:Int):Lim S (S.remove g).1:=by
 unfold Cs.remove
 dsimp only
 split
 ·exact Lim.used h.fr.used.len h.sl.used.len (.inr (.inl ⟨_,_,(h.fr.used.of g).1.1,rfl⟩)) (.inr (.inl ⟨_,_,(h.sl.used.of g).1.1,rfl⟩)) rfl rfl
 ·exact .refl S
theorem Lim.addGroup (p:Int):Lim S (S.addGroup p).1:=by
 unfold Cs.addGroup
 dsimp only
 split
 ·exact Lim.same rfl rfl rfl rfl
 ·exact .refl S
end Go.Kc
end
section
set_option maxRecDepth 100000
namespace Go.Kc
open Go Go.Kt Go.Sp
variable {S S':Cs} {id:Int}
theorem adZ {T T':TS} (hn:T'.next=T.next) (h:∀ x,(T'.pg x).isSome=(T.pg x).isSome):T'.all=T.all:=by
 unfold TS.all
 rw [hn]
 congr 1
 exact List.filter_congr (fun i _=>h _)
theorem Kept.all (h:Kept S S'):S'.pages.all=S.pages.all:=adZ h.next (fun x=>by
 cases hp:S.pages.pg x with
 | none=>rw [h.none_ x hp]
 | some p=>obtain ⟨q,hq,_⟩:=h.page x p hp;rw [hq];rfl)
theorem auM {T T':TS} (h0:0<=T.next) (hn:T'.next=T.next+1) (h:∀ x,x≠T.next ->(T'.pg x).isSome=(T.pg x).isSome) (h1:(T'.pg T.next).isSome=true):T'.all.length=T.all.length+1:=by
 unfold TS.all
 rw [hn,show (T.next+1).toNat=T.next.toNat+1 by omega,List.range_succ,List.filter_append]
 have e:((T.next.toNat:Nat):Int)=T.next:=by omega
 rw [List.filter_cons,e,h1,if_pos rfl,List.filter_nil]
 have:(List.range T.next.toNat).filter (fun i:Nat=>(T'.pg i).isSome)=(List.range T.next.toNat).filter (fun i:Nat=>(T.pg i).isSome):=
  List.filter_congr (fun i hi=>h _ (by have:=List.mem_range.1 hi;omega))
 rw [this]
 simp
structure aqR (S:Cs) (g:Int) (text:List UInt8) (r:Cs×Int×Int×Int):Prop where
 inv:Inv r.1
 ans:r.2=(S.pages.next, -1,0)
 pg:∃ p,r.1.pages.pg S.pages.next=some p/\p.place=1/\p.owner=g/\p.kf<0/\p.refs=0/\r.1.text p=text
 next:r.1.pages.next=S.pages.next+1
 all:r.1.pages.all.length=S.pages.all.length+1
 tree:r.1.tree=S.tree
 old:∀ x p,S.pages.pg x=some p ->∃ q,r.1.pages.pg x=some q/\q.kf=p.kf
theorem akD (h:Inv S) (hn:S.pages.next<16777216) {g:Int} (hl:S.live g=true) {text:List UInt8} (ht:text.length=16):
  aqR S g text (S.withT g text)\/∃ S0 t,aho S S0 g t (S.take g)/\S.withT g text=(S0, -1,t,12):=by
 rcases acb h hn hl text with ⟨S0,a,k,he,hi,hpg⟩ | hf
 ·refine .inl ?_
  have h0:=k.outs.inv h
  have hk:=k.outs.kept h
  have hal:=(List.getElem?_eq_some_iff.1 k.free).1
  have hp1:(S.withT g text).1.pages.pg S.pages.next=some ⟨-1,S.pages.next,1,a,g,0,0,false,false⟩:=by rw [hpg,if_pos rfl]
  have hnx:(S.withT g text).1.pages.next=S.pages.next+1:=by
   have h1:=(ajL h hn hl text).2
   have h2:=(hi.tab.ids _ _ hp1).2
   omega
  have hsome:∀ x,(S0.pages.pg x).isSome=(S.pages.pg x).isSome:=fun x=>by
   cases hp:S.pages.pg x with
   | none=>rw [hk.none_ x hp]
   | some p=>obtain ⟨q,hq,_⟩:=hk.page x p hp;rw [hq];rfl
  refine ⟨hi,by rw [he],⟨_,hp1,rfl,rfl,by show (-1:Int)<0;decide,rfl,?_⟩,hnx,?_,by rw [he];exact hk.tree,fun x p hp=> ?_⟩
  ·rw [aaW rfl,he]
   show (By.rd (S0.fr.pool.set a true).length (By.wr (S0.fr.pool.set a true).length S0.fr.by_ a text).1 (a:Int)).1=text
   rw [List.length_set,By.acn h0.fr.len ⟨by omega,by omega⟩ ht]
  ·exact auM h.tab.next hnx (fun x hx=>by rw [hpg,if_neg hx,hsome]) (by rw [hp1];rfl)
  ·obtain ⟨q,hq,e,_⟩:=hk.page x p hp
   have:=(h.tab.ids _ _ hp).2
   exact ⟨q,by rw [hpg,if_neg (by omega)];exact hq,e⟩
 ·exact .inr hf
theorem amq (h:Inv S) {S0:Cs} {g t:Int} {r:Cs×Int×Int×Int} (hl:S.live g=true) (k:aho S S0 g t r):0<=t/\t<64:=by
 rcases k.why with ⟨rfl,_⟩ | ⟨ht,_⟩
 ·exact ⟨by decide,by decide⟩
 ·exact (aan h.wf hl).1 t ht
theorem anM (h:Inv S) (hn:S.pages.next<16777216) (g:Int):(S.live g=true/\aqR S g By.zs (S.fresh g))\/
  ((S.fresh g).2.1= -1/\(S.fresh g).1.tree=S.tree/\(S.fresh g).1.pages.all=S.pages.all/\(((S.fresh g).2.2.2=12/\0<=(S.fresh g).2.2.1)\/((S.fresh g).2.2.2=2/\(S.fresh g).2.2.1= -1/\S.live g=false))):=by
 cases hl:S.live g with
 | false=>
  have e:S.fresh g=(S, -1, -1,2):=by unfold Cs.fresh;rw [if_pos hl]
  rw [e]
  exact .inr ⟨rfl,rfl,rfl,.inr ⟨rfl,rfl,rfl⟩⟩
 | true=>
  have e:S.fresh g=S.withT g By.zs:=by unfold Cs.fresh;rw [if_neg (by rw [hl];decide)]
  rw [e]
  rcases akD h hn hl (text:=By.zs) rfl with k | ⟨S0,t,k,he⟩
  ·exact .inl ⟨rfl,k⟩
  ·rw [he]
   have hk:=k.outs.kept h
   exact .inr ⟨rfl,hk.tree,hk.all,.inl ⟨rfl,(amq h hl k).1⟩⟩
theorem avK (h:Inv S) {p:Pg} (hp:S.pages.pg id=some p) (h1:p.place=1) {a:Int} (ha:0<=a/\a<16) (b:UInt8):
  (S.put id a b).2=0/\(∃ q,(S.put id a b).1.pages.pg id=some q/\q.place=1/\q.kf=p.kf/\q.refs=p.refs/\q.owner=p.owner/\((S.put id a b).1.text q).getD a.toNat 0=b)/\
  (S.put id a b).1.pages.all=S.pages.all/\(S.put id a b).1.pages.next=S.pages.next/\(S.put id a b).1.tree=S.tree:=by
 have hat:=(h.tab.pl _ _ hp).1.2.2.1
 have hpg:=(abI h.fr hp h1 hat).1
 have hh:S.here id=(p.at_,true):=by
  unfold Cs.here;rw [h.page hp]
  show (p.at_,(0:Int)==0&&p.place==1)=_
  rw [h1];rfl
 obtain ⟨e1,e2⟩:=By.avL (b:=b) h.fr.len hpg ha
 have e:S.put id a b=({S with fr:= {S.fr with by_:=(By.pt S.fr.pool.length S.fr.by_ p.at_ a b).1},gens:=(abZ S.gens id).1,pages:=(S.pages.mark id true).1},0):=by
  unfold Cs.put
  rw [hh]
  dsimp only
  rw [if_neg (by decide),e1]
  rfl
 rw [e]
 have hm:=abv S.pages id true
 refine ⟨rfl,⟨{p with dirty:=true},by show (S.pages.mark id true).1.pg id=_;rw [hm.2.2.2,hp];exact congrArg some (if_pos rfl),h1,rfl,rfl,rfl,?_⟩,?_,hm.1,rfl⟩
 ·rw [aaW (show ({p with dirty:=true} :Pg).place=1 from h1)];exact e2
 ·exact adZ hm.1 (fun x=>by rw [hm.2.2.2];cases S.pages.pg x<;>rfl)
theorem aFn (h:Inv S) {p:Pg} (hp:S.pages.pg id=some p) (h1:p.place=1) {g:Int} (hl:S.live g=true):S.copy id g=S.withT g (S.text p):=by
 unfold Cs.copy
 dsimp only
 rw [h.page hp,if_neg]
 rintro (e | e | e)
 ·exact e rfl
 ·rw [hl] at e;cases e
 ·rw [h1] at e;cases e
theorem aGP (h:Inv S) {p:Pg} (hp:S.pages.pg id=some p) (h1:p.place=1):(S.text p).length=16:=by
 rw [aaW h1]
 exact By.abR h.fr.len (abI h.fr hp h1 (h.tab.pl _ _ hp).1.2.2.1).1
theorem aGw (h:Inv S) {p:Pg} (hp:S.pages.pg id=some p) (h1:p.place=1) {R:List Ent} (hi:Inv {S with gens:=R}) {a:Int} (ha:0<=a/\a<16):
  ∃ R',({S with gens:=R} :Cs).get id a=({S with gens:=R'},(((S.text p).getD a.toNat 0).toNat:Int),0)/\Inv {S with gens:=R'} :=by
 have _:=h
 exact ⟨_,akn hi hp h1 ha,hi.touch id⟩
end Go.Kc
end
section
set_option maxRecDepth 100000
namespace Go.Mp
open Go Go.Vc Go.Sp Go.Proofs Go.Kc
variable {E:Env} {L:List Asn} {w:World} {A:At} {S:Cs}
theorem aIt (k:Nat):By.zs.getD k 0=0:=by
 unfold By.zs
 rw [List.getD_eq_getElem?_getD,List.getElem?_replicate]
 split<;>rfl
theorem aC3 {W:World} {frames slots g at_:Int} {b:UInt8} {l:Sl} {xs:List Kc.Act} (hA:acL W l xs) (h:Sep E (tabA W.heap::L) w):
  Calls P aaO #[.int .i64 frames,.int .i64 slots,.slice l.p l.n l.c,.int .i64 g,.int .i64 at_,.int .u8 b.toNat] w (Ret fun v w'=>v= .bool true/\Sep E (tabA W.heap::L) w'):=by
 apply alB
 unfold agY
 refine use (afP h) ?_
 rintro _ w1 ⟨rfl,h1⟩
 refine ⟨_,rfl,bF rfl ⟨fun w'=>xs.length<=60/\(0<=at_/\at_<16)/\Sep E (tabA W.heap::L) w',use (akK frames slots ⟨none,0,0⟩ l w1) ?_,?_⟩⟩
 ·rintro _ _ ⟨rfl,rfl⟩
  refine ⟨_,rfl,bifI (fun _=>⟨rfl,h1⟩) (fun hov=> ?_)⟩
  have hl:=hA.1
  simp only [Bool.or_eq_false_iff,decide_eq_false_iff_not] at hov
  exact bLt (fun _=>⟨rfl,h1⟩) (fun e1=>bGt (fun _=>⟨rfl,h1⟩) (fun e2=>⟨by omega,⟨e1,by omega⟩,h1⟩))
 rintro _ w2 ⟨hxl,hat,h2⟩
 refine Al.i h2 (fun bb w3 h3=> ?_)
 have h3:Sep E (tabA W.heap::blk bb (intL [4,4])::L) w3:=h3.swap
 refine use (afB (sz:=⟨some ⟨bb,0,none⟩,2,2⟩) (l:= [4,4]) (Ints.blk_ (b:=bb) (c:=2) (gs:= [4,4]) (q:=1) rfl) (Nat.le_refl _) h3) ?_
 rintro _ w4 ⟨A,rfl,ho,h4⟩
 have h4:Sep E (aaa A (Kc.new frames slots [4,4])++L) w4:=h4.cut
 refine ⟨_,rfl,ah3 hA hxl ho (Inv.new frames slots [4,4]) (by show (0:Int)<=1000;decide) h4 (fun gs us w5 I hnx h5=> ?_)⟩
 have hnx:(acts (Kc.new frames slots [4,4]) xs).pages.next<=60:=by have:(Kc.new frames slots [4,4]).pages.next=0:=rfl;omega
 generalize acts (Kc.new frames slots [4,4]) xs=T at*
 obtain ⟨B,hB⟩:∃ B:At,B= {A with gs:=gs,us:=us} :=⟨_,rfl⟩
 have hBo:B.o=W.heap:=by rw [hB];exact ho
 have hBc:A.c=B.c:=by rw [hB]
 rw [<- hB] at h5
 rw [hBc]
 clear hB hBc ho
 refine use (akh I h5) ?_
 rintro _ w6 ⟨sn,rfl,hsn,h6⟩
 refine ⟨sn,rfl,use (afO (g:=g) I h6.cut) ?_⟩
 rintro _ w7 ⟨rfl,h7⟩
 have hallT:T.pages.all.length<=16777216:=ahD 16777216 _ (List.nodup_iff_pairwise_ne.2 (ame.imp (fun hlt he=>by omega))) (fun y hy=>aBq I y ((anX I.tab).1 hy))
 have hend:∀ {V:Cs} {w:World},Sep E (aaa B V++L) w ->Sep E (tabA W.heap::L) w:=fun hs=>by rw [<- hBo];exact ac3 hs
 rcases anM I (by omega) g with ⟨hlv,k⟩ | ⟨e1,e2,e3,e4⟩
 ·obtain ⟨U,hU⟩:∃ U,T.fresh g=U:=⟨_,rfl⟩
  rw [hU] at k h7 ⊢
  obtain ⟨kI,kans,⟨p,kp1,kp2,kp3,kp4,_,kp6⟩,knext,kall,ktree,_⟩:=k
  have q1:U.2.1=T.pages.next:=by rw [kans]
  have q2:U.2.2.1= -1:=by rw [kans]
  have q3:U.2.2.2=0:=by rw [kans]
  rw [q1,q2,q3]
  obtain ⟨id,hid⟩:∃ id,T.pages.next=id:=⟨_,rfl⟩
  rw [hid] at kp1 ⊢
  refine ⟨_,_,_,rfl,bF rfl (use (ahX id h7) ?_)⟩
  rintro _ w8 ⟨rfl,h8⟩
  have hget:U.1.pages.get id=(p,0):=by unfold TS.get;rw [kp1]
  rw [hget]
  refine ⟨_,_,_,_,_,_,_,_,_,_,rfl,Al.i h8 (fun b1 w9 h9=>zst (vs:=p.vs) _ h9 rfl (fun w10 h10=> ?_))⟩
  have h10:Sep E (aaa B U.1++blk b1 p.vs::L) w10:=Sep.inn h10
  refine ⟨fun i w'=>∃ (k:Nat) (R:List Ent),i=k/\k<=16/\Kc.Inv {U.1 with gens:=R} /\Sep E (aaa B {U.1 with gens:=R} ++blk b1 p.vs::L) w',fun i _=>(16 - i).toNat,⟨0,U.1.gens,rfl,by decide,kI,h10⟩,?_⟩
  rintro _ _ w11 ⟨k,R,rfl,hk,hI,h11⟩
  refine bLt (fun hlt=> ?_) (fun hge=> ?_)
  ·obtain ⟨R',hR,hI'⟩:=aGw kI kp1 kp2 hI (a:=(k:Int)) ⟨by omega,by omega⟩
   refine use (ahW (id:=id) (at_:=(k:Int)) hI h11) ?_
   rintro _ w12 ⟨rfl,h12⟩
   rw [hR,kp6,aIt] at h12 ⊢
   refine ⟨_,_,rfl,bF rfl (bF rfl ?_)⟩
   rw [aah (by omega)]
   refine ⟨⟨k+1,R',rfl,by omega,hI',h12⟩,?_⟩
   show ((16:Int) - ((k+1:Nat):Int)).toNat<((16:Int) - (k:Int)).toNat
   omega
  ·obtain ⟨V,hV⟩:∃ V:Cs,V= {U.1 with gens:=R} :=⟨_,rfl⟩
   have v1:V.pages.pg id=some p:=by rw [hV];exact kp1
   have v2:V.pages.next=T.pages.next+1:=by rw [hV];exact knext
   have v3:V.pages.all.length=T.pages.all.length+1:=by rw [hV];exact kall
   have v4:V.tree=T.tree:=by rw [hV];exact ktree
   rw [<- hV] at hI h11
   refine use (am1 (id:=id) (at_:=at_) (x:=b) hI h11) ?_
   rintro _ w12 ⟨rfl,h12⟩
   obtain ⟨u1,⟨q,u2,u3,u4,u5,u6,u7⟩,u8,u9,u10⟩:=avK hI v1 kp2 hat b
   have IX:=hI.put id at_ b
   obtain ⟨X,hX⟩:∃ X,V.put id at_ b=X:=⟨_,rfl⟩
   rw [hX] at u1 u2 u7 u8 u9 u10 h12 IX
   rw [hX]
   refine ⟨_,rfl,use (aEY (id:=id) (g:=g) IX h12) ?_⟩
   rintro _ w13 ⟨rfl,h13⟩
   have hlX:X.1.live g=true:=by unfold Cs.live;rw [u10,v4];exact hlv
   have hcp:=aFn IX u2 u3 hlX
   have hx3:=aGP IX u2 u3
   rw [hcp] at h13 ⊢
   rcases akD IX (by omega) hlX hx3 with k2 | ⟨S0,t,k2,he⟩
   ·obtain ⟨Y,hY⟩:∃ Y,X.1.withT g (X.1.text q)=Y:=⟨_,rfl⟩
    rw [hY] at k2 h13 ⊢
    obtain ⟨yI,yans,⟨p2,yp1,yp2,yp3,yp4,_,yp6⟩,ynext,yall,ytree,yold⟩:=k2
    have z1:Y.2.1=X.1.pages.next:=by rw [yans]
    have z3:Y.2.2.2=0:=by rw [yans]
    rw [z1,z3]
    refine ⟨_,_,_,rfl,bF rfl (use (ahW (id:=X.1.pages.next) (at_:=at_) yI h13) ?_)⟩
    rintro _ w14 ⟨rfl,h14⟩
    have hg2:=akn yI yp1 yp2 hat
    rw [hg2,yp6,u7] at h14 ⊢
    refine ⟨_,_,rfl,use (ahX id h14) ?_⟩
    rintro _ w15 ⟨rfl,h15⟩
    obtain ⟨r,hr,hrk⟩:=yold id q u2
    have hr0:r.place≠0:=yI.anon _ _ hr (by rw [hrk,u4];exact kp4)
    have hget2:({Y.1 with gens:=(abZ Y.1.gens X.1.pages.next).1} :Cs).pages.get id=(r,0):=by unfold TS.get;dsimp only;rw [hr]
    rw [hget2]
    refine ⟨_,_,_,_,_,_,_,_,_,_,rfl,Al.i h15 (fun b2 w16 h16=>zst (vs:=r.vs) _ h16 rfl (fun w17 h17=> ?_))⟩
    have h17:Sep E (aaa B {Y.1 with gens:=(abZ Y.1.gens X.1.pages.next).1} ++blk b2 r.vs::blk b1 p.vs::L) w17:=Sep.inn h17
    have hidx:X.1.pages.next≠id:=by omega
    refine bT rfl (bT rfl (ld h17 17 rfl rfl rfl (bT (by simp [kp2]) (ld h17 17 rfl rfl rfl (bT (by simp [kp3]) (bT rfl (bT (by simpa using hidx) (bT rfl (bT (by simp) (ld h17 16 rfl rfl rfl (bT (by simpa using hr0) (use (akh (yI.touch _) h17) ?_))))))))))))
    rintro _ w18 ⟨s2,rfl,hs2,h18⟩
    refine ⟨s2,rfl,?_,hend h18.cut.cut.cut⟩
    have hs2:s2.n=Y.1.pages.all.length:=hs2
    have:(X.1.pages.all).length=T.pages.all.length+1:=by rw [u8];exact v3
    rw [hs2,hsn,yall,this,w64 (by omega) (by omega)]
    simp
    omega
   ·rw [he] at h13 ⊢
    refine ⟨_,_,_,rfl,bT rfl (bT rfl (bT rfl (ld h13 16 rfl rfl rfl (bT (by simp [kp2]) (ld h13 16 rfl rfl rfl ⟨by simp [kp3],hend h13.cut⟩)))))⟩
 ·obtain ⟨U,hU⟩:∃ U,T.fresh g=U:=⟨_,rfl⟩
  have IU:Kc.Inv U.1:=by rw [<- hU];exact I.fresh (by omega) g
  rw [hU] at e1 e2 e3 e4 h7 ⊢
  have hne:U.2.2.2≠0:=by rcases e4 with ⟨e,_⟩ | ⟨e,_⟩<;>omega
  refine ⟨_,_,_,rfl,bNe (fun _=>bT rfl (bT (by rw [e1];rfl) (use (akh IU h7) ?_))) (fun e=>absurd e hne)⟩
  rintro _ w8 ⟨s2,rfl,hs2,h8⟩
  refine ⟨s2,rfl,bT (by rw [hs2,hsn,e3];simp) ?_⟩
  rcases e4 with ⟨e5,e6⟩ | ⟨e5,e6,e7⟩
  ·exact bT (by rw [e5];simpa using e6) (bT (by rw [e5];rfl) ⟨rfl,hend h8.cut⟩)
  ·refine bT (by rw [e5,e6];rfl) (bF (by rw [e5];rfl) (bT (by rw [e5];rfl) (use (al8 h8) ?_)))
   rintro _ w9 ⟨rfl,h9⟩
   refine ⟨_,rfl,use (adG h9 (q:=1) rfl) ?_⟩
   rintro _ _ ⟨rfl,rfl⟩
   refine ⟨_,rfl,?_,hend h9.cut⟩
   have:Kt.aaf U.1.tree g=false:=by rw [e2];exact e7
   rw [this];rfl
end Go.Mp
end
section
set_option maxRecDepth 100000
namespace Go.Proofs.YtkjijachkcmelaaGreatDoor
open Go Go.Vc Go.Sp Go.Mp Go.RowKit Go.ChangeShapes
theorem au4 (os:Os) (started:os.Started) (H:Type) (enc:TypeId×Value ->H):
  ReturnsInHanded {} Chk os aaO .any (fun w args=>(Rows.coreFreshSpec.pre enc P aaA [] false w args/\laidMetH P aa3 w)/\sizedMet enc P aaA (OpenSpec.ofChange Rows.coreFreshSpec) false w args) (Rows.coreFreshSpec.post enc P aaA false true false false):=by
 refine abO (C:=Chk) (tb:=aeL) (X:=fun w=>laidMetH P aa3 w) (fun _ _ hh h=>h.of_heap hh) own started (by kernel_rfl) adN
  (ChangeSpec.witness_shaped (enc:=enc) (C:=Chk) (os:=os) (X:=fun w _=>laidMetH P aa3 w) false (World.laidAll P os aa3) #[.int .i64 0,.int .i64 0,.slice none 0 0,.int .i64 0,.int .i64 0,.int .u8 0] 8 (World.laidAll_os _ _ _) (World.shaped_of_ZipB (by kernel_rfl) (by kernel_rfl)) (by kernel_rfl) (by kernel_rfl) (by kernel_rfl) (aeP os _))
  laidOut (by kernel_rfl) (by kernel_rfl) rfl (by kernel_rfl) ?_ ?_
 ·intro ds gs hd hg
  match ds,gs,hd,hg with
  | [d0,d1,d2,d3,d4,d5],[],_,_=>rfl
 ·intro W base args hsz hargs _ hx
  have hw:=aek hx
  obtain ⟨x0,x1,x2,x3,x4,x5,rfl⟩:=aDZ hsz
  have a0:=hargs 0 _ _ rfl rfl
  have a1:=hargs 1 _ _ rfl rfl
  have a2:=hargs 2 _ _ rfl rfl
  have a3:=hargs 3 _ _ rfl rfl
  have a4:=hargs 4 _ _ rfl rfl
  have a5:=hargs 5 _ _ rfl rfl
  obtain ⟨f,rfl,hf⟩:=aa9 a0
  obtain ⟨s,rfl,hs⟩:=aa9 a1
  obtain ⟨l,xs,rfl,hA⟩:=agr a2
  obtain ⟨g,rfl,hg⟩:=aa9 a3
  obtain ⟨a_,rfl,ha_⟩:=aa9 a4
  obtain ⟨b,rfl⟩:=aCb a5
  refine use (aC3 hA hw) ?_
  rintro v w' ⟨rfl,h⟩
  exact ⟨_,rfl,rfl,af5 h⟩
theorem am4:Tryz.pinned.checked.prog.funcNamed Rows.coreFreshRow.func=some aaO:=by kernel_rfl
theorem aA3:jfA P aaA Rows.coreFreshSpec Rows.coreFreshRow=true:=by kernel_rfl
theorem aA4:jfB P aaO Rows.coreFreshRow=true:=by kernel_rfl
theorem aA5:jfC P aaO Rows.coreFreshRow=true:=by kernel_rfl
theorem aA6:jfD P aaO Rows.coreFreshRow=true:=by kernel_rfl
theorem aA7:jfE P aaO Rows.coreFreshRow=true:=by kernel_rfl
theorem aA8:jfF P aaA Rows.coreFreshSpec Rows.coreFreshRow=true:=by kernel_rfl
theorem aA9:jfG P aaA Rows.coreFreshSpec Rows.coreFreshRow=true:=by kernel_rfl
theorem aBa:jfH P Rows.coreFreshRow=true:=by kernel_rfl
theorem aBb:jfI P aaA Rows.coreFreshSpec Rows.coreFreshRow=true:=by kernel_rfl
theorem awC:Rows.CoreFreshSaid:=
 OpenClaim.holds_of_wide aaO aaA rfl rfl rfl rfl rfl rfl rfl ⟨rfl,rfl,rfl,rfl,rfl⟩ rfl rfl rfl rfl rfl am4 adN
  (aeh aA3 aA4 aA5 aA6 aA7 aA8 aA9 aBa aBb)
  (of_decide_eq_true (by kernel_rfl)) (by unfold Func.isWrapper;rw [if_neg (by decide+kernel)];exact ⟨rfl,rfl⟩)
  (fun os started H enc _=>au4 os started H enc)
theorem aBc:Rows.coreFreshRow.wfByText (OpenSpec.ofChange Rows.coreFreshSpec)=true:=by kernel_rfl
theorem axT:Tryz.pinned.checked.prog.mainIs=some (true, "3b9054f10c9c5fb82da89a913622f02e1aaecefdee6eb776dafd30a2283a3747".toList):=by kernel_rfl
theorem awD:false=Tryz.pinned.checked.prog.looks []:=by kernel_rfl
theorem axS:false=Rows.coreFreshRow.goesBy Tryz.pinned.checked.prog:=by kernel_rfl
theorem awE:(aaA.params.toList.all fun u=> !P.wantsStandIn u)=true:=by kernel_rfl
theorem coreFresh_card:Rows.CoreFreshCardSaid:=
 Claim7.holds_tied_plain_at .later [] [.data] true (true, "3b9054f10c9c5fb82da89a913622f02e1aaecefdee6eb776dafd30a2283a3747") false
  awC (fun _ h=>by cases h) aBc (fun _ h=>by cases h) coreFresh_row_tie rfl ⟨rfl,rfl⟩ axT rfl
  (fun f fn hf hfn=>by
   obtain rfl:f=aaO:=Option.some.inj (am4.symm.trans hf) |>.symm
   obtain rfl:fn=aaA:=(Option.some.inj (adN.symm.trans hfn)).symm
   refine ⟨awD,fun j t ht=> ?_⟩
   have hm:t∈aaA.params.toList:=by simpa using Array.mem_of_getElem? ht
   exact (show P.wantsStandIn t=false by simpa using List.all_eq_true.1 awE t hm))
  axS
end Go.Proofs.YtkjijachkcmelaaGreatDoor
end
