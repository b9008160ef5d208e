/- Core: None uses more than its limit, but where that was lowered: the law answers true and lets its arguments be; for every input. -/
import Derived.Test.YtkjijachkcmelaaGreatDoorC14
import Derived.Test.YtkjijachkcmelaaGreatDoorProg
import Derived.Test.YtkjijachkcmelaaGreatDoorChecked
import Derived.LaidMore
import Derived.Lay
import Derived.OpenShut
import Derived.Stop.LaidErr
import Derived.Lib.LaidTab
import Derived.SevenTiedAt
import Derived.Test.YtkjijachkcmelaaGreatDoorRows
import Derived.Test.YtkjijachkcmelaaGreatDoorTie
import Derived.Test.YtkjijachkcmelaaGreatDoorCards
set_option linter.all false
section
set_option maxRecDepth 100000
namespace Go.Kc
open Go Go.Vc Go.Sp
namespace By
variable {n:Nat} {X:List UInt8} {i j:Int}
theorem acx {t:List UInt8} (h:X.length=16*n) (hi:pg n i) (ht:t.length=16) (k:Nat):
  (wrAt X i t)[k]? =if 16*i.toNat<=k/\k<16*i.toNat+16 then t[k - 16*i.toNat]? else X[k]? :=by
 obtain ⟨h1,h2⟩:=hi
 unfold wrAt
 by_cases hk:k<16*i.toNat
 ·rw [if_neg (by omega),List.append_assoc,List.getElem?_append_left (by simp;omega)];simp [hk]
 ·by_cases hk2:k<16*i.toNat+16
  ·rw [if_pos (by omega),List.append_assoc,List.getElem?_append_right (by simp;omega),List.getElem?_append_left (by simp;omega)]
   congr 1;simp;omega
  ·rw [if_neg (by omega),List.getElem?_append_right (by simp;omega)]
   simp only [List.getElem?_drop,List.length_append,List.length_take]
   congr 1;omega
end By
end Go.Kc
end
section
namespace Go.Kc
open Go.Kt
theorem acO {C:List Cnt} (hC:C.length=64) {g n:Int} (hg:isG g=true) (hn:isA n=true) (x:Int):aab (aaK C g n).1 x=if x=g then n else aab C x:=by
 unfold aaK
 rw [hg,hn]
 simp only [Bool.and_true,if_true]
 unfold aab cOf
 cases hx:isG x with
 | false=>
  have:x≠g:=fun e=>by rw [e,hg] at hx;cases hx
  simp [this]
 | true=>
  simp only [if_true]
  rw [akf _ hC hg hx]
  split<;>simp
end Go.Kc
end
section
namespace Go.Mp
open Go Go.Vc
abbrev aaF:FuncId:=6
noncomputable abbrev aat:Func:=Go.Proofs.Tryz.f6
theorem ady:P.funcs[aaF]? =some aat:=Go.Proofs.Tryz.func6
end Go.Mp
end
section
set_option maxRecDepth 100000
namespace Go.Mp
open Go Go.Vc Go.Proofs
variable {K:Value ->World ->Prop} {w:World}
def aj8:Ann:= {quiet:=fun d=> [35,37,46,47,49,51,53,81,82,85,92,110,124,126,134,143,153,162].contains d,sig:=fun r=>(bif r==27 then some ([0,1,2,3,4,5,6,7,8,9,10,11,12],[12]) else bif r==29 then some ([0,1,2,3,4,5,6,7,8,9,10,11,12],[12]) else bif r==33 then some ([0,1,3,4,5,6,2,7,8,9,10,12,13,14,15,11,16,17,18,19,20,22,23,24,25,21,26,27,28,29,31,32,33,34,30,35,36,37],[2,11,21,30]) else none),loop:=fun r=>(bif r==10 then [(11,.int .i64)] else bif r==15 then [(12,.int .i64)] else bif r==20 then [(13,.slice),(14,.slice),(15,.int .i64)] else bif r==31 then [(19,.int .i64)] else []),join:=fun r=>(bif r==26 then some [(86,.bool)] else bif r==28 then some [] else bif r==30 then some [] else none)}
def agi (frames:Int) (slots:Int) (l:Sl) (K:Value ->World ->Prop) (w:World):Prop:=
 Calls P aao #[] w fun e2 w1=>∃ x3,e2= .returned (.bool x3)/\bif (!x3) then (K (.bool false) w1) else (Calls P aaZ #[(Iv frames),(Iv slots),(.slice none 0 0),(Sv l)] w1 fun e5 w4=>∃ x6,e5= .returned (.bool x6)/\bif x6 then (K (.bool x3) w4) else (Al (.cells #[(Iv 4),(Iv 4)] 3) (fun p7 w8=>Calls P abD #[(Iv frames),(Iv slots),(.slice (some p7) 2 2)] w8 fun e10 w9=>∃ x11,e10= .returned (Pv x11)/\∃ x13:Sl,∃ w12:World,Sem.run P (Instr.makeSlice 22 (Iv 64) (Iv 64)) w9= .ok (Sv x13) w12/\∃ x15:Sl,∃ w14:World,Sem.run P (Instr.makeSlice 22 (Iv 64) (Iv 64)) w12= .ok (Sv x15) w14/\∃ (I16:Int ->World ->Prop) (M17:Int ->World ->Nat),I16 0 w14/\∀ _u19:Nat ->Value,∀ g20 w18,I16 g20 w18 ->bif (decide (g20<64)) then (elAt x13.p x13.n g20 1 fun a21=>St a21 (Iv 1099511627776) (fun w22=>elAt x15.p x15.n g20 1 fun a23=>St a23 (Iv 1099511627776) (fun w24=>(I16 (IntKind.i64.wrap (g20+1)) w24/\M17 (IntKind.i64.wrap (g20+1)) w24<M17 g20 w18)) w22) w18) else (∃ (I25:Int ->World ->Prop) (M26:Int ->World ->Nat),I25 0 w18/\∀ _u28:Nat ->Value,∀ i29 w27,I25 i29 w27 ->bif (decide (i29<((l.n:Nat):Int))) then (∃ (I30:Sl ->Sl ->Int ->World ->Prop) (M31:Sl ->Sl ->Int ->World ->Nat),I30 ⟨none,0,0⟩ ⟨none,0,0⟩ 0 w27/\∀ _u33:Nat ->Value,∀ mem34:Sl,∀ swap35:Sl,∀ g36:Int,∀ w32:World,I30 mem34 swap35 g36 w32 ->bif (decide (g36<64)) then (Calls P aae #[(Pv x11),(Iv g36)] w32 fun e38 w37=>∃ x39,e38= .returned (Iv x39)/\Al (.cells #[(Iv x39)] 3) (fun p40 w41=>∃ x43:Sl,∃ w42:World,Sem.run P (Builtin.append_ #[22,22] 22 #[(Sv mem34),(.slice (some p40) 1 1)]) w41= .ok (Sv x43) w42/\Calls P aaQ #[(Pv x11),(Iv g36)] w42 fun e45 w44=>∃ x46,e45= .returned (Iv x46)/\Al (.cells #[(Iv x46)] 3) (fun p47 w48=>∃ x50:Sl,∃ w49:World,Sem.run P (Builtin.append_ #[22,22] 22 #[(Sv swap35),(.slice (some p47) 1 1)]) w48= .ok (Sv x50) w49/\(I30 x43 x50 (IntKind.i64.wrap (g36+1)) w49/\M31 x43 x50 (IntKind.i64.wrap (g36+1)) w49<M31 mem34 swap35 g36 w32)) w44) w37) else (elAt l.p l.n i29 6 fun a51=>∃ x52,w32.cell? (a51.add 0)=some (Iv x52)/\∃ x53,w32.cell? (a51.add 1)=some (Iv x53)/\∃ x54,w32.cell? (a51.add 2)=some (Iv x54)/\∃ x55,w32.cell? (a51.add 3)=some (Iv x55)/\∃ x56,w32.cell? (a51.add 4)=some (Iv x56)/\∃ x57,w32.cell? (a51.add 5)=some (Iv x57)/\Calls P aag #[(Pv x11),(.agg #[(Iv x52),(Iv x53),(Iv x54),(Iv x55),(Iv x56),(Iv x57)])] w32 fun e59 w58=>∃ x60:Int,∃ x61:Int,∃ x62:Int,e59= .returned (.tuple #[(Iv x60),(Iv x61),(Iv x62)])/\∃ J63:World ->Prop,(∃ J66:Bool ->World ->Prop,(elAt l.p l.n i29 6 fun a70=>∃ x71,w58.cell? (a70.add 0)=some (Iv x71)/\(12:Int)≠0/\bif ((x71.tmod 12)==2) then (J66 (x62==0) w58) else (J66 false w58))/\(∀ _u68:Nat ->Value,∀ x69 w67,J66 x69 w67 ->bif x69 then (∃ J72:World ->Prop,(elAt l.p l.n i29 6 fun a75=>∃ x76,w67.cell? (a75.add 2)=some (Iv x76)/\bif (x76==2) then (Dr (fun w77=>elAt l.p l.n i29 6 fun a78=>∃ x79,w77.cell? (a78.add 1)=some (Iv x79)/\elAt l.p l.n i29 6 fun a80=>∃ x81,w77.cell? (a80.add 3)=some (Iv x81)/\elAt x13.p x13.n x79 1 fun a82=>St a82 (Iv x81) (fun w83=>J72 w83) w77) w67) else (J72 w67))/\(∀ _u74:Nat ->Value,∀ w73:World,J72 w73 ->elAt l.p l.n i29 6 fun a84=>∃ x85,w73.cell? (a84.add 2)=some (Iv x85)/\bif (x85==3) then (Dr (fun w86=>elAt l.p l.n i29 6 fun a87=>∃ x88,w86.cell? (a87.add 1)=some (Iv x88)/\elAt l.p l.n i29 6 fun a89=>∃ x90,w86.cell? (a89.add 3)=some (Iv x90)/\elAt x15.p x15.n x88 1 fun a91=>St a91 (Iv x90) (fun w92=>J63 w92) w86) w73) else (J63 w73))) else (J63 w67)))/\(∀ _u65:Nat ->Value,∀ w64:World,J63 w64 ->∃ (I93:Int ->World ->Prop) (M94:Int ->World ->Nat),I93 0 w64/\∀ _u96:Nat ->Value,∀ g97 w95,I93 g97 w95 ->bif (decide (g97<64)) then (Dr (fun w98=>elAt mem34.p mem34.n g97 1 fun a99=>∃ x100,w98.cell? a99=some (Iv x100)/\Calls P aae #[(Pv x11),(Iv g97)] w98 fun e102 w101=>∃ x103,e102= .returned (Iv x103)/\∃ x104,w101.cell? a99=some (Iv x104)/\((Iv x104):Value)=(Iv x100)/\bif (decide (x103>x100)) then (elAt x13.p x13.n g97 1 fun a105=>∃ x106,w101.cell? a105=some (Iv x106)/\Calls P aae #[(Pv x11),(Iv g97)] w101 fun e108 w107=>∃ x109,e108= .returned (Iv x109)/\∃ x110,w107.cell? a105=some (Iv x110)/\((Iv x110):Value)=(Iv x106)/\bif (decide (x109>x106)) then (K (.bool false) w107) else (elAt swap35.p swap35.n g97 1 fun a111=>∃ x112,w107.cell? a111=some (Iv x112)/\Calls P aaQ #[(Pv x11),(Iv g97)] w107 fun e114 w113=>∃ x115,e114= .returned (Iv x115)/\∃ x116,w113.cell? a111=some (Iv x116)/\((Iv x116):Value)=(Iv x112)/\bif (decide (x115>x112)) then (elAt x15.p x15.n g97 1 fun a117=>∃ x118,w113.cell? a117=some (Iv x118)/\Calls P aaQ #[(Pv x11),(Iv g97)] w113 fun e120 w119=>∃ x121,e120= .returned (Iv x121)/\∃ x122,w119.cell? a117=some (Iv x122)/\((Iv x122):Value)=(Iv x118)/\bif (decide (x121>x118)) then (K (.bool false) w119) else ((I93 (IntKind.i64.wrap (g97+1)) w119/\M94 (IntKind.i64.wrap (g97+1)) w119<M94 g97 w95))) else ((I93 (IntKind.i64.wrap (g97+1)) w113/\M94 (IntKind.i64.wrap (g97+1)) w113<M94 g97 w95)))) else (elAt swap35.p swap35.n g97 1 fun a123=>∃ x124,w101.cell? a123=some (Iv x124)/\Calls P aaQ #[(Pv x11),(Iv g97)] w101 fun e126 w125=>∃ x127,e126= .returned (Iv x127)/\∃ x128,w125.cell? a123=some (Iv x128)/\((Iv x128):Value)=(Iv x124)/\bif (decide (x127>x124)) then (elAt x15.p x15.n g97 1 fun a129=>∃ x130,w125.cell? a129=some (Iv x130)/\Calls P aaQ #[(Pv x11),(Iv g97)] w125 fun e132 w131=>∃ x133,e132= .returned (Iv x133)/\∃ x134,w131.cell? a129=some (Iv x134)/\((Iv x134):Value)=(Iv x130)/\bif (decide (x133>x130)) then (K (.bool false) w131) else ((I93 (IntKind.i64.wrap (g97+1)) w131/\M94 (IntKind.i64.wrap (g97+1)) w131<M94 g97 w95))) else ((I93 (IntKind.i64.wrap (g97+1)) w125/\M94 (IntKind.i64.wrap (g97+1)) w125<M94 g97 w95)))) w95) else ((I25 (IntKind.i64.wrap (i29+1)) w95/\M26 (IntKind.i64.wrap (i29+1)) w95<M26 i29 w27))))) else (K (.bool x3) w27))) w4))
theorem akS (frames:Int) (slots:Int) (l:Sl) (h:agi frames slots l K w):Calls P aaF #[(Iv frames),(Iv slots),(Sv l)] w (Ret K):=ofVc (A:=aj8) Tryz.func6 (by kernel_rfl) (by kernel_rfl) h
end Go.Mp
end
section
set_option maxRecDepth 100000
namespace Go.Proofs.YtkjijachkcmelaaGreatDoor
open Go Go.Vc Go.Sp Go.Mp Go.RowKit Go.ChangeShapes
theorem aDX {α:Type} {a:Array α} (h:a.size=3):∃ x0 x1 x2,a= #[x0,x1,x2]:=by
 obtain ⟨l⟩:=a
 match l,h with
 | [x0,x1,x2],_=>exact ⟨x0,x1,x2,rfl⟩
end Go.Proofs.YtkjijachkcmelaaGreatDoor
end
section
set_option maxRecDepth 100000
namespace Go.Mp
open Go Go.Vc Go.Sp Go.Proofs Go.Kc
variable {E:Env} {L:List Asn} {w:World} {A:At} {S:Cs}
theorem adS {W:World} {l:Sl} {xs:List Kc.Act} {j:Nat} {x:Kc.Act} {F:Addr ->Prop} (hA:acL W l xs) (hx:xs[j]? =some x) (k:∀ a:Addr,(∀ (i:Nat) v,(aeB x)[i]? =some v ->W.cell? (a.add i)=some v) ->F a):elAt l.p l.n (j:Int) 6 F:=by
 obtain ⟨a,hp,hc⟩:=hA.2 j x hx
 have hlt:=(List.getElem?_eq_some_iff.1 hx).1
 have hln:=hA.1
 refine ⟨a,hp,⟨by omega,by omega⟩,?_⟩
 rw [Int.toNat_natCast]
 exact k _ hc
theorem adT {W:World} {x:Kc.Act} {a:Addr} (ho:A.o=W.heap) (h:Sep E (aaa A S++L) w) (hc:∀ (i:Nat) v,(aeB x)[i]? =some v ->W.cell? (a.add i)=some v) (i:Nat) (v:Value) (hv:(aeB x)[i]? =some v):w.cell? (a.add i)=some v:=
 oldT (q:=15) h (by rw [<- ho];rfl) (hc i v hv)
theorem doEl {W:World} {l:Sl} {xs:List Kc.Act} {j:Nat} {x:Kc.Act} {K:Int ->World ->Prop} (hA:acL W l xs) (hx:xs[j]? =some x) (ho:A.o=W.heap) (I:Kc.Inv S) (hn:S.pages.next<16777216) (h:Sep E (aaa A S++L) w)
  (k:∀ (gs us:Sl) (w':World),Sep E (aaa {A with gs:=gs,us:=us} (S.act x).1++L) w' ->K (S.act x).2.2.2 w'):
  elAt l.p l.n (j:Int) 6 fun a17=>∃ x18:Int,w.cell? (a17.add 0)=some (.int .i64 x18)/\∃ x19:Int,w.cell? (a17.add 1)=some (.int .i64 x19)/\
   ∃ x20:Int,w.cell? (a17.add 2)=some (.int .i64 x20)/\∃ x21:Int,w.cell? (a17.add 3)=some (.int .i64 x21)/\∃ x22:Int,w.cell? (a17.add 4)=some (.int .i64 x22)
   /\∃ x23:Int,w.cell? (a17.add 5)=some (.int .i64 x23)/\Calls P aag #[(.pointer (some ⟨A.c,0,none⟩)),(.agg #[(.int .i64 x18),(.int .i64 x19),(.int .i64 x20),(.int .i64
   x21),(.int .i64 x22),(.int .i64 x23)])] w fun e25 w24=>∃ x26:Int,∃ x27:Int,∃ x28:Int,e25= .returned (.tuple #[(.int .i64 x26),(.int .i64 x27),(.int .i64 x28)])/\K x28 w24:=by
 refine adS hA hx (fun a hc=> ?_)
 have rd:=adT ho h hc
 refine ⟨_,rd 0 _ rfl,_,rd 1 _ rfl,_,rd 2 _ rfl,_,rd 3 _ rfl,_,rd 4 _ rfl,_,rd 5 _ rfl,use (c_Do (x:=x) I hn h) ?_⟩
 rintro _ w2 ⟨rfl,gs',us',h2⟩
 exact ⟨_,_,_,rfl,k gs' us' w2 h2⟩
theorem Sep.elStQ {s:Sl} {l:List Int} {i x:Int} {F:World ->Prop} {q:Nat} (h:Sep E L w) (hq:L[q]? =some (rowA s 1 (intL l))) (hn:s.n=l.length) (h0:0<=i) (h1:i<l.length) (k:∀ w1,Sep E (L.set q (rowA s 1 (intL (l.set i.toNat x)))) w1 ->F w1):elAt s.p s.n i 1 fun a=>St a (.int .i64 x) F w:=
 elSt (h.fr q hq) hn h0 h1 (fun w1 h2=>k w1 (Sep.put hq h2))
end Go.Mp
end
section
set_option maxRecDepth 100000
namespace Go.Kc
open Go Go.Kt Go.Sp
variable {S:Cs}
namespace By
variable {n:Nat} {X t:List UInt8} {i j:Int}
theorem abz (h:X.length=16*n) (hi:0<=i) (hj:0<=j) (hne:i≠j):rd n (wr n X i t).1 j=rd n X j:=by
 unfold rd
 by_cases hp:pg n j
 ·rw [if_pos hp,if_pos hp]
  congr 1
  unfold wr
  split
  ·next hh=>
   apply List.ext_getElem?
   intro k
   by_cases hk:k<16
   ·rw [aaV hk,aaV hk,acx h hh.1 hh.2,if_neg (by omega)]
   ·rw [List.getElem?_eq_none (by unfold pgAt;simp;omega),List.getElem?_eq_none (by unfold pgAt;simp;omega)]
  ·rfl
 ·rw [if_neg hp,if_neg hp]
theorem acn (h:X.length=16*n) (hp:pg n i) (ht:t.length=16):rd n (wr n X i t).1 i=(t,0):=by
 unfold rd
 rw [if_pos hp]
 congr 1
 unfold wr
 rw [if_pos ⟨hp,ht⟩]
 apply List.ext_getElem?
 intro k
 by_cases hk:k<16
 ·rw [aaV hk,acx h hp ht,if_pos (by omega),Nat.add_sub_cancel_left]
 ·rw [List.getElem?_eq_none (by unfold pgAt;simp;omega),List.getElem?_eq_none (by omega)]
theorem aeX (h:X.length=16*n) (hi:0<=i) (hj:0<=j) (hne:i≠j):rd n (cl n X i).1 j=rd n X j:=abz h hi hj hne
theorem aeY {a:Int} {b:UInt8} (hi:0<=i) (hj:0<=j) (hne:i≠j):rd n (pt n X i a b).1 j=rd n X j:=by
 unfold rd
 by_cases hp:pg n j
 ·rw [if_pos hp,if_pos hp]
  congr 1
  unfold pt
  split
  ·next hh=>
   apply List.ext_getElem?
   intro k
   by_cases hk:k<16
   ·rw [aaV hk,aaV hk,List.getElem?_set_ne (by omega)]
   ·rw [List.getElem?_eq_none (by unfold pgAt;simp;omega),List.getElem?_eq_none (by unfold pgAt;simp;omega)]
  ·rfl
 ·rw [if_neg hp,if_neg hp]
theorem abR (h:X.length=16*n) (hp:pg n i):(rd n X i).1.length=16:=by
 unfold rd
 rw [if_pos hp]
 exact aeJ h hp
end By
structure Went (S:Cs) (id:Int) (p:Pg) (S':Cs):Prop where
 fr:S'.fr=S.fr.give p.at_ (aac S.tree p.owner)
 oth:∀ x,x≠id ->S'.pages.pg x=S.pages.pg x
 how:(0<=p.kf/\S'.sl=S.sl)\/(p.kf<0/\S'.files=S.files/\∃ a:Nat,S.sl.pool[a]? =some false/\(∀ g∈aac S.tree p.owner,cUse S.sl.used g+1<=aab S.sl.used g)/\
  S'.sl=⟨S.sl.pool.set a true,(By.wr S.sl.pool.length S.sl.by_ a (S.text p)).1,cAdd S.sl.used (aac S.tree p.owner) 1⟩/\S'.pages.pg id=some (p.to 2 a))
theorem acJ (h:Inv S) {id:Int} {p:Pg} (hp:S.pages.pg id=some p) (h1:p.place=1) (ho:(S.out id).2=true):Went S id p (S.out id).1:=by
 have _:=h1
 unfold Cs.out at ho ⊢
 rw [h.page hp] at ho ⊢
 dsimp only at ho ⊢
 by_cases hk:0<=p.kf
 ·rw [if_pos hk]
  dsimp only
  obtain ⟨q,hq,e1,e2,e3,e4,e5,e6⟩:=agu id p p hp
  obtain ⟨c1,c2,c3,c4,c5,c6,c7⟩:=adW (S:=S) id p
  have hcl:=h.clean id p
  rw [hcl.put0 hq]
  refine ⟨?_,fun x hx=> ?_,.inl ⟨hk,c3⟩⟩
  ·show (S.clean id p).fr.give p.at_ (S.chain p.owner)=_
   rw [c2];rfl
  ·show ((S.clean id p).pages.putT id q 0 0).pg x=_
   rw [abB,if_neg hx]
   unfold Cs.clean
   split
   ·show (S.pages.mark id false).1.pg x=_
    rw [(abv _ _ _).2.2.2]
    cases S.pages.pg x with
    | none=>rfl
    | some r=>show some (if x=id then _ else r)=_;rw [if_neg hx]
   ·rfl
 ·rw [if_neg hk] at ho ⊢
  split at ho
  ·next hw=>
   rw [if_pos hw]
   dsimp only
   unfold Cs.away at hw ⊢
   split at hw
   ·cases hw
   next hany=>
   rw [if_neg hany]
   dsimp only at hw ⊢
   split at hw
   ·cases hw
   next hf=>
   rw [if_neg hf]
   dsimp only
   obtain ⟨a,ha,_,he⟩:=agM (by simpa using hf)
   rw [he]
   dsimp only
   have hlive:=h.own _ _ hp
   have hlim:∀ g∈aac S.tree p.owner,cUse S.sl.used g+1<=aab S.sl.used g:=by
    intro g hg
    have:=(not_exists.1 (fun hh=>hany (List.any_eq_true.2 hh))) g
    simp only [decide_eq_true_eq,not_and,Int.not_le] at this
    have:=this hg
    omega
   have htry:cTry S.sl.used (S.chain p.owner) 1=(cAdd S.sl.used (aac S.tree p.owner) 1, -1,0):=by
    by_cases h0:(cTry S.sl.used (S.chain p.owner) 1).2.2=0
    ·exact (afN h0).2.1
    ·obtain ⟨g,hg,_,_,hlt⟩:=aeO (acW h.wf hlive ⟨by decide,by decide⟩) h0
     have:=hlim g hg;omega
   rw [htry]
   have hnf:∀ q id',S.pages.pg id'=some q ->q.place=2 ->q.at_=(a:Int) ->(2:Int)≠0 ->id'=id:=by
    intro q id' hq e1 e2 _
    have:=(h.sl.taken a).2 ⟨id',q,hq,e1,e2⟩
    rw [ha] at this;cases this
   rw [h.tab.put_eq hp ⟨by decide,by decide,by omega,fun hh=>absurd hh (by decide)⟩ hnf]
   refine ⟨rfl,fun x hx=>upd_ne _ _ hx,.inr ⟨by omega,rfl,a,ha,hlim,?_,ac8 _ _ _⟩⟩
   show (⟨_,(By.wr (S.sl.pool.set a true).length _ _ _).1,_⟩:Store)=_
   rw [List.length_set]
  ·cases ho
def Has (S:Cs) (id:Int) (t:List UInt8):Prop:=∃ p,S.pages.pg id=some p/\p.kf<0/\0<p.refs/\S.text p=t
theorem Has.lt (h:Inv0 S) {id:Int} {t:List UInt8} (H:Has S id t):id<S.pages.next:=by
 obtain ⟨p,hp,_⟩:=H
 exact (h.tab.ids _ _ hp).2
variable {S':Cs} {id:Int} {t:List UInt8}
theorem aaW {p:Pg} (h1:p.place=1):S.text p=(By.rd S.fr.pool.length S.fr.by_ p.at_).1:=by unfold Cs.text;rw [if_pos h1]
theorem aa4 {p:Pg} (h1:p.place=2):S.text p=(By.rd S.sl.pool.length S.sl.by_ p.at_).1:=by unfold Cs.text;rw [if_neg (by omega),if_pos h1]
theorem abQ (h:Inv S) {p:Pg} (hp:S.pages.pg id=some p) (hk:p.kf<0):p.place=1\/p.place=2:=by
 have h1:=(h.tab.pl _ _ hp).1
 have h2:=h.anon _ _ hp hk
 omega
theorem abI {pl:Int} {s:Store} (hs:aa8 S.pages S.tree s pl) {p:Pg} (hp:S.pages.pg id=some p) (h1:p.place=pl) (ha:0<=p.at_):By.pg s.pool.length p.at_/\s.pool[p.at_.toNat]? =some true:=by
 have:=(hs.taken p.at_.toNat).2 ⟨id,p,hp,h1,by omega⟩
 have hlt:=(List.getElem?_eq_some_iff.1 this).1
 exact ⟨⟨ha,by omega⟩,this⟩
theorem Has.keep (h:Inv S) (H:Has S id t) (hpg:∀ p,S.pages.pg id=some p ->p.kf<0 ->0<p.refs ->∃ q,S'.pages.pg id=some q/\q.kf=p.kf/\q.refs=p.refs/\q.place=p.place/\q.at_=p.at_)
  (hfr:∀ p,S.pages.pg id=some p ->p.place=1 ->By.rd S'.fr.pool.length S'.fr.by_ p.at_=By.rd S.fr.pool.length S.fr.by_ p.at_)
  (hsl:∀ p,S.pages.pg id=some p ->p.place=2 ->By.rd S'.sl.pool.length S'.sl.by_ p.at_=By.rd S.sl.pool.length S.sl.by_ p.at_):Has S' id t:=by
 obtain ⟨p,hp,hk,hr,ht⟩:=H
 obtain ⟨q,hq,e1,e2,e3,e4⟩:=hpg p hp hk hr
 refine ⟨q,hq,by rw [e1];exact hk,by rw [e2];exact hr,?_⟩
 rcases abQ h hp hk with e | e
 ·rw [aaW (by rw [e3,e]),e4,hfr p hp e,<- aaW e];exact ht
 ·rw [aa4 (by rw [e3,e]),e4,hsl p hp e,<- aa4 e];exact ht
theorem Has.len (h:Inv S) (H:Has S id t):t.length=16:=by
 obtain ⟨p,hp,hk,hr,ht⟩:=H
 have h1:=(h.tab.pl _ _ hp).1
 rw [<- ht]
 rcases abQ h hp hk with e | e
 ·rw [aaW e];exact By.abR h.fr.len (abI h.fr hp e h1.2.2.1).1
 ·rw [aa4 e];exact By.abR h.sl.len (abI h.sl hp e h1.2.2.1).1
theorem abC {n:Nat} {s:Store} {a b:Int} {ch:List Int} (hn:n=s.pool.length) (h:s.by_.length=16*s.pool.length) (ha:0<=a) (hb:0<=b) (hne:a≠b):By.rd (s.give a ch).pool.length (s.give a ch).by_ b=By.rd n s.by_ b:=by
 subst hn
 show By.rd (afa s.pool a).1.length (By.cl s.pool.length s.by_ a).1 b=_
 rw [aal]
 exact By.aeX h ha hb hne
theorem Has.went (h:Inv S) (H:Has S id t) {x:Int} {p:Pg} (hp:S.pages.pg x=some p) (h1:p.place=1) (hS:Went S x p S'):Has S' id t:=by
 have hat:=(h.tab.pl _ _ hp).1.2.2.1
 by_cases hx:id=x
 ·subst hx
  obtain ⟨p',hp',hk,hr,ht⟩:=H
  rw [hp] at hp'
  cases hp'
  rcases hS.how with ⟨hk',_⟩ | ⟨_,_,a,ha,_,hsl,hpg⟩
  ·omega
  ·refine ⟨_,hpg,hk,hr,?_⟩
   have hal:=(List.getElem?_eq_some_iff.1 ha).1
   rw [aa4 rfl,hsl]
   show (By.rd (S.sl.pool.set a true).length (By.wr S.sl.pool.length S.sl.by_ a (S.text p)).1 (a:Int)).1=t
   rw [List.length_set,By.acn h.sl.len ⟨by omega,by omega⟩ (Has.len h ⟨p,hp,hk,hr,rfl⟩)]
   exact ht
 ·refine H.keep h (fun q hq _ _=>⟨q,by rw [hS.oth _ hx];exact hq,rfl,rfl,rfl,rfl⟩) (fun q hq e=> ?_) (fun q hq e=> ?_)
  ·have hqa:=(h.tab.pl _ _ hq).1.2.2.1
   rw [hS.fr]
   exact abC rfl h.fr.len hat hqa (fun e2=>hx (h.tab.one hp hq (by omega) (by omega) e2.symm))
  ·rcases hS.how with ⟨_,hsl⟩ | ⟨_,_,a,ha,_,hsl,_⟩
   ·rw [hsl]
   ·have hqa:=(h.tab.pl _ _ hq).1.2.2.1
    have hta:=(abI h.sl hq e hqa).2
    rw [hsl]
    show By.rd (S.sl.pool.set a true).length _ _=_
    rw [List.length_set]
    exact By.abz h.sl.len (by omega) hqa (fun e2=>by
     rw [<- e2,Int.toNat_natCast,ha] at hta;cases hta)
theorem Has.outs (H:Has S id t) (h:Inv S) (ho:Outs S S'):Has S' id t:=by
 induction ho with
 | refl S=>exact H
 | step hp h1 h2 _ ih=>exact ih (Has.went h H hp h1 (acJ h hp h1 h2)) (h.out hp h1)
theorem Has.framed (h:Inv S) (H:Has S id t) {a:Nat} (ha:S.fr.pool[a]? =some false) {text:List UInt8} (hpg:S'.pages.pg id=S.pages.pg id) (hpo:S'.fr.pool.length=S.fr.pool.length) (hby:S'.fr.by_=(By.wr S.fr.pool.length S.fr.by_ a text).1)
  (hsl:∀ p,S.pages.pg id=some p ->p.place=2 ->By.rd S'.sl.pool.length S'.sl.by_ p.at_=By.rd S.sl.pool.length S.sl.by_ p.at_):Has S' id t:=by
 refine H.keep h (fun p hp _ _=>⟨p,by rw [hpg];exact hp,rfl,rfl,rfl,rfl⟩) (fun p hp e=> ?_) hsl
 have hpa:=(h.tab.pl _ _ hp).1.2.2.1
 have hta:=(abI h.fr hp e hpa).2
 rw [hpo,hby]
 exact By.abz h.fr.len (by omega) hpa (fun e2=>by rw [<- e2,Int.toNat_natCast,ha] at hta;cases hta)
theorem Has.withT (h:Inv S) (hn:S.pages.next<16777216) (H:Has S id t) {g:Int} (hl:S.live g=true) (text:List UInt8):Has (S.withT g text).1 id t:=by
 rcases acb h hn hl text with ⟨S0,a,k,he,_,hpg⟩ | ⟨S0,t',k,he⟩
 ·have h0:=k.outs.inv h
  have H0:=H.outs h k.outs
  have hid:id≠S.pages.next:=by have:=H.lt h.toInv0;omega
  refine H0.framed h0 k.free (text:=text) (by rw [hpg,if_neg hid]) ?_ ?_ (fun p _ _=> ?_)
  ·rw [he];show (S0.fr.pool.set a true).length=_;rw [List.length_set]
  ·rw [he]
   show (By.wr (S0.fr.pool.set a true).length S0.fr.by_ a text).1=_
   rw [List.length_set]
  ·rw [he];rfl
 ·rw [he];exact H.outs h k.outs
theorem Has.fresh (h:Inv S) (hn:S.pages.next<16777216) (H:Has S id t) (g:Int):Has (S.fresh g).1 id t:=by
 unfold Cs.fresh
 split
 ·exact H
 ·next hl=>exact H.withT h hn (by simpa using hl) _
theorem Has.copy (h:Inv S) (hn:S.pages.next<16777216) (H:Has S id t) (x g:Int):Has (S.copy x g).1 id t:=by
 unfold Cs.copy
 dsimp only
 split
 ·exact H
 ·next hl=>
  have hl:S.live g=true:=by
   cases hh:S.live g with
   | true=>rfl
   | false=>exact absurd (.inr (.inl hh)) hl
  exact H.withT h hn hl _
theorem Has.same (h:Inv S) (H:Has S id t) (h1:S'.pages.pg id=S.pages.pg id) (h2:S'.fr.pool.length=S.fr.pool.length/\S'.fr.by_=S.fr.by_) (h3:S'.sl.pool.length=S.sl.pool.length/\S'.sl.by_=S.sl.by_):Has S' id t:=
 H.keep h (fun p hp _ _=>⟨p,by rw [h1];exact hp,rfl,rfl,rfl,rfl⟩) (fun p _ _=>by rw [h2.1,h2.2]) (fun p _ _=>by rw [h3.1,h3.2])
theorem Has.brought (h:Inv S) (H:Has S id t) {x o:Int} {p:Pg} {S0:Cs} {a:Nat} {r:Cs×Int×Int} (hp:S.pages.pg x=some p) (h1:p.place≠1) (b:al7 S S0 x p o a r):Has r.1 id t:=by
 have h0:=b.took.outs.inv h
 have H0:=H.outs h b.took.outs
 have hal:=(List.getElem?_eq_some_iff.1 b.took.free).1
 by_cases hx:id=x
 ·subst hx
  obtain ⟨p',hp',hk,hr,ht⟩:=H0
  rw [b.page] at hp'
  cases hp'
  refine ⟨{p with owner:=o,place:=1,at_:=(a:Int)},by rw [b.pg,if_pos rfl],hk,hr,?_⟩
  rw [aaW rfl,b.by_,b.pool,List.length_set,By.acn h0.fr.len ⟨by omega,by omega⟩ (Has.len h0 ⟨p,b.page,hk,hr,rfl⟩)]
  exact ht
 ·refine H0.framed h0 b.took.free (text:=S0.text p) (by rw [b.pg,if_neg hx]) (by rw [b.pool,List.length_set]) b.by_ (fun q hq e=> ?_)
  rw [b.sl]
  by_cases e2:p.place=2
  ·rw [if_pos e2]
   have hqa:=(h0.tab.pl _ _ hq).1.2.2.1
   have hpa:=(h0.tab.pl _ _ b.page).1.2.2.1
   exact abC rfl h0.sl.len hpa hqa (fun e3=>hx (h0.tab.one b.page hq (by omega) (by omega) e3.symm))
  ·rw [if_neg e2]
theorem Has.bring (h:Inv S) (H:Has S id t) (x g:Int):Has (S.bring x g).1 id t:=by
 by_cases hb:S.pages.pg x=none\/S.live g=false\/∃ p,S.pages.pg x=some p/\p.place=0/\p.kf<0
 ·rw [abS h.toInv0 hb];exact H
 ·obtain ⟨p,hp⟩:∃ p,S.pages.pg x=some p:=by
   cases hq:S.pages.pg x with
   | none=>exact absurd (.inl hq) hb
   | some p=>exact ⟨p,rfl⟩
  have hl:S.live g=true:=by
   cases hh:S.live g with
   | true=>rfl
   | false=>exact absurd (.inr (.inl hh)) hb
  by_cases h1:p.place=1
  ·rw [acA h.toInv0 hp h1 hl]
   exact H.same h rfl ⟨rfl,rfl⟩ ⟨rfl,rfl⟩
  ·rcases acs h.toInv0 h.anon hp hl (fun e=>hb (.inr (.inr ⟨p,hp,e⟩))) h1 with ⟨S0,a,b,_⟩ | ⟨S0,t',b,he⟩
   ·exact H.brought h hp h1 b
   ·rw [he];exact H.outs h b.outs
end Go.Kc
end
section
set_option maxRecDepth 100000
namespace Go.Kc
open Go Go.Kt Go.Sp
variable {S S':Cs} {id:Int} {t:List UInt8}
theorem Has.openF (h:Inv S) (hn:S.pages.next<16777216) (H:Has S id t) (k:Int×Int) (g:Int):Has (S.openF k g).1 id t:=by
 unfold Cs.openF
 dsimp only
 split
 ·exact H
 ·next hh=>
  have hl:S.live g=true:=by
   cases hh':S.live g with
   | true=>rfl
   | false=>exact absurd (.inr hh') hh
  have hf:fHas S.files k=true:=by
   cases hh':fHas S.files k with
   | true=>rfl
   | false=>exact absurd (.inl hh') hh
  by_cases hm:S.pages.of k<0
  ·rw [decide_eq_true hm]
   simp only [if_true]
   obtain ⟨kf,ki⟩:=k
   have hkf:=aeK hf
   have hmk:=adQ S.pages (kf:=kf) (ki:=ki) (o:=g) ⟨h.tab.next,hn⟩ (.inr hm)
   rw [show (S.pages.make kf ki g).2.1=S.pages.next by rw [hmk.1]]
   have hI:=h.toInv0.make hn (kf:=kf) (ki:=ki) hl (.inr ⟨hm,hf⟩)
   have hkey:aaR S.pages kf ki=(kf,ki):=by unfold aaR;rw [if_neg (by have:0<=kf:=hkf;omega)]
   have hanon:∀ x p,(S.pages.make kf ki g).1.pg x=some p ->p.kf<0 ->p.place≠0:=by
    intro x q hq hq0
    rw [hmk.2.2] at hq
    split at hq
    ·rw [<- Option.some.inj hq,hkey] at hq0
     have:kf<0:=hq0
     have:0<=kf:=hkf
     omega
    ·exact h.anon _ _ hq hq0
   have hJ:Inv {S with pages:=(S.pages.make kf ki g).1} :=⟨hI,hanon⟩
   have hid:id≠S.pages.next:=by have:=H.lt h.toInv0;omega
   have HJ:Has {S with pages:=(S.pages.make kf ki g).1} id t:=H.same h (by show (S.pages.make kf ki g).1.pg id=_;rw [hmk.2.2,if_neg hid]) ⟨rfl,rfl⟩ ⟨rfl,rfl⟩
   have HB:=HJ.bring hJ S.pages.next g
   have IB:=hJ.bring S.pages.next g
   split
   ·exact HB
   ·refine HB.same IB ?_ ⟨rfl,rfl⟩ ⟨rfl,rfl⟩
    show (TS.drop _ _).1.pg id=_
    unfold TS.drop
    split
    ·rfl
    ·split
     ·rfl
     ·exact upd_ne _ _ hid
  ·rw [decide_eq_false hm]
   simp only [Bool.false_eq_true,if_false]
   have:=H.bring h (S.pages.of k) g
   split<;>exact this
theorem Has.get (h:Inv S) (H:Has S id t) (x a:Int):Has (S.get x a).1 id t:=by
 unfold Cs.get
 dsimp only
 split
 ·exact H
 ·dsimp only
  split
  ·exact H.same h rfl ⟨rfl,rfl⟩ ⟨rfl,rfl⟩
  ·exact H
theorem aeg {x:Int} (hh:(S.here x).2=true):∃ p,S.pages.pg x=some p/\p.place=1/\(S.here x).1=p.at_:=by
 unfold Cs.here TS.get at hh
 cases hp:S.pages.pg x with
 | none=>rw [hp] at hh;simp at hh
 | some p=>
  rw [hp] at hh
  refine ⟨p,rfl,by simpa using hh,?_⟩
  unfold Cs.here TS.get;rw [hp]
theorem Has.put (h:Inv S) (H:Has S id t) {x:Int} (hx:x≠id) (a:Int) (b:UInt8):Has (S.put x a b).1 id t:=by
 unfold Cs.put
 dsimp only
 split
 ·exact H
 ·next hh=>
  have hh:(S.here x).2=true:=by simpa using hh
  obtain ⟨p,hp,h1,he⟩:=aeg hh
  split
  ·have hat:=(h.tab.pl _ _ hp).1.2.2.1
   refine H.keep h (fun q hq _ _=>⟨q,?_,rfl,rfl,rfl,rfl⟩) (fun q hq e=> ?_) (fun q _ _=>rfl)
   ·show (S.pages.mark x true).1.pg id=_
    rw [(abv _ _ _).2.2.2,hq]
    show some (if id=x then _ else q)=_
    rw [if_neg (fun e=>hx e.symm)]
   ·have hqa:=(h.tab.pl _ _ hq).1.2.2.1
    show By.rd S.fr.pool.length (By.pt S.fr.pool.length S.fr.by_ (S.here x).1 a b).1 q.at_=_
    rw [he]
    exact By.aeY hat hqa (fun e2=>hx (h.tab.one hq hp (by omega) (by omega) e2))
  ·exact H
theorem Has.refer (h:Inv S) (H:Has S id t) {x:Int} (hx:x≠id) (n:Int):Has (S.refer x n).1 id t:=by
 rcases ab1 h x n with ⟨_,he⟩ | ⟨p,hp,⟨_,he⟩ | ⟨_,_,he⟩ | ⟨_,_,_,_,_,hpg,_,_,hfr,hsl,_⟩⟩
 ·rw [he];exact H
 ·rw [he];exact H
 ·rw [he];exact H.same h (upd_ne _ _ (fun e=>hx e.symm)) ⟨rfl,rfl⟩ ⟨rfl,rfl⟩
 ·have hat:=(h.tab.pl _ _ hp).1.2.2.1
  refine H.keep h (fun q hq _ _=>⟨q,by rw [hpg,if_neg (fun e=>hx e.symm)];exact hq,rfl,rfl,rfl,rfl⟩) (fun q hq e=> ?_) (fun q hq e=> ?_)
  ·rw [hfr]
   by_cases e1:p.place=1
   ·rw [if_pos e1]
    exact abC rfl h.fr.len hat (h.tab.pl _ _ hq).1.2.2.1 (fun e2=>hx (h.tab.one hq hp (by omega) (by omega) e2))
   ·rw [if_neg e1]
  ·rw [hsl]
   by_cases e1:p.place=2
   ·rw [if_pos e1]
    exact abC rfl h.sl.len hat (h.tab.pl _ _ hq).1.2.2.1 (fun e2=>hx (h.tab.one hq hp (by omega) (by omega) e2))
   ·rw [if_neg e1]
theorem Has.remove (h:Inv S) (H:Has S id t) (g:Int):Has (S.remove g).1 id t:=by
 unfold Cs.remove
 dsimp only
 split
 ·refine H.keep h (fun q hq _ _=>⟨if q.owner=g then {q with owner:=ab9 S.tree g} else q,?_,?_,?_,?_,?_⟩) (fun q _ _=>rfl) (fun q _ _=>rfl)
  ·show (S.pages.ownAll (S.pages.those g) (ab9 S.tree g)).pg id=_
   rw [agL h.tab,hq];rfl
  all_goals split<;>rfl
 ·exact H
theorem Has.addGroup (h:Inv S) (H:Has S id t) (p:Int):Has (S.addGroup p).1 id t:=by
 unfold Cs.addGroup
 dsimp only
 split
 ·exact H.same h rfl ⟨rfl,rfl⟩ ⟨rfl,rfl⟩
 ·exact H
theorem Has.limit (h:Inv S) (H:Has S id t) (g what n:Int):Has (S.limit g what n).1 id t:=by
 have key:∀ r:Cs×Int,r.1.pages=S.pages ->r.1.fr.pool=S.fr.pool/\r.1.fr.by_=S.fr.by_ ->r.1.sl.pool=S.sl.pool/\r.1.sl.by_=S.sl.by_ ->Has r.1 id t:=
  fun r h1 h2 h3=>H.same h (by rw [h1]) ⟨by rw [h2.1],h2.2⟩ ⟨by rw [h3.1],h3.2⟩
 unfold Cs.limit
 split
 ·exact H
 split
 ·exact H
 split
 ·exact key _ rfl ⟨rfl,rfl⟩ ⟨rfl,rfl⟩
 split
 ·exact key _ rfl ⟨rfl,rfl⟩ ⟨rfl,rfl⟩
 split
 ·exact key _ rfl ⟨rfl,rfl⟩ ⟨rfl,rfl⟩
 split
 ·exact key _ rfl ⟨rfl,rfl⟩ ⟨rfl,rfl⟩
 split
 ·split
  ·exact H
  ·exact key _ rfl ⟨rfl,rfl⟩ ⟨rfl,rfl⟩
 ·exact H
theorem Has.act (h:Inv S) (hn:S.pages.next<16777216) (H:Has S id t) (x:Act) (hx:¬ (x.b=id/\(x.k.tmod 12=7\/x.k.tmod 12=9))):Has (S.act x).1 id t:=by
 exact ag3 (P:=fun r=>Has r.1 id t) S x (fun _=>H.addGroup h _) (fun _=>H.remove h _) (fun _=>H.limit h _ _ _) (fun _=>H.fresh h hn _) (fun _=>H.openF h hn _ _) (fun _=>H.bring h _ _) (fun _=>H.copy h hn _ _)
  (fun e=>H.put h (fun e2=>hx ⟨e2,.inl e⟩) _ _) (fun _=>H.get h _ _) (fun e=>H.refer h (fun e2=>hx ⟨e2,.inr e⟩) _) (fun _=>H.same h rfl ⟨rfl,rfl⟩ ⟨rfl,rfl⟩) (fun _=>H.outs h (adY h _ _))
end Go.Kc
end
section
set_option maxRecDepth 100000
namespace Go.Kc
open Go Go.Kt Go.Sp
variable {S S':Cs}
theorem adh {C:List Cnt} (hC:C.length=64) (l:List Int) {n:Int} (hn:0<=n) (g:Int):cUse (aaC C l n).1 g<=cUse C g:=by
 cases hr:ab2 l n with
 | false=>unfold aaC;rw [hr];exact Int.le_refl _
 | true=>
  by_cases hb:∃ x∈l,cUse C x<n
  ·rw [ahp hr hb];exact Int.le_refl _
  ·rw [aeN hr (fun x hx=>Int.not_lt.1 (fun hlt=>hb ⟨x,hx,hlt⟩))]
   have:=abJ.1 hr
   rw [acm hC this.1 this.2.1]
   split<;>omega
structure Lim (S S':Cs):Prop where
 lim:∀ g,aab S'.fr.used g=aab S.fr.used g/\aab S'.sl.used g=aab S.sl.used g
 mem:∀ g,S'.memory g<=S.memory g\/S'.memory g<=aab S.fr.used g
 swp:∀ g,S'.swap g<=S.swap g\/S'.swap g<=aab S.sl.used g
 pool:S'.fr.pool.length=S.fr.pool.length/\S'.sl.pool.length=S.sl.pool.length
theorem Lim.refl (S:Cs):Lim S S:=⟨fun _=>⟨rfl,rfl⟩,fun _=> .inl (Int.le_refl _),fun _=> .inl (Int.le_refl _),rfl,rfl⟩
theorem Lim.same (h1:S'.fr.used=S.fr.used) (h2:S'.sl.used=S.sl.used) (h3:S'.fr.pool.length=S.fr.pool.length) (h4:S'.sl.pool.length=S.sl.pool.length):Lim S S':=by
 refine ⟨fun g=>by rw [h1,h2];exact ⟨rfl,rfl⟩,fun g=> .inl ?_,fun g=> .inl ?_,h3,h4⟩
 ·unfold Cs.memory;rw [h1];exact Int.le_refl _
 ·unfold Cs.swap;rw [h2];exact Int.le_refl _
theorem Lim.trans {A B C:Cs} (h:Lim A B) (h':Lim B C):Lim A C:=by
 refine ⟨fun g=>⟨(h'.lim g).1.trans (h.lim g).1,(h'.lim g).2.trans (h.lim g).2⟩,fun g=> ?_,fun g=> ?_,h'.pool.1.trans h.pool.1,h'.pool.2.trans h.pool.2⟩
 ·have h1:=h.mem g;have h2:=h'.mem g;have h3:=(h.lim g).1;omega
 ·have h1:=h.swp g;have h2:=h'.swp g;have h3:=(h.lim g).2;omega
theorem Lim.used (hC:S.fr.used.length=64) (hD:S.sl.used.length=64)
  (h1:S'.fr.used=S.fr.used\/(∃ l n,0<=n/\S'.fr.used=(aaC S.fr.used l n).1)\/∃ l,((∀ x∈l,0<=x/\x<64)/\l.Nodup)/\(∀ g∈l,cUse S.fr.used g+1<=aab S.fr.used g)/\S'.fr.used=cAdd S.fr.used l 1)
  (h2:S'.sl.used=S.sl.used\/(∃ l n,0<=n/\S'.sl.used=(aaC S.sl.used l n).1)\/∃ l,((∀ x∈l,0<=x/\x<64)/\l.Nodup)/\(∀ g∈l,cUse S.sl.used g+1<=aab S.sl.used g)/\S'.sl.used=cAdd S.sl.used l 1) (h3:S'.fr.pool.length=S.fr.pool.length) (h4:S'.sl.pool.length=S.sl.pool.length):Lim S S':=by
 have key:∀ {C C':List Cnt},C.length=64 ->(C'=C\/(∃ l n,0<=n/\C'=(aaC C l n).1)\/∃ l,((∀ x∈l,0<=x/\x<64)/\l.Nodup)/\(∀ g∈l,cUse C g+1<=aab C g)/\C'=cAdd C l 1) ->
   ∀ g,aab C' g=aab C g/\(cUse C' g<=cUse C g\/cUse C' g<=aab C g):=by
  intro C C' hC h g
  rcases h with rfl | ⟨l,n,hn,rfl⟩ | ⟨l,hl,hle,rfl⟩
  ·exact ⟨rfl,.inl (Int.le_refl _)⟩
  ·exact ⟨afx hC _ _ _,.inl (adh hC _ hn _)⟩
  ·refine ⟨adU hC hl.1 hl.2,?_⟩
   rw [acm hC hl.1 hl.2]
   by_cases hg:g∈l
   ·rw [if_pos hg];exact .inr (hle g hg)
   ·rw [if_neg hg];exact .inl (by omega)
 exact ⟨fun g=>⟨(key hC h1 g).1,(key hD h2 g).1⟩,fun g=>(key hC h1 g).2,fun g=>(key hD h2 g).2,h3,h4⟩
theorem Lim.went (h:Inv S) {x:Int} {p:Pg} (hp:S.pages.pg x=some p) (hS:Went S x p S'):Lim S S':=by
 have hc:=aan h.wf (h.own _ _ hp)
 refine Lim.used h.fr.used.len h.sl.used.len (.inr (.inl ⟨aac S.tree p.owner,1,by decide,by rw [hS.fr];rfl⟩)) ?_ (by rw [hS.fr];exact aal _ _) ?_
 rcases hS.how with ⟨_,hsl⟩ | ⟨_,_,a,_,hl,hsl,_⟩
 ·exact .inl (by rw [hsl])
 ·exact .inr (.inr ⟨_,⟨hc.1,hc.2.1⟩,hl,by rw [hsl]⟩)
 ·rcases hS.how with ⟨_,hsl⟩ | ⟨_,_,a,_,_,hsl,_⟩
  ·rw [hsl]
  ·rw [hsl];exact List.length_set
theorem Lim.outs (h:Inv S) (ho:Outs S S'):Lim S S':=by
 induction ho with
 | refl S=>exact .refl S
 | step hp h1 h2 _ ih=>exact (Lim.went h hp (acJ h hp h1 h2)).trans (ih (h.out hp h1))
theorem Lim.withT (h:Inv S) (hn:S.pages.next<16777216) {g:Int} (hl:S.live g=true) (text:List UInt8):Lim S (S.withT g text).1:=by
 have hc:=aan h.wf hl
 rcases acb h hn hl text with ⟨S0,a,k,he,_,hpg⟩ | ⟨S0,t',k,he⟩
 ·have h0:=k.outs.inv h
  have htr:=(k.outs.kept h).tree
  refine (Lim.outs h k.outs).trans (Lim.used h0.fr.used.len h0.sl.used.len (.inr (.inr ⟨aac S.tree g,⟨hc.1,hc.2.1⟩,k.lim,?_⟩)) (.inl ?_) (by rw [he];exact List.length_set) (by rw [he];rfl))
  ·rw [he,htr];rfl
  ·rw [he];rfl
 ·rw [he];exact Lim.outs h k.outs
theorem Lim.fresh (h:Inv S) (hn:S.pages.next<16777216) (g:Int):Lim S (S.fresh g).1:=by
 unfold Cs.fresh
 split
 ·exact .refl S
 ·next hl=>exact Lim.withT h hn (by simpa using hl) _
theorem Lim.copy (h:Inv S) (hn:S.pages.next<16777216) (x g:Int):Lim S (S.copy x g).1:=by
 unfold Cs.copy
 dsimp only
 split
 ·exact .refl S
 ·next hl=>
  have hl:S.live g=true:=by
   cases hh:S.live g with
   | true=>rfl
   | false=>exact absurd (.inr (.inl hh)) hl
  exact Lim.withT h hn hl _
theorem Lim.bring (h:Inv0 S) (hanon:∀ x p,S.pages.pg x=some p ->p.kf<0 ->p.place≠0) (x g:Int):Lim S (S.bring x g).1:=by
 have hI:Inv S:=⟨h,hanon⟩
 by_cases hb:S.pages.pg x=none\/S.live g=false\/∃ p,S.pages.pg x=some p/\p.place=0/\p.kf<0
 ·rw [abS h hb];exact .refl S
 ·obtain ⟨p,hp⟩:∃ p,S.pages.pg x=some p:=by
   cases hq:S.pages.pg x with
   | none=>exact absurd (.inl hq) hb
   | some p=>exact ⟨p,rfl⟩
  have hl:S.live g=true:=by
   cases hh:S.live g with
   | true=>rfl
   | false=>exact absurd (.inr (.inl hh)) hb
  by_cases h1:p.place=1
  ·rw [acA h hp h1 hl];exact Lim.same rfl rfl rfl rfl
  ·rcases acs h hanon hp hl (fun e=>hb (.inr (.inr ⟨p,hp,e⟩))) h1 with ⟨S0,a,b,_⟩ | ⟨S0,t',b,he⟩
   ·have h0:=b.took.outs.inv hI
    have hlo:S.live (if p.place=0 then g else p.owner)=true:=by
     split
     ·exact hl
     ·exact h.own _ _ hp
    have hc:=aan h.wf hlo
    refine (Lim.outs hI b.took.outs).trans (Lim.used h0.fr.used.len h0.sl.used.len (.inr (.inr ⟨_,⟨hc.1,hc.2.1⟩,b.took.lim,b.used⟩)) ?_ (by rw [b.pool];exact List.length_set) ?_)
    ·rw [b.sl]
     split
     ·exact .inr (.inl ⟨_,1,by decide,rfl⟩)
     ·exact .inl rfl
    ·rw [b.sl]
     split
     ·exact aal _ _
     ·rfl
   ·rw [he];exact Lim.outs hI b.outs
theorem Lim.openF (h:Inv S) (hn:S.pages.next<16777216) (k:Int×Int) (g:Int):Lim S (S.openF k g).1:=by
 unfold Cs.openF
 dsimp only
 split
 ·exact .refl S
 ·next hh=>
  have hl:S.live g=true:=by
   cases hh':S.live g with
   | true=>rfl
   | false=>exact absurd (.inr hh') hh
  have hf:fHas S.files k=true:=by
   cases hh':fHas S.files k with
   | true=>rfl
   | false=>exact absurd (.inl hh') hh
  by_cases hm:S.pages.of k<0
  ·rw [decide_eq_true hm]
   simp only [if_true]
   obtain ⟨kf,ki⟩:=k
   have hkf:=aeK hf
   have hmk:=adQ S.pages (kf:=kf) (ki:=ki) (o:=g) ⟨h.tab.next,hn⟩ (.inr hm)
   have hI:=h.toInv0.make hn (kf:=kf) (ki:=ki) hl (.inr ⟨hm,hf⟩)
   have hkey:aaR S.pages kf ki=(kf,ki):=by unfold aaR;rw [if_neg (by have:0<=kf:=hkf;omega)]
   have hanon:∀ x p,(S.pages.make kf ki g).1.pg x=some p ->p.kf<0 ->p.place≠0:=by
    intro x q hq hq0
    rw [hmk.2.2] at hq
    split at hq
    ·rw [<- Option.some.inj hq,hkey] at hq0
     have:kf<0:=hq0
     have:0<=kf:=hkf
     omega
    ·exact h.anon _ _ hq hq0
   have LB:=(Lim.same (S:=S) (S':= {S with pages:=(S.pages.make kf ki g).1}) rfl rfl rfl rfl).trans (Lim.bring hI hanon (S.pages.make kf ki g).2.1 g)
   split
   ·exact LB
   ·exact LB.trans (Lim.same rfl rfl rfl rfl)
  ·rw [decide_eq_false hm]
   simp only [Bool.false_eq_true,if_false]
   have:=Lim.bring h.toInv0 h.anon (S.pages.of k) g
   split<;>exact this
theorem Lim.get (x a:Int):Lim S (S.get x a).1:=by
 unfold Cs.get
 dsimp only
 split
 ·exact .refl S
 ·dsimp only
  split
  ·exact Lim.same rfl rfl rfl rfl
  ·exact .refl S
theorem Lim.put (x a:Int) (b:UInt8):Lim S (S.put x a b).1:=by
 unfold Cs.put
 dsimp only
 split
 ·exact .refl S
 ·split
  ·exact Lim.same rfl rfl rfl rfl
  ·exact .refl S
theorem Lim.refer (h:Inv S) (x n:Int):Lim S (S.refer x n).1:=by
 rcases ab1 h x n with ⟨_,he⟩ | ⟨p,hp,⟨_,he⟩ | ⟨_,_,he⟩ | ⟨_,_,_,_,_,hpg,_,_,hfr,hsl,_⟩⟩
 ·rw [he];exact .refl S
 ·rw [he];exact .refl S
 ·rw [he];exact Lim.same rfl rfl rfl rfl
 ·refine Lim.used h.fr.used.len h.sl.used.len ?_ ?_ (by rw [hfr];split;exact aal _ _;rfl) (by rw [hsl];split;exact aal _ _;rfl)
  ·rw [hfr]
   split
   ·exact .inr (.inl ⟨_,1,by decide,rfl⟩)
   ·exact .inl rfl
  ·rw [hsl]
   split
   ·exact .inr (.inl ⟨_,1,by decide,rfl⟩)
   ·exact .inl rfl
theorem Lim.remove (h:Inv S) (g:Int):Lim S (S.remove g).1:=by
 unfold Cs.remove
 dsimp only
 split
 ·exact Lim.used h.fr.used.len h.sl.used.len (.inr (.inl ⟨_,_,(h.fr.used.of g).1.1,rfl⟩)) (.inr (.inl ⟨_,_,(h.sl.used.of g).1.1,rfl⟩)) rfl rfl
 ·exact .refl S
theorem Lim.addGroup (p:Int):Lim S (S.addGroup p).1:=by
 unfold Cs.addGroup
 dsimp only
 split
 ·exact Lim.same rfl rfl rfl rfl
 ·exact .refl S
structure Sets (S:Cs) (g what n:Int) (r:Cs×Int):Prop where
 mem:∀ x,r.1.memory x=S.memory x
 swp:∀ x,r.1.swap x=S.swap x
 one:∀ x,aab r.1.fr.used x=if r.2=0/\what=2/\x=g then n else aab S.fr.used x
 two:∀ x,aab r.1.sl.used x=if r.2=0/\what=3/\x=g then n else aab S.sl.used x
 ok:r.2=0 ->S.live g=true
 pool:r.1.fr.pool.length=S.fr.pool.length/\r.1.sl.pool.length=S.sl.pool.length
theorem ajq (h:Inv S) (g what n:Int):Sets S g what n (S.limit g what n):=by
 have none_:∀ r:Cs×Int,r.1.fr=S.fr ->r.1.sl=S.sl ->(r.2=0 ->S.live g=true/\what≠2/\what≠3) ->Sets S g what n r:=by
  intro r h1 h2 h3
  refine ⟨fun x=>by unfold Cs.memory;rw [h1],fun x=>by unfold Cs.swap;rw [h2],fun x=> ?_,fun x=> ?_,fun e=>(h3 e).1,by rw [h1,h2];exact ⟨rfl,rfl⟩⟩
  ·rw [if_neg (fun e=>(h3 e.1).2.1 e.2.1),h1]
  ·rw [if_neg (fun e=>(h3 e.1).2.2 e.2.1),h2]
 unfold Cs.limit
 split
 ·exact none_ _ rfl rfl (fun e=>by cases e)
 next hl=>
 have hl:S.live g=true:=by simpa using hl
 have hg:isG g=true:=abP.2 ⟨(adP hl).1,by have:=(adP hl).2;have:=h.wf.few;omega⟩
 split
 ·exact none_ _ rfl rfl (fun e=>by cases e)
 next hn=>
 have hn:isA n=true:=by simpa using hn
 split
 ·next e=>exact none_ _ rfl rfl (fun _=>⟨hl,by omega,by omega⟩)
 split
 ·next e=>exact none_ _ rfl rfl (fun _=>⟨hl,by omega,by omega⟩)
 have hset:∀ C:List Cnt,(aaK C g n).2=0:=fun C=>by unfold aaK;rw [hg,hn];rfl
 split
 ·next e=>
  refine ⟨fun x=>aes h.fr.used.len _ _ _,fun x=>rfl,fun x=> ?_,fun x=> ?_,fun _=>hl,rfl,rfl⟩
  ·show aab (aaK S.fr.used g n).1 x=_
   rw [acO h.fr.used.len hg hn]
   by_cases hx:x=g
   ·rw [if_pos hx,if_pos ⟨hset _,e,hx⟩]
   ·rw [if_neg hx,if_neg (fun e=>hx e.2.2)]
  ·rw [if_neg (fun e=>by omega)]
 split
 ·next e=>
  refine ⟨fun x=>rfl,fun x=>aes h.sl.used.len _ _ _,fun x=> ?_,fun x=> ?_,fun _=>hl,rfl,rfl⟩
  ·rw [if_neg (fun e=>by omega)]
  ·show aab (aaK S.sl.used g n).1 x=_
   rw [acO h.sl.used.len hg hn]
   by_cases hx:x=g
   ·rw [if_pos hx,if_pos ⟨hset _,e,hx⟩]
   ·rw [if_neg hx,if_neg (fun e=>hx e.2.2)]
 split
 ·split
  ·exact none_ _ rfl rfl (fun e=>by cases e)
  ·exact none_ _ rfl rfl (fun _=>⟨hl,by omega,by omega⟩)
 ·exact none_ _ rfl rfl (fun e=>by cases e)
structure ai4 (S:Cs) (x:Act) (r:Cs×Int×Int×Int):Prop where
 mem:∀ g,r.1.memory g<=S.memory g\/r.1.memory g<=aab r.1.fr.used g
 swp:∀ g,r.1.swap g<=S.swap g\/r.1.swap g<=aab r.1.sl.used g
 one:∀ g,aab r.1.fr.used g=if (x.k.tmod 12=2/\r.2.2.2=0)/\x.b=2/\g=x.a then x.c else aab S.fr.used g
 two:∀ g,aab r.1.sl.used g=if (x.k.tmod 12=2/\r.2.2.2=0)/\x.b=3/\g=x.a then x.c else aab S.sl.used g
 ok:x.k.tmod 12=2/\r.2.2.2=0 ->0<=x.a/\x.a<64
 pool:r.1.fr.pool.length=S.fr.pool.length/\r.1.sl.pool.length=S.sl.pool.length
theorem ai7 (h:Inv S) (hn:S.pages.next<16777216) (x:Act):ai4 S x (S.act x):=by
 have of:∀ r:Cs×Int×Int×Int,x.k.tmod 12≠2 ->Lim S r.1 ->ai4 S x r:=by
  intro r hk L
  refine ⟨fun g=>by rw [(L.lim g).1];exact L.mem g,fun g=>by rw [(L.lim g).2];exact L.swp g,fun g=> ?_,fun g=> ?_,fun e=>absurd e.1 hk,L.pool⟩
  ·rw [if_neg (fun e=>hk e.1.1)];exact (L.lim g).1
  ·rw [if_neg (fun e=>hk e.1.1)];exact (L.lim g).2
 refine ag3 (P:=fun r=>ai4 S x r) S x (fun e=>of _ (by omega) (Lim.addGroup _)) (fun e=>of _ (by omega) (Lim.remove h _)) (fun e=> ?_) (fun e=>of _ (by omega) (Lim.fresh h hn _))
  (fun e=>of _ (by omega) (Lim.openF h hn _ _)) (fun e=>of _ (by omega) (Lim.bring h.toInv0 h.anon _ _)) (fun e=>of _ (by omega) (Lim.copy h hn _ _)) (fun e=>of _ (by omega) (Lim.put _ _ _))
  (fun e=>of _ (by omega) (Lim.get _ _)) (fun e=>of _ (by omega) (Lim.refer h _ _)) (fun e=>of _ (by omega) (Lim.same rfl rfl rfl rfl)) (fun e=>of _ (by omega) (Lim.outs h (adY h _ _)))
 have k:=ajq h x.a x.b x.c
 refine ⟨fun g=> .inl ?_,fun g=> .inl ?_,fun g=> ?_,fun g=> ?_,fun e2=> ?_,k.pool⟩
 ·show (S.limit x.a x.b x.c).1.memory g<=_;rw [k.mem];exact Int.le_refl _
 ·show (S.limit x.a x.b x.c).1.swap g<=_;rw [k.swp];exact Int.le_refl _
 ·show aab (S.limit x.a x.b x.c).1.fr.used g=_
  rw [k.one]
  simp only [e,true_and]
 ·show aab (S.limit x.a x.b x.c).1.sl.used g=_
  rw [k.two]
  simp only [e,true_and]
 ·have hl:=k.ok e2.2
  exact ⟨(adP hl).1,by have:=(adP hl).2;have:=h.wf.few;omega⟩
end Go.Kc
end
section
set_option maxRecDepth 100000
namespace Go.Kc
open Go Go.Kt Go.Sp
variable {S S':Cs} {id:Int}
theorem adZ {T T':TS} (hn:T'.next=T.next) (h:∀ x,(T'.pg x).isSome=(T.pg x).isSome):T'.all=T.all:=by
 unfold TS.all
 rw [hn]
 congr 1
 exact List.filter_congr (fun i _=>h _)
theorem Kept.all (h:Kept S S'):S'.pages.all=S.pages.all:=adZ h.next (fun x=>by
 cases hp:S.pages.pg x with
 | none=>rw [h.none_ x hp]
 | some p=>obtain ⟨q,hq,_⟩:=h.page x p hp;rw [hq];rfl)
end Go.Kc
end
section
set_option maxRecDepth 100000
namespace Go.Mp
open Go Go.Vc Go.Sp Go.Proofs Go.Kc
variable {E:Env} {L:List Asn} {w:World} {A:At} {S:Cs}
def adi (n k:Nat) (x y:Int):List Int:=List.replicate k x++List.replicate (n - k) y
theorem arv {n k:Nat} (h:k<=n) (x y:Int):(adi n k x y).length=n:=by simp [adi];omega
theorem arw {n k:Nat} (h:k<n) (x y:Int):(adi n k x y).set k x=adi n (k+1) x y:=by
 unfold adi
 rw [List.set_append_right k _ (by simp),List.length_replicate,Nat.sub_self,show n - k=(n - (k+1))+1 by omega,List.replicate_succ,List.set_cons_zero,List.replicate_succ',List.append_assoc]
 rfl
def LimL (C:List Cnt) (mx:List Int):Prop:=mx.length=64/\∀ g:Nat,g<64 ->mx[g]? =some (aab C g)
theorem apj:LimL cNew (List.replicate 64 1099511627776):=by
 refine ⟨by simp,fun g hg=> ?_⟩
 rw [List.getElem?_replicate,if_pos hg]
 unfold aab cOf
 rw [if_pos (abP.2 ⟨by omega,by omega⟩)]
 unfold cNew
 rw [List.getD_eq_getElem?_getD,List.getElem?_replicate,if_pos (by omega)]
 rfl
theorem LimL.same {C C':List Cnt} {mx:List Int} (h:LimL C mx) (hc:∀ g,aab C' g=aab C g):LimL C' mx:=⟨h.1,fun g hg=>by rw [hc];exact h.2 g hg⟩
theorem LimL.set_ {C C':List Cnt} {mx:List Int} (h:LimL C mx) {a x:Int} (ha:0<=a/\a<64) (hc:∀ g,aab C' g=if g=a then x else aab C g):LimL C' (mx.set a.toNat x):=by
 refine ⟨by rw [List.length_set];exact h.1,fun g hg=> ?_⟩
 rw [hc,List.getElem?_set]
 by_cases e:(g:Int)=a
 ·rw [if_pos e,if_pos (by omega),if_pos (by rw [h.1];omega)]
 ·rw [if_neg e,if_neg (by omega)];exact h.2 g hg
theorem LimL.getD {C:List Cnt} {mx:List Int} (h:LimL C mx) {g:Int} (hg:0<=g/\g<64):mx.getD g.toNat 0=aab C g:=by
 rw [List.getD_eq_getElem?_getD,h.2 _ (by omega),show ((g.toNat:Nat):Int)=g by omega];rfl
theorem aDA {M:List Asn} {f:FuncId} {ca:Array Value} {V g:Int} {vs ls:Sl} {vl ll:List Int} {q q2:Nat} {BAD NEXT:World ->Prop} (hq:M[q]? =some (rowA vs 1 (intL vl))) (hq2:M[q2]? =some (rowA ls 1 (intL ll))) (hv:vs.n=vl.length) (hl:ls.n=ll.length)
  (hg:0<=g/\g<vl.length/\g<ll.length) (hf:∀ w,Sep E M w ->Calls P f ca w (Ret fun v w'=>v= .int .i64 V/\Sep E M w')) (hle:V<=vl.getD g.toNat 0\/V<=ll.getD g.toNat 0) (hN:∀ w',Sep E M w' ->NEXT w') (h:Sep E M w):
  elAt vs.p vs.n g 1 fun a=>∃ x:Int,w.cell? a=some (.int .i64 x)/\Calls P f ca w fun e w1=>∃ y:Int,e= .returned (.int .i64 y)/\∃ x1:Int,w1.cell? a=some (.int .i64 x1)/\((.int .i64 x1):Value)=(.int .i64 x)/\
   bif (decide (y>x)) then (elAt ls.p ls.n g 1 fun a2=>∃ z:Int,w1.cell? a2=some (.int .i64 z)/\Calls P f ca w1 fun e2 w2=>∃ y2:Int,e2= .returned (.int .i64 y2)/\∃ z1:Int,w2.cell? a2=some (.int .i64 z1)/\((.int .i64 z1):Value)=(.int .i64 z)/\
    bif (decide (y2>z)) then (BAD w2) else (NEXT w2)) else (NEXT w1):=by
 refine elJ q h hq hv hg.1 hg.2.1 (fun a ha=>⟨_,ha q h hq,use (hf w h) ?_⟩)
 rintro _ w1 ⟨rfl,h1⟩
 refine ⟨_,rfl,_,ha q h1 hq,rfl,bGt (fun hgt=> ?_) (fun _=>hN w1 h1)⟩
 refine elJ q2 h1 hq2 hl hg.1 hg.2.2 (fun a2 ha2=>⟨_,ha2 q2 h1 hq2,use (hf w1 h1) ?_⟩)
 rintro _ w2 ⟨rfl,h2⟩
 exact ⟨_,rfl,_,ha2 q2 h2 hq2,rfl,bGt (fun hgt2=>by omega) (fun _=>hN w2 h2)⟩
theorem ay5 (f:Int ->Int) (k:Nat):((List.range (k+1)).map fun i:Nat=>f i)=((List.range k).map fun i:Nat=>f i)++ [f k]:=by rw [List.range_succ,List.map_append];rfl
theorem aCg (f:Int ->Int) {g:Int} {n:Nat} (hg:0<=g/\g<n):((List.range n).map fun i:Nat=>f i).getD g.toNat 0=f g:=by
 have h1:g.toNat<n:=by omega
 rw [List.getD_eq_getElem?_getD,List.getElem?_map,List.getElem?_range h1]
 show f ((g.toNat:Nat):Int)=f g
 rw [show ((g.toNat:Nat):Int)=g by omega]
theorem aBE {W:World} {frames slots:Int} {l:Sl} {xs:List Kc.Act} (hA:acL W l xs) (h:Sep E (tabA W.heap::L) w):
  Calls P aaF #[.int .i64 frames,.int .i64 slots,.slice l.p l.n l.c] w (Ret fun v w'=>v= .bool true/\Sep E (tabA W.heap::L) w'):=by
 apply akS
 unfold agi
 refine use (afP h) ?_
 rintro _ w1 ⟨rfl,h1⟩
 refine ⟨_,rfl,bF rfl (use (akK frames slots ⟨none,0,0⟩ l w1) ?_)⟩
 rintro _ _ ⟨rfl,rfl⟩
 refine ⟨_,rfl,bifI (fun _=>⟨rfl,h1⟩) (fun hov=> ?_)⟩
 have hln:=hA.1
 have hxl:xs.length<=60:=by
  simp only [Bool.or_eq_false_iff,decide_eq_false_iff_not] at hov
  omega
 refine Al.i h1 (fun bb w3 h3=> ?_)
 have h3:Sep E (tabA W.heap::blk bb (intL [4,4])::L) w3:=h3.swap
 refine use (afB (sz:=⟨some ⟨bb,0,none⟩,2,2⟩) (l:= [4,4]) (Ints.blk_ (b:=bb) (c:=2) (gs:= [4,4]) (q:=1) rfl) (Nat.le_refl _) h3) ?_
 rintro _ w4 ⟨A,rfl,ho,h4⟩
 have h4:Sep E (aaa A (Kc.new frames slots [4,4])++L) w4:=h4.cut
 refine ⟨_,rfl,aeU (n:=64) (by decide) h4 (fun s1 w5 hs1 h5=> ?_)⟩
 have h5:Sep E (aaa A (Kc.new frames slots [4,4])++rowA s1 1 (intL (adi 64 0 1099511627776 0))::L) w5:=Sep.inn (Q:=aaa A _) h5
 refine aeU (n:=64) (by decide) h5 (fun s2 w6 hs2 h6=> ?_)
 have h6:Sep E (aaa A (Kc.new frames slots [4,4])++rowA s2 1 (intL (adi 64 0 1099511627776 0))::rowA s1 1 (intL (adi 64 0 1099511627776 0))::L) w6:=Sep.inn (Q:=aaa A _) h6
 have I0:=Inv.new frames slots [4,4]
 have n0:(Kc.new frames slots [4,4]).pages.next=0:=rfl
 have u0:(Kc.new frames slots [4,4]).fr.used=cNew:=rfl
 have v0:(Kc.new frames slots [4,4]).sl.used=cNew:=rfl
 generalize Kc.new frames slots [4,4]=T at*
 refine ⟨fun i w'=>∃ k:Nat,i=k/\k<=64/\Sep E (aaa A T++rowA s2 1 (intL (adi 64 k 1099511627776 0))::rowA s1 1 (intL (adi 64 k 1099511627776 0))::L) w',fun i _=>(64 - i).toNat,⟨0,rfl,by decide,h6⟩,?_⟩
 rintro _ _ w7 ⟨k,rfl,hk,h7⟩
 have hfl:=arv hk 1099511627776 0
 refine bLt (fun hlt=> ?_) (fun hge=> ?_)
 ·refine Sep.elStQ (q:=17) h7 rfl (by rw [hfl];exact hs1) (by omega) (by rw [hfl];omega) (fun w8 h8=> ?_)
  refine Sep.elStQ (q:=16) (l:=adi 64 k 1099511627776 0) h8 rfl (by rw [hfl];exact hs2) (by omega) (by rw [hfl];omega) (fun w9 h9=> ?_)
  rw [Int.toNat_natCast,arw (by omega)] at h9
  rw [aah (by omega)]
  refine ⟨⟨k+1,rfl,by omega,h9⟩,?_⟩
  show ((64:Int) - ((k+1:Nat):Int)).toNat<((64:Int) - (k:Int)).toNat
  omega
 have hk64:k=64:=by omega
 subst hk64
 have hf64:adi 64 64 1099511627776 0=List.replicate 64 1099511627776:=by unfold adi;simp
 rw [hf64] at h7
 refine ⟨fun i w'=>∃ (k:Nat) (D:At) (Y:Cs) (m1 m2:List Int),i=k/\k<=xs.length/\D.c=A.c/\D.o=W.heap/\Kc.Inv Y/\Y.pages.next<=k/\LimL Y.fr.used m1/\LimL Y.sl.used m2/\Sep E (aaa D Y++rowA s2 1 (intL m2)::rowA s1 1 (intL m1)::L) w',fun i _=>(xs.length - i).toNat,
  ⟨0,A,T,_,_,rfl,Nat.zero_le _,rfl,ho,I0,by rw [n0];exact Int.le_refl _,by rw [u0];exact apj,by rw [v0];exact apj,h7⟩,?_⟩
 rintro _ _ w8 ⟨k,D,Y,m1,m2,rfl,hk,hDc,hDo,IY,hYn,hm1,hm2,h8⟩
 refine bLt (fun hlt=> ?_) (fun hge=>⟨rfl,by rw [<- hDo];exact ac3 h8.cut.cut⟩)
 have hkl:k<xs.length:=by omega
 obtain ⟨x,hx⟩:∃ x,xs[k]? =some x:=⟨_,List.getElem?_eq_getElem hkl⟩
 rw [<- hDc]
 have h8:=rowA.none_ (m:=1) h8
 have h8:=rowA.none_ (m:=1) h8
 have h8:Sep E (aaa D Y++rowA ⟨none,0,0⟩ 1 []::rowA ⟨none,0,0⟩ 1 []::rowA s2 1 (intL m2)::rowA s1 1 (intL m1)::L) w8:=Sep.inns (Q:=aaa D Y) [rowA ⟨none,0,0⟩ 1 [],rowA ⟨none,0,0⟩ 1 []] h8
 refine ⟨fun me sw i w'=>∃ j:Nat,i=j/\j<=64/\me.n=j/\sw.n=j/\Sep E (aaa D Y++rowA sw 1 (intL ((List.range j).map fun i:Nat=>Y.swap i))::rowA me 1 (intL ((List.range j).map fun i:Nat=>Y.memory i))::rowA s2 1 (intL m2)::rowA s1 1 (intL m1)::L) w',fun _ _ i _=>(64 - i).toNat,
  ⟨0,rfl,by decide,rfl,rfl,h8⟩,?_⟩
 rintro _ me sw _ w9 ⟨j,rfl,hj,hme,hsw,h9⟩
 refine bLt (fun hlt=> ?_) (fun hge=> ?_)
 ·refine use (abk (j:Int) h9) ?_
  rintro _ w10 ⟨rfl,h10⟩
  refine ⟨_,rfl,Al.i h10 (fun b1 w11 h11=> ?_)⟩
  refine amv (l:=(List.range j).map fun i:Nat=>Y.memory i) (by simpa using hme) (by simp;omega) (h11.fr 18 rfl).swap (fun me' w12 hme' h12=> ?_)
  rw [<- ay5] at hme' h12
  have h12:Sep E (aaa D Y++rowA sw 1 (intL ((List.range j).map fun i:Nat=>Y.swap i))::rowA me' 1 (intL ((List.range (j+1)).map fun i:Nat=>Y.memory i))::rowA s2 1 (intL m2)::rowA s1 1 (intL m1)::L) w12:=Sep.put (q:=17) (L:=aaa D Y++rowA sw 1 (intL ((List.range j).map fun i:Nat=>Y.swap i))::rowA me 1 (intL ((List.range j).map fun i:Nat=>Y.memory i))::rowA s2 1 (intL m2)::rowA s1 1 (intL m1)::L) rfl h12
  refine use (agU (j:Int) h12) ?_
  rintro _ w13 ⟨rfl,h13⟩
  refine ⟨_,rfl,Al.i h13 (fun b2 w14 h14=> ?_)⟩
  refine amv (l:=(List.range j).map fun i:Nat=>Y.swap i) (by simpa using hsw) (by simp;omega) (h14.fr 17 rfl).swap (fun sw' w15 hsw' h15=> ?_)
  rw [<- ay5] at hsw' h15
  have h15:Sep E (aaa D Y++rowA sw' 1 (intL ((List.range (j+1)).map fun i:Nat=>Y.swap i))::rowA me' 1 (intL ((List.range (j+1)).map fun i:Nat=>Y.memory i))::rowA s2 1 (intL m2)::rowA s1 1 (intL m1)::L) w15:=Sep.put (q:=16) (L:=aaa D Y++rowA sw 1 (intL ((List.range j).map fun i:Nat=>Y.swap i))::rowA me' 1 (intL ((List.range (j+1)).map fun i:Nat=>Y.memory i))::rowA s2 1 (intL m2)::rowA s1 1 (intL m1)::L) rfl h15
  rw [aah (by omega)]
  refine ⟨⟨j+1,rfl,by omega,by simpa using hme',by simpa using hsw',h15⟩,?_⟩
  show ((64:Int) - ((j+1:Nat):Int)).toNat<((64:Int) - (j:Int)).toNat
  omega
 have hj64:j=64:=by omega
 subst hj64
 obtain ⟨ml,hml⟩:∃ ml:List Int,((List.range 64).map fun i:Nat=>Y.memory i)=ml:=⟨_,rfl⟩
 obtain ⟨wl,hwl⟩:∃ wl:List Int,((List.range 64).map fun i:Nat=>Y.swap i)=wl:=⟨_,rfl⟩
 have hmll:ml.length=64:=by rw [<- hml];simp
 have hwll:wl.length=64:=by rw [<- hwl];simp
 have hmlg:∀ g:Int,0<=g/\g<64 ->ml.getD g.toNat 0=Y.memory g:=fun g hg=>by rw [<- hml];exact aCg _ hg
 have hwlg:∀ g:Int,0<=g/\g<64 ->wl.getD g.toNat 0=Y.swap g:=fun g hg=>by rw [<- hwl];exact aCg _ hg
 rw [hml,hwl] at h9
 clear hml hwl
 refine doEl (K:=fun e w67=>∃ J:World ->Prop,_/\_) hA hx hDo IY (by omega) h9 (fun gs us w10 h10=> ?_)
 have hnn:=agq IY (by omega) x
 have act:=ai7 IY (by omega) x
 have IZ:=IY.act (by omega) x
 obtain ⟨Z,hZ⟩:∃ Z,Y.act x=Z:=⟨_,rfl⟩
 obtain ⟨F,hF⟩:∃ F:At,F= {D with gs:=gs,us:=us} :=⟨_,rfl⟩
 have hFo:F.o=W.heap:=by rw [hF];exact hDo
 have hFc:F.c=D.c:=by rw [hF]
 rw [hZ] at h10 hnn act IZ ⊢
 rw [<- hF] at h10
 rw [<- hFc]
 refine ⟨fun w'=>∃ n1 n2,LimL Z.1.fr.used n1/\LimL Z.1.sl.used n2/\Sep E (aaa F Z.1++rowA sw 1 (intL wl)::rowA me 1 (intL ml)::rowA s2 1 (intL n2)::rowA s1 1 (intL n1)::L) w',?_,?_⟩
 ·refine ⟨fun b w'=>b=decide (x.k.tmod 12=2/\Z.2.2.2=0)/\Sep E (aaa F Z.1++rowA sw 1 (intL wl)::rowA me 1 (intL ml)::rowA s2 1 (intL m2)::rowA s1 1 (intL m1)::L) w',?_,?_⟩
  ·refine adS hA hx (fun a hc=>⟨_,adT hFo h10 hc 0 _ rfl,by decide,bEq (fun e1=>⟨?_,h10⟩) (fun e1=>⟨by simp [e1],h10⟩)⟩)
   rw [Bool.eq_iff_iff,beq_iff_eq,decide_eq_true_eq]
   exact ⟨fun e=>⟨e1,e⟩,fun e=>e.2⟩
  rintro _ b w11 ⟨rfl,h11⟩
  refine bifI (fun hc=> ?_) (fun hc=> ?_)
  ·have hc:=of_decide_eq_true hc
   have ha:=act.ok hc
   refine ⟨fun w'=>∃ n1,LimL Z.1.fr.used n1/\Sep E (aaa F Z.1++rowA sw 1 (intL wl)::rowA me 1 (intL ml)::rowA s2 1 (intL m2)::rowA s1 1 (intL n1)::L) w',?_,?_⟩
   ·refine adS hA hx (fun a hc2=>⟨_,adT hFo h11 hc2 2 _ rfl,bEq (fun e1=> ?_) (fun e1=>⟨m1,hm1.same (fun g'=>by rw [act.one,if_neg (fun e=>e1 e.2.1)]),h11⟩)⟩)
    refine Dr.i h11 (fun w12 h12=>adS hA hx (fun a hc1=>⟨_,adT hFo h12 hc1 1 _ rfl,adS hA hx (fun a2 hc2=>⟨_,adT hFo h12 hc2 3 _ rfl,?_⟩)⟩))
    refine Sep.elStQ (q:=19) h12 rfl (by rw [hm1.1];exact hs1) ha.1 (by rw [hm1.1];exact ha.2) (fun w13 h13=>⟨_,hm1.set_ ha (fun g'=> ?_),h13⟩)
    rw [act.one]
    by_cases e:g'=x.a
    ·rw [if_pos ⟨hc,e1,e⟩,if_pos e]
    ·rw [if_neg (fun e2=>e e2.2.2),if_neg e]
   rintro _ w12 ⟨n1,hn1,h12⟩
   refine adS hA hx (fun a hc2=>⟨_,adT hFo h12 hc2 2 _ rfl,bEq (fun e1=> ?_) (fun e1=>⟨n1,m2,hn1,hm2.same (fun g'=>by rw [act.two,if_neg (fun e=>e1 e.2.1)]),h12⟩)⟩)
   refine Dr.i h12 (fun w13 h13=>adS hA hx (fun a hc1=>⟨_,adT hFo h13 hc1 1 _ rfl,adS hA hx (fun a2 hc2=>⟨_,adT hFo h13 hc2 3 _ rfl,?_⟩)⟩))
   refine Sep.elStQ (q:=18) h13 rfl (by rw [hm2.1];exact hs2) ha.1 (by rw [hm2.1];exact ha.2) (fun w14 h14=>⟨n1,_,hn1,hm2.set_ ha (fun g'=> ?_),h14⟩)
   rw [act.two]
   by_cases e:g'=x.a
   ·rw [if_pos ⟨hc,e1,e⟩,if_pos e]
   ·rw [if_neg (fun e2=>e e2.2.2),if_neg e]
  ·have hc:=of_decide_eq_false hc
   exact ⟨m1,m2,hm1.same (fun g'=>by rw [act.one,if_neg (fun e=>hc e.1)]),hm2.same (fun g'=>by rw [act.two,if_neg (fun e=>hc e.1)]),h11⟩
 rintro _ w11 ⟨n1,n2,hn1,hn2,h11⟩
 refine ⟨fun i w'=>∃ j:Nat,i=j/\j<=64/\Sep E (aaa F Z.1++rowA sw 1 (intL wl)::rowA me 1 (intL ml)::rowA s2 1 (intL n2)::rowA s1 1 (intL n1)::L) w',fun i _=>(64 - i).toNat,⟨0,rfl,by decide,h11⟩,?_⟩
 rintro _ _ w12 ⟨j,rfl,hj,h12⟩
 refine bLt (fun hlt=> ?_) (fun hge=> ?_)
 ·have hg:(0:Int)<=(j:Int)/\(j:Int)<64:=⟨by omega,hlt⟩
  refine Dr.i h12 (fun w13 h13=> ?_)
  refine aDA (q:=17) (q2:=19) (V:=Z.1.memory j) rfl rfl (by rw [hmll];exact hme) (by rw [hn1.1];exact hs1) ⟨hg.1,by rw [hmll];exact hg.2,by rw [hn1.1];exact hg.2⟩ (fun w' h'=>abk (j:Int) h') (by rw [hmlg _ hg,hn1.getD hg];exact act.mem _) (fun w14 h14=> ?_) h13
  refine aDA (q:=16) (q2:=18) (V:=Z.1.swap j) rfl rfl (by rw [hwll];exact hsw) (by rw [hn2.1];exact hs2) ⟨hg.1,by rw [hwll];exact hg.2,by rw [hn2.1];exact hg.2⟩ (fun w' h'=>agU (j:Int) h') (by rw [hwlg _ hg,hn2.getD hg];exact act.swp _) (fun w15 h15=> ?_) h14
  rw [aah (by omega)]
  refine ⟨⟨j+1,rfl,by omega,h15⟩,?_⟩
  show ((64:Int) - ((j+1:Nat):Int)).toNat<((64:Int) - (j:Int)).toNat
  omega
 ·rw [aah (by omega)]
  refine ⟨⟨k+1,F,Z.1,n1,n2,rfl,hkl,rfl,hFo,IZ,by omega,hn1,hn2,h12.cut.cut⟩,?_⟩
  show (((xs.length:Nat):Int) - ((k+1:Nat):Int)).toNat<(((xs.length:Nat):Int) - (k:Int)).toNat
  omega
end Go.Mp
end
section
set_option maxRecDepth 100000
namespace Go.Proofs.YtkjijachkcmelaaGreatDoor
open Go Go.Vc Go.Sp Go.Mp Go.RowKit Go.ChangeShapes
theorem atu (os:Os) (started:os.Started) (H:Type) (enc:TypeId×Value ->H):
  ReturnsInHanded {} Chk os aaF .any (fun w args=>(Rows.coreLimitsSpec.pre enc P aat [] false w args/\laidMetH P aa3 w)/\sizedMet enc P aat (OpenSpec.ofChange Rows.coreLimitsSpec) false w args) (Rows.coreLimitsSpec.post enc P aat false true false false):=by
 refine abO (C:=Chk) (tb:=aeL) (X:=fun w=>laidMetH P aa3 w) (fun _ _ hh h=>h.of_heap hh) own started (by kernel_rfl) ady
  (ChangeSpec.witness_shaped (enc:=enc) (C:=Chk) (os:=os) (X:=fun w _=>laidMetH P aa3 w) false (World.laidAll P os aa3) #[.int .i64 0,.int .i64 0,.slice none 0 0] 8 (World.laidAll_os _ _ _) (World.shaped_of_ZipB (by kernel_rfl) (by kernel_rfl)) (by kernel_rfl) (by kernel_rfl) (by kernel_rfl) (aeP os _))
  laidOut (by kernel_rfl) (by kernel_rfl) rfl (by kernel_rfl) ?_ ?_
 ·intro ds gs hd hg
  match ds,gs,hd,hg with
  | [d0,d1,d2],[],_,_=>rfl
 ·intro W base args hsz hargs _ hx
  have hw:=aek hx
  obtain ⟨x0,x1,x2,rfl⟩:=aDX hsz
  have a0:=hargs 0 _ _ rfl rfl
  have a1:=hargs 1 _ _ rfl rfl
  have a2:=hargs 2 _ _ rfl rfl
  obtain ⟨f,rfl,hf⟩:=aa9 a0
  obtain ⟨s,rfl,hs⟩:=aa9 a1
  obtain ⟨l,xs,rfl,hA⟩:=agr a2
  refine use (aBE hA hw) ?_
  rintro v w' ⟨rfl,h⟩
  exact ⟨_,rfl,rfl,af5 h⟩
theorem aml:Tryz.pinned.checked.prog.funcNamed Rows.coreLimitsRow.func=some aaF:=by kernel_rfl
theorem azI:jfA P aat Rows.coreLimitsSpec Rows.coreLimitsRow=true:=by kernel_rfl
theorem azJ:jfB P aaF Rows.coreLimitsRow=true:=by kernel_rfl
theorem azK:jfC P aaF Rows.coreLimitsRow=true:=by kernel_rfl
theorem azL:jfD P aaF Rows.coreLimitsRow=true:=by kernel_rfl
theorem azM:jfE P aaF Rows.coreLimitsRow=true:=by kernel_rfl
theorem azN:jfF P aat Rows.coreLimitsSpec Rows.coreLimitsRow=true:=by kernel_rfl
theorem azO:jfG P aat Rows.coreLimitsSpec Rows.coreLimitsRow=true:=by kernel_rfl
theorem azP:jfH P Rows.coreLimitsRow=true:=by kernel_rfl
theorem azQ:jfI P aat Rows.coreLimitsSpec Rows.coreLimitsRow=true:=by kernel_rfl
theorem au9:Rows.CoreLimitsSaid:=
 OpenClaim.holds_of_wide aaF aat rfl rfl rfl rfl rfl rfl rfl ⟨rfl,rfl,rfl,rfl,rfl⟩ rfl rfl rfl rfl rfl aml ady
  (aeh azI azJ azK azL azM azN azO azP azQ)
  (of_decide_eq_true (by kernel_rfl)) (by unfold Func.isWrapper;rw [if_neg (by decide+kernel)];exact ⟨rfl,rfl⟩)
  (fun os started H enc _=>atu os started H enc)
theorem azR:Rows.coreLimitsRow.wfByText (OpenSpec.ofChange Rows.coreLimitsSpec)=true:=by kernel_rfl
theorem awL:Tryz.pinned.checked.prog.mainIs=some (true, "3b9054f10c9c5fb82da89a913622f02e1aaecefdee6eb776dafd30a2283a3747".toList):=by kernel_rfl
theorem ava:false=Tryz.pinned.checked.prog.looks []:=by kernel_rfl
theorem awK:false=Rows.coreLimitsRow.goesBy Tryz.pinned.checked.prog:=by kernel_rfl
theorem avb:(aat.params.toList.all fun u=> !P.wantsStandIn u)=true:=by kernel_rfl
theorem coreLimits_card:Rows.CoreLimitsCardSaid:=
 Claim7.holds_tied_plain_at .later [] [.data] true (true, "3b9054f10c9c5fb82da89a913622f02e1aaecefdee6eb776dafd30a2283a3747") false
  au9 (fun _ h=>by cases h) azR (fun _ h=>by cases h) coreLimits_row_tie rfl ⟨rfl,rfl⟩ awL rfl
  (fun f fn hf hfn=>by
   obtain rfl:f=aaF:=Option.some.inj (aml.symm.trans hf) |>.symm
   obtain rfl:fn=aat:=(Option.some.inj (ady.symm.trans hfn)).symm
   refine ⟨ava,fun j t ht=> ?_⟩
   have hm:t∈aat.params.toList:=by simpa using Array.mem_of_getElem? ht
   exact (show P.wantsStandIn t=false by simpa using List.all_eq_true.1 avb t hm))
  awK
end Go.Proofs.YtkjijachkcmelaaGreatDoor
end
