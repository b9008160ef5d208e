/- Core: Shrinking lets as many go out as it tells, of the target's alone: the law answers true and lets its arguments be; for every input. -/
import Derived.Test.YtkjijachkcmelaaGreatDoorC14
import Derived.Test.YtkjijachkcmelaaGreatDoorProg
import Derived.Test.YtkjijachkcmelaaGreatDoorChecked
import Derived.LaidMore
import Derived.Lay
import Derived.OpenShut
import Derived.Stop.LaidErr
import Derived.Lib.LaidTab
import Derived.SevenTiedAt
import Derived.Test.YtkjijachkcmelaaGreatDoorRows
import Derived.Test.YtkjijachkcmelaaGreatDoorTie
import Derived.Test.YtkjijachkcmelaaGreatDoorCards
set_option linter.all false
section
namespace Go.Mp
open Go Go.Vc
abbrev aax:FuncId:=9
noncomputable abbrev aap:Func:=Go.Proofs.Tryz.f9
theorem adl:P.funcs[aax]? =some aap:=Go.Proofs.Tryz.func9
end Go.Mp
end
section
namespace Go.Kc
open Go Go.Kt Go.Sp
def acts (S:Cs):List Act ->Cs
 | []=>S
 | x::l=>acts (S.act x).1 l
variable {S:Cs}
end Go.Kc
end
section
set_option maxRecDepth 100000
namespace Go.Mp
open Go Go.Vc Go.Proofs
variable {K:Value ->World ->Prop} {w:World}
def ajO:Ann:= {quiet:=fun d=> [32,33,35,56,57,60,64,69,75,78,82,89,90,98,99,105].contains d,loop:=fun r=>(bif r==8 then [(13,.int .i64)] else []),join:=fun r=>(bif r==16 then some [(65,.bool)] else bif r==19 then some [] else none)}
def af2 (frames:Int) (slots:Int) (l:Sl) (target:Int) (n:Int) (K:Value ->World ->Prop) (w:World):Prop:=
 Calls P aao #[] w fun e2 w1=>∃ x3,e2= .returned (.bool x3)/\bif (!x3) then (K (.bool false) w1) else (Calls P aaZ #[(Iv frames),(Iv slots),(.slice none 0 0),(Sv l)] w1 fun e5 w4=>∃ x6,e5= .returned (.bool x6)/\bif x6 then (K (.bool x3) w4) else (Al (.cells #[(Iv 4),(Iv 4)] 3) (fun p7 w8=>Calls P abD #[(Iv frames),(Iv slots),(.slice (some p7) 2 2)] w8 fun e10 w9=>∃ x11,e10= .returned (Pv x11)/\∃ (I12:Int ->World ->Prop) (M13:Int ->World ->Nat),I12 0 w9/\∀ _u15:Nat ->Value,∀ i16 w14,I12 i16 w14 ->bif (decide (i16<((l.n:Nat):Int))) then (elAt l.p l.n i16 6 fun a17=>∃ x18,w14.cell? (a17.add 0)=some (Iv x18)/\∃ x19,w14.cell? (a17.add 1)=some (Iv x19)/\∃ x20,w14.cell? (a17.add 2)=some (Iv x20)/\∃ x21,w14.cell? (a17.add 3)=some (Iv x21)/\∃ x22,w14.cell? (a17.add 4)=some (Iv x22)/\∃ x23,w14.cell? (a17.add 5)=some (Iv x23)/\Calls P aag #[(Pv x11),(.agg #[(Iv x18),(Iv x19),(Iv x20),(Iv x21),(Iv x22),(Iv x23)])] w14 fun e25 w24=>∃ x26:Int,∃ x27:Int,∃ x28:Int,e25= .returned (.tuple #[(Iv x26),(Iv x27),(Iv x28)])/\(I12 (IntKind.i64.wrap (i16+1)) w24/\M13 (IntKind.i64.wrap (i16+1)) w24<M13 i16 w14)) else (Calls P aci #[(Pv x11)] w14 fun e30 w29=>∃ x31,e30= .returned (Pv x31)/\Calls P ac6 #[(Pv x31),(Iv target)] w29 fun e33 w32=>∃ x34:Sl,e33= .returned (Sv x34)/\Calls P aae #[(Pv x11),(Iv 0)] w32 fun e36 w35=>∃ x37,e36= .returned (Iv x37)/\Calls P aae #[(Pv x11),(Iv target)] w35 fun e39 w38=>∃ x40,e39= .returned (Iv x40)/\Calls P acU #[(Pv x11),(Iv target),(Iv n)] w38 fun e42 w41=>∃ x43,e42= .returned (Iv x43)/\∃ J44:Bool ->World ->Prop,(bif (((x34.n:Nat):Int)==0) then (J44 true w41) else (bif (decide (n<1)) then (J44 true w41) else (J44 (decide (n>1000)) w41)))/\(∀ _u46:Nat ->Value,∀ x47 w45,J44 x47 w45 ->bif x47 then (bif x3 then (bif (x43==0) then (Calls P aae #[(Pv x11),(Iv 0)] w45 fun e49 w48=>∃ x50,e49= .returned (Iv x50)/\K (.bool (x50==x37)) w48) else (K (.bool false) w45)) else (K (.bool false) w45)) else (∃ J51:World ->Prop,(bif (decide (x43<0)) then (K (.bool false) w45) else (bif (decide (x43>n)) then (K (.bool false) w45) else (Calls P aae #[(Pv x11),(Iv 0)] w45 fun e55 w54=>∃ x56,e55= .returned (Iv x56)/\bif (x56 !=(IntKind.i64.wrap (x37 - x43))) then (K (.bool false) w54) else (Calls P aae #[(Pv x11),(Iv target)] w54 fun e58 w57=>∃ x59,e58= .returned (Iv x59)/\bif (x59 !=(IntKind.i64.wrap (x40 - x43))) then (K (.bool false) w57) else (J51 w57)))))/\(∀ _u53:Nat ->Value,∀ w52:World,J51 w52 ->bif x3 then (bif (x43==n) then (K (.bool true) w52) else (Calls P aa6 #[(Pv x11),(Iv target)] w52 fun e61 w60=>∃ x62,e61= .returned (.bool x62)/\K (.bool (!x62)) w60)) else (K (.bool false) w52)))))) w4))
theorem akq (frames:Int) (slots:Int) (l:Sl) (target:Int) (n:Int) (h:af2 frames slots l target n K w):Calls P aax #[(Iv frames),(Iv slots),(Sv l),(Iv target),(Iv n)] w (Ret K):=ofVc (A:=ajO) Tryz.func9 (by kernel_rfl) (by kernel_rfl) h
end Go.Mp
end
section
set_option maxRecDepth 100000
namespace Go.Mp
open Go Go.Vc Go.Sp Go.Proofs Go.Kc
variable {E:Env} {L:List Asn} {w:World} {A:At} {S:Cs}
theorem acN (S:Cs):∀ (l:List Kc.Act) (x:Kc.Act),acts S (l++ [x])=((acts S l).act x).1
 | [],_=>rfl
 | y::l,x=>acN (S.act y).1 l x
theorem ah3 {W:World} {l:Sl} {xs:List Kc.Act} {REST:World ->Prop} (hA:acL W l xs) (hl:xs.length<=60) (ho:A.o=W.heap) (I:Kc.Inv S) (hn:S.pages.next<=1000) (h:Sep E (aaa A S++L) w)
  (k:∀ (gs us:Sl) (w':World),Kc.Inv (acts S xs) ->(acts S xs).pages.next<=S.pages.next+60 ->Sep E (aaa {A with gs:=gs,us:=us} (acts S xs)++L) w' ->REST w'):
  ∃ (I12:Int ->World ->Prop) (M13:Int ->World ->Nat),I12 0 w/\∀ _u15:Nat ->Value,∀ i16:Int,∀ w14:World,I12 i16 w14 ->bif (decide (i16<((l.n:Nat):Int))) then (elAt l.p l.n i16 6 fun a17=>∃ x18:Int,w14.cell? (a17.add 0)=some (.int .i64 x18)/\∃ x19:Int,w14.cell? (a17.add 1)=some (.int .i64 x19)/\
   ∃ x20:Int,w14.cell? (a17.add 2)=some (.int .i64 x20)/\∃ x21:Int,w14.cell? (a17.add 3)=some (.int .i64 x21)/\∃ x22:Int,w14.cell? (a17.add 4)=some (.int .i64 x22)
   /\∃ x23:Int,w14.cell? (a17.add 5)=some (.int .i64 x23)/\Calls P aag #[(.pointer (some ⟨A.c,0,none⟩)),(.agg #[(.int .i64 x18),(.int .i64 x19),(.int .i64 x20),(.int .i64
   x21),(.int .i64 x22),(.int .i64 x23)])] w14 fun e25 w24=>∃ x26:Int,∃ x27:Int,∃ x28:Int,e25= .returned (.tuple #[(.int .i64 x26),(.int .i64 x27),(.int .i64 x28)])
   /\(I12 (IntKind.i64.wrap (i16+1)) w24/\M13 (IntKind.i64.wrap (i16+1)) w24<M13 i16 w14)) else REST w14:=by
 refine ⟨fun i w'=>∃ (k:Nat) (gs us:Sl),i=k/\k<=xs.length/\Kc.Inv (acts S (xs.take k))/\(acts S (xs.take k)).pages.next<=S.pages.next+k/\Sep E (aaa {A with gs:=gs,us:=us} (acts S (xs.take k))++L) w',fun i _=>(xs.length - i).toNat,⟨0,A.gs,A.us,rfl,Nat.zero_le _,I,by show S.pages.next<=S.pages.next+0;omega,h⟩,?_⟩
 rintro _ _ w1 ⟨j,gs,us,rfl,hj,hI,hnx,h1⟩
 have hln:=hA.1
 refine bLt (fun hlt=> ?_) (fun hge=> ?_)
 ·have hjl:j<xs.length:=by omega
  obtain ⟨x,hx⟩:∃ x,xs[j]? =some x:=⟨_,List.getElem?_eq_getElem hjl⟩
  obtain ⟨a,hp,hc⟩:=hA.2 j x hx
  have hq:(aaa {A with gs:=gs,us:=us} (acts S (xs.take j))++L)[15]? =some (tabA W.heap):=by rw [<- ho];rfl
  have rd:∀ (i:Nat) v,(aeB x)[i]? =some v ->w1.cell? ((a.add (j*6)).add i)=some v:=fun i v hv=>oldT h1 hq (hc i v hv)
  refine ⟨a,hp,⟨by omega,by omega⟩,?_⟩
  rw [Int.toNat_natCast]
  refine ⟨_,rd 0 _ rfl,_,rd 1 _ rfl,_,rd 2 _ rfl,_,rd 3 _ rfl,_,rd 4 _ rfl,_,rd 5 _ rfl,use (c_Do (A:= {A with gs:=gs,us:=us}) hI (by omega) h1) ?_⟩
  rintro _ w2 ⟨rfl,gs',us',h2⟩
  have hsn:=acN S (xs.take j) x
  rw [<- aaj hx] at hsn
  rw [aah (by omega)]
  have hnn:=agq hI (by omega) x
  refine ⟨_,_,_,rfl,⟨j+1,gs',us',rfl,hjl,by rw [hsn];exact hI.act (by omega) x,by rw [hsn];omega,by rw [hsn];exact h2⟩,?_⟩
  show (((xs.length:Nat):Int) - ((j+1:Nat):Int)).toNat<(((xs.length:Nat):Int) - (j:Int)).toNat
  omega
 ·have:j=xs.length:=by omega
  subst this
  rw [List.take_length] at hI hnx h1
  exact k gs us w1 hI (by omega) h1
theorem avo {W:World} {frames slots:Int} {l:Sl} {xs:List Kc.Act} {K:Value ->World ->Prop} {REST:Bool ->Option Addr ->World ->Prop} (hA:acL W l xs) (h:Sep E (tabA W.heap::L) w)
  (hK:∀ w',Sep E (tabA W.heap::L) w' ->K (.bool true) w')
  (k:∀ (A:At) (w':World),A.o=W.heap ->frames<=40 ->slots<=40 ->Kc.Inv (acts (Kc.new frames slots [4,4]) xs) ->(acts (Kc.new frames slots [4,4]) xs).pages.next<=60 ->Sep E (aaa A (acts (Kc.new frames slots [4,4]) xs)++L) w' ->REST true (some ⟨A.c,0,none⟩) w'):
  Calls P aao #[] w fun e2 w1=>∃ x3:Bool,e2= .returned (.bool x3)/\bif (!x3) then (K (.bool false) w1) else (Calls P aaZ #[(.int .i64
   frames),(.int .i64 slots),(.slice none 0 0),(.slice l.p l.n l.c)] w1 fun e5 w4=>∃ x6:Bool,e5= .returned (.bool x6)/\bif x6 then (K (.bool x3) w4) else (Al (.cells
   #[(.int .i64 4),(.int .i64 4)] 3) (fun p7 w8=>Calls P abD #[(.int .i64 frames),(.int .i64 slots),(.slice (some p7) 2 2)] w8 fun e10 w9=>∃ x11:Option Addr,e10=
   .returned (.pointer x11)/\∃ (I12:Int ->World ->Prop) (M13:Int ->World ->Nat),I12 0 w9/\∀ _u15:Nat ->Value,∀ i16:Int,∀ w14:World,I12 i16 w14 ->bif (decide (i16<
   ((l.n:Nat):Int))) then (elAt l.p l.n i16 6 fun a17=>∃ x18:Int,w14.cell? (a17.add 0)=some (.int .i64 x18)/\∃ x19:Int,w14.cell? (a17.add 1)=some (.int .i64 x19)/\
   ∃ x20:Int,w14.cell? (a17.add 2)=some (.int .i64 x20)/\∃ x21:Int,w14.cell? (a17.add 3)=some (.int .i64 x21)/\∃ x22:Int,w14.cell? (a17.add 4)=some (.int .i64 x22)
   /\∃ x23:Int,w14.cell? (a17.add 5)=some (.int .i64 x23)/\Calls P aag #[(.pointer x11),(.agg #[(.int .i64 x18),(.int .i64 x19),(.int .i64 x20),(.int .i64
   x21),(.int .i64 x22),(.int .i64 x23)])] w14 fun e25 w24=>∃ x26:Int,∃ x27:Int,∃ x28:Int,e25= .returned (.tuple #[(.int .i64 x26),(.int .i64 x27),(.int .i64 x28)])
   /\(I12 (IntKind.i64.wrap (i16+1)) w24/\M13 (IntKind.i64.wrap (i16+1)) w24<M13 i16 w14)) else REST x3 x11 w14) w4)):=by
 refine use (afP h) ?_
 rintro _ w1 ⟨rfl,h1⟩
 refine ⟨_,rfl,bF rfl (use (akK frames slots ⟨none,0,0⟩ l w1) ?_)⟩
 rintro _ _ ⟨rfl,rfl⟩
 refine ⟨_,rfl,bifI (fun _=>hK _ h1) (fun hov=> ?_)⟩
 have hl:=hA.1
 simp only [Bool.or_eq_false_iff,decide_eq_false_iff_not] at hov
 have hxl:xs.length<=60:=by omega
 refine Al.i h1 (fun b w2 h2=> ?_)
 have h2:Sep E (tabA W.heap::blk b (intL [4,4])::L) w2:=h2.swap
 refine use (afB (sz:=⟨some ⟨b,0,none⟩,2,2⟩) (l:= [4,4]) (Ints.blk_ (b:=b) (c:=2) (gs:= [4,4]) (q:=1) rfl) (Nat.le_refl _) h2) ?_
 rintro _ w3 ⟨A,rfl,ho,h3⟩
 have h3:Sep E (aaa A (Kc.new frames slots [4,4])++L) w3:=h3.cut
 refine ⟨_,rfl,ah3 hA hxl ho (Inv.new frames slots [4,4]) (by show (0:Int)<=1000;decide) h3 (fun gs us w4 I hnx h4=> ?_)⟩
 exact k {A with gs:=gs,us:=us} w4 ho (by omega) (by omega) I (by have:(Kc.new frames slots [4,4]).pages.next=0:=rfl;omega) h4
end Go.Mp
end
section
set_option maxRecDepth 100000
namespace Go.Proofs.YtkjijachkcmelaaGreatDoor
open Go Go.Vc Go.Sp Go.Mp Go.RowKit Go.ChangeShapes
theorem aDY {α:Type} {a:Array α} (h:a.size=5):∃ x0 x1 x2 x3 x4,a= #[x0,x1,x2,x3,x4]:=by
 obtain ⟨l⟩:=a
 match l,h with
 | [x0,x1,x2,x3,x4],_=>exact ⟨x0,x1,x2,x3,x4,rfl⟩
end Go.Proofs.YtkjijachkcmelaaGreatDoor
end
section
set_option maxRecDepth 100000
namespace Go.Kc
open Go Go.Kt Go.Sp
variable {S:Cs}
theorem aw3 {l:List G} {t x:Int} :x∈abe l t↔aaf l t=true/\aaf l x=true/\t∈aac l x:=by
 unfold abe
 by_cases hl:aaf l t=true
 ·rw [if_pos hl]
  unfold ahP
  rw [List.mem_map]
  constructor
  ·rintro ⟨i,hi,rfl⟩
   rw [List.mem_filter,Bool.and_eq_true] at hi
   exact ⟨hl,hi.2.1,by simpa using hi.2.2⟩
  ·rintro ⟨_,hx,hc⟩
   obtain ⟨n,rfl,y,hy,_⟩:=aa7.1 hx
   refine ⟨n,?_,rfl⟩
   rw [List.mem_filter,Bool.and_eq_true]
   exact ⟨List.mem_range.2 (List.getElem?_eq_some_iff.1 hy).1,hx,by simpa using hc⟩
 ·rw [if_neg hl]
  exact ⟨fun h=>(by cases h),fun h=>absurd h.1 hl⟩
theorem aEQ {l:List G} (hw:WF l) {t:Int} :abe l t= []↔aaf l t=false:=by
 constructor
 ·intro h
  cases hl:aaf l t with
  | false=>rfl
  | true=>
   have:t∈abe l t:=aw3.2 ⟨hl,hl,(aan hw hl).2.2.2⟩
   rw [h] at this;cases this
 ·intro h
  unfold abe;rw [h];rfl
theorem as2 {T:TS} {tree:List G} {pl g:Int} {i:Nat} :onB T pl (below tree g) i=true↔∃ o,(∃ q,T.pg (i:Int)=some q/\q.place=pl/\q.owner=o)/\g∈aac tree o:=by
 unfold onB below
 cases hq:T.pg (i:Int) with
 | none=>simp
 | some q=>
  simp only [Bool.and_eq_true,beq_iff_eq,List.contains_iff_mem,Option.some.injEq]
  constructor
  ·rintro ⟨h1,h2⟩;exact ⟨_,⟨q,rfl,h1,rfl⟩,h2⟩
  ·rintro ⟨o,⟨q',rfl,h1,rfl⟩,h2⟩;exact ⟨h1,h2⟩
theorem aEr (h:Inv S) {id:Int} {p:Pg} (hp:S.pages.pg id=some p) (h1:p.place=1) (ho:(S.out id).2=true) (x o:Int):
  (∃ q,(S.out id).1.pages.pg x=some q/\q.place=1/\q.owner=o)↔x≠id/\∃ q,S.pages.pg x=some q/\q.place=1/\q.owner=o:=by
 rw [<- (h.out hp h1).gen,<- h.gen,aBU ho]
 exact arz h.good
theorem aDI (h:Inv S) {id:Int} {p:Pg} (hp:S.pages.pg id=some p) (h1:p.place=1) (ho:(S.out id).2=true) {g:Int} (hg:0<=g/\g<64):
  (S.out id).1.memory g=S.memory g - if g∈aac S.tree p.owner then 1 else 0:=by
 have hI:=h.out hp h1
 have hk:=avH h hp h1
 have hid:=h.tab.ids _ _ hp
 have e:((id.toNat:Nat):Int)=id:=by omega
 have hf:=aEr h hp h1 ho
 unfold Cs.memory
 rw [hI.fr.use g hg.1 hg.2,h.fr.use g hg.1 hg.2]
 unfold cnt
 rw [hk.next,hk.tree]
 have key:=aA0 (n:=S.pages.next.toNat) (k:=id.toNat) (f:=onB S.pages 1 (below S.tree g)) (f':=onB (S.out id).1.pages 1 (below S.tree g)) (by omega) (fun i hi hne=>by
  rw [Bool.eq_iff_iff,as2,as2]
  have hx:((i:Nat):Int)≠id:=by omega
  constructor
  ·rintro ⟨o,h2,h3⟩;exact ⟨o,((hf _ _).1 h2).2,h3⟩
  ·rintro ⟨o,h2,h3⟩;exact ⟨o,(hf _ _).2 ⟨hx,h2⟩,h3⟩)
 have e1:onB (S.out id).1.pages 1 (below S.tree g) id.toNat=false:=by
  rw [Bool.eq_false_iff,Ne,as2]
  rintro ⟨o,h2,_⟩
  exact ((hf _ _).1 h2).1 e
 have e2:onB S.pages 1 (below S.tree g) id.toNat=decide (g∈aac S.tree p.owner):=by
  rw [Bool.eq_iff_iff,as2,decide_eq_true_eq]
  rw [e]
  constructor
  ·rintro ⟨o,⟨q,hq,_,rfl⟩,h3⟩
   rw [hp] at hq;cases hq;exact h3
  ·intro h3;exact ⟨_,⟨p,hp,h1,rfl⟩,h3⟩
 rw [e1,e2] at key
 by_cases hc:g∈aac S.tree p.owner
 ·rw [if_pos hc]
  simp only [hc,decide_true,Bool.toNat_true,Bool.toNat_false] at key
  omega
 ·rw [if_neg hc]
  simp only [hc,decide_false,Bool.toNat_false] at key
  omega
structure Less (t:Int) (S S':Cs) (k:Int):Prop where
 inv:Inv S'
 tree:S'.tree=S.tree
 all:S'.memory 0=S.memory 0 - k
 mine:S'.memory t=S.memory t - k
theorem Less.refl (h:Inv S) (t:Int):Less t S S 0:=⟨h,rfl,(Int.sub_zero _).symm,(Int.sub_zero _).symm⟩
theorem Less.trans {t:Int} {A B C:Cs} {i j:Int} (h:Less t A B i) (h':Less t B C j):Less t A C (i+j):=
 ⟨h'.inv,h'.tree.trans h.tree,by rw [h'.all,h.all];omega,by rw [h'.mine,h.mine];omega⟩
theorem Less.evictG (h:Inv S) {t:Int} {gs:List Int} (hgs:∀ x∈gs,x∈abe S.tree t) (all:Bool):Less t S (S.evictG t gs all).1 (if (S.evictG t gs all).2 then 1 else 0):=by
 cases hr:(S.evictG t gs all).2 with
 | false=>rw [ahr hr];exact Less.refl h t
 | true=>
  obtain ⟨hl,id,h1,_,h3,h4⟩:=akx hr
  obtain ⟨p,hp,hpl,hpo⟩:=h.inFrame h1
  have hb:=aw3.1 (hgs _ hpo)
  have ht:=aan h.wf hb.2.1
  rw [h4]
  refine ⟨h.out hp hpl,(avH h hp hpl).tree,?_,?_⟩
  ·rw [aDI h hp hpl h3 ⟨by decide,by decide⟩,if_pos ht.2.2.1];rfl
  ·rw [aDI h hp hpl h3 (ht.1 _ hb.2.2),if_pos hb.2.2];rfl
theorem Less.evict (h:Inv S) (t:Int):Less t S (S.evict t).1 (if (S.evict t).2 then 1 else 0):=Less.evictG h (fun _ hx=>hx) true
theorem Less.evictN {t:Int} {gs:List Int} :∀ (n:Nat) {S:Cs},Inv S ->(∀ x∈gs,x∈abe S.tree t) ->Less t S (evictN t gs n S).1 (evictN t gs n S).2
 | 0,S,h,_=>Less.refl h t
 | n+1,S,h,hgs=>by
  have h1:=Less.evictG h hgs false
  exact h1.trans (Less.evictN n h1.inv (by rw [h1.tree];exact hgs))
theorem Less.shareOut {t:Int} :∀ (l:List (Int×Int)) {S:Cs},Inv S ->(∀ x∈l,x.1∈abe S.tree t) ->Less t S (shareOut t l S).1 (shareOut t l S).2
 | [],S,h,_=>Less.refl h t
 | (g,k)::l,S,h,hl=>by
  have h1:=Less.evictN (gs:= [g]) k.toNat h (fun x hx=>by rw [List.mem_singleton] at hx;rw [hx];exact hl _ (List.mem_cons_self ..))
  exact h1.trans (Less.shareOut l h1.inv (fun x hx=>by rw [h1.tree];exact hl x (List.mem_cons_of_mem _ hx)))
theorem Less.evictM {t:Int} :∀ (n:Nat) {S:Cs},Inv S ->Less t S (evictM t n S).1 (evictM t n S).2
 | 0,S,h=>Less.refl h t
 | n+1,S,h=>by
  have h1:=Less.evict h t
  unfold Kc.evictM
  dsimp only
  cases hr:(S.evict t).2 with
  | false=>
   rw [hr] at h1
   exact h1
  | true=>
   rw [hr] at h1
   exact h1.trans (Less.evictM n h1.inv)
theorem awV (t:Int):∀ (n:Nat) (S:Cs),0<=(evictM t n S).2/\(evictM t n S).2<=n/\((evictM t n S).2=n\/((evictM t n S).1.evict t).2=false)
 | 0,S=>⟨Int.le_refl _,Int.le_refl _,.inl rfl⟩
 | n+1,S=>by
  unfold Kc.evictM
  dsimp only
  cases hr:(S.evict t).2 with
  | false=>
   refine ⟨Int.le_refl _,Int.natCast_nonneg _,.inr ?_⟩
   show ((S.evict t).1.evict t).2=false
   rw [show (S.evict t).1=S from ahr hr];exact hr
  | true=>
   obtain ⟨h1,h2,h3⟩:=awV t n (S.evict t).1
   refine ⟨?_,?_,?_⟩
   ·show 0<=1+_;omega
   ·show 1+_<=_;omega
   ·rcases h3 with h3 | h3
    ·refine .inl ?_
     show 1+_=_;omega
    ·exact .inr h3
theorem aEd {n:Int} {ws:List Int} (hn:0<=n):sumI (ab3 n ws)<=n/\∀ x∈ab3 n ws,0<=x:=by
 have hz:∀ l:List Int,sumI (l.map fun _=>0)=0:=by
  intro l
  induction l with
  | nil=>rfl
  | cons a l ih=>rw [List.map_cons,ab7,ih];rfl
 unfold ab3
 cases hr:ace n ws with
 | false=>rw [if_pos rfl];exact ⟨hn,fun x hx=>by cases hx⟩
 | true=>
  rw [if_neg (by decide)]
  have hall:=(ahH hr).2.2
  by_cases h0:sumI ws=0\/n=0
  ·rw [if_pos h0,hz];exact ⟨hn,fun x hx=>by
    obtain ⟨_,_,rfl⟩:=List.mem_map.1 hx
    exact Int.le_refl _⟩
  ·rw [if_neg h0]
   have hs:0<sumI ws:=by have:=acy (l:=ws) (fun y hy=>(hall y hy).1);omega
   by_cases hle:sumI ws<=n
   ·rw [if_pos hle];exact ⟨hle,fun x hx=>(hall x hx).1⟩
   ·rw [if_neg hle,axv hr hs]
    refine ⟨Int.le_refl _,fun x hx=> ?_⟩
    obtain ⟨i,hi⟩:=List.mem_iff_getElem?.1 hx
    have hlt:=(List.getElem?_eq_some_iff.1 hi).1
    rw [ac0 hr] at hlt
    obtain ⟨y,hy,h2,_⟩:=ann hr hs (List.getElem?_eq_getElem hlt)
    rw [hi] at hy
    cases hy;exact h2
theorem asA (t:Int):∀ (l:List (Int×Int)) (S:Cs),(∀ x∈l,0<=x.2) ->0<=(shareOut t l S).2/\(shareOut t l S).2<=sumI (l.map (·.2))
 | [],S,_=>⟨Int.le_refl _,Int.le_refl _⟩
 | (g,k)::l,S,h=>by
  have h1:=alX t [g] k.toNat S
  have h2:=asA t l (evictN t [g] k.toNat S).1 (fun x hx=>h x (List.mem_cons_of_mem _ hx))
  have h3:0<=k:=h _ (List.mem_cons_self ..)
  rw [shareOut,List.map_cons,ab7]
  dsimp only at h1 h2 ⊢
  omega
theorem aB9:∀ (a b:List Int),(∀ x∈b,0<=x) ->sumI ((a.zip b).map (·.2))<=sumI b
 | [],b,h=>by rw [List.zip_nil_left];exact acy h
 | _::_,[],h=>by rw [List.zip_nil_right];exact Int.le_refl _
 | x::a,y::b,h=>by
  rw [List.zip_cons_cons,List.map_cons,ab7,ab7]
  have:=aB9 a b (fun z hz=>h z (List.mem_cons_of_mem _ hz))
  omega
theorem aDd (h:Inv S) (t n:Int):Less t S (S.shrink t n).1 (S.shrink t n).2/\((S.live t=false\/n<1\/1000<n) ->S.shrink t n=(S,0))/\
  (¬ (S.live t=false\/n<1\/1000<n) ->0<=(S.shrink t n).2/\(S.shrink t n).2<=n/\((S.shrink t n).2=n\/((S.shrink t n).1.evict t).2=false)):=by
 by_cases hc:S.live t=false\/n<1\/1000<n
 ·have e:S.shrink t n=(S,0):=by unfold Cs.shrink;rw [if_pos hc]
  exact ⟨by rw [e];exact Less.refl h t,fun _=>e,fun hn=>absurd hc hn⟩
 ·obtain ⟨l,hl⟩:∃ l,(abe S.tree t).zip (ab3 n (S.weights t))=l:=⟨_,rfl⟩
  obtain ⟨a,ha⟩:∃ a,Kc.shareOut t l S=a:=⟨_,rfl⟩
  have e:S.shrink t n=((Kc.evictM t (n - a.2).toNat a.1).1,a.2+(Kc.evictM t (n - a.2).toNat a.1).2):=by
   unfold Cs.shrink;rw [if_neg hc,<- ha,<- hl]
  have hcs:=aEd (n:=n) (ws:=S.weights t) (by omega)
  have h1:Less t S a.1 a.2:=by
   rw [<- ha]
   exact Less.shareOut l h (fun x hx=>by rw [<- hl] at hx;exact (List.of_mem_zip hx).1)
  have h2:=asA t l S (fun x hx=>hcs.2 _ (by rw [<- hl] at hx;exact (List.of_mem_zip hx).2))
  have h3:=aB9 (abe S.tree t) (ab3 n (S.weights t)) hcs.2
  rw [hl] at h3
  rw [ha] at h2
  have h4:=Less.evictM (t:=t) (n - a.2).toNat h1.inv
  have h5:=awV t (n - a.2).toNat a.1
  rw [e]
  refine ⟨h1.trans h4,fun hx=>absurd hx hc,fun _=> ?_⟩
  dsimp only
  refine ⟨by omega,by omega,?_⟩
  rcases h5.2.2 with h5 | h5
  ·exact .inl (by omega)
  ·exact .inr h5
end Go.Kc
end
section
set_option maxRecDepth 100000
namespace Go.Mp
open Go Go.Vc Go.Sp Go.Proofs Go.Kc
variable {E:Env} {L:List Asn} {w:World} {A:At} {S:Cs}
theorem aDG (I:Kc.Inv S) (g:Int):0<=S.memory g/\S.memory g<=1099511627776:=(I.fr.used.of g).1
theorem aAo {W:World} {frames slots t n:Int} {l:Sl} {xs:List Kc.Act} (hA:acL W l xs) (h:Sep E (tabA W.heap::L) w):
  Calls P aax #[.int .i64 frames,.int .i64 slots,.slice l.p l.n l.c,.int .i64 t,.int .i64 n] w (Ret fun v w'=>v= .bool true/\Sep E (tabA W.heap::L) w'):=by
 apply akq
 unfold af2
 refine avo (K:=fun v w'=>v= .bool true/\Sep E (tabA W.heap::L) w') hA h (fun w' h'=>⟨rfl,h'⟩) (fun A w4 ho _ _ I _ h4=> ?_)
 generalize acts (Kc.new frames slots [4,4]) xs=T at*
 refine use (al8 h4) ?_
 rintro _ w5 ⟨rfl,h5⟩
 refine ⟨_,rfl,use (asS I.wf (h5.fr 1 rfl)) ?_⟩
 rintro _ w6 ⟨sb,rfl,hsb,h6⟩
 have h6:=h6.put1 (q:=1) rfl
 have h6:Sep E (aaa A T++rowA sb 1 (intL (Kt.abe T.tree t))::L) w6:=Sep.inn (Q:=aaa A T) h6
 refine ⟨sb,rfl,use (abk 0 h6) ?_⟩
 rintro _ w7 ⟨rfl,h7⟩
 refine ⟨_,rfl,use (abk t h7) ?_⟩
 rintro _ w8 ⟨rfl,h8⟩
 refine ⟨_,rfl,use (apd (t:=t) (n:=n) I h8) ?_⟩
 rintro _ w9 ⟨rfl,h9⟩
 obtain ⟨k1,k2,k3⟩:=aDd I t n
 obtain ⟨R,hR⟩:∃ R,T.shrink t n=R:=⟨_,rfl⟩
 rw [hR] at k1 k2 k3 h9 ⊢
 have hb:(((sb.n:Nat):Int)==0)=decide (T.live t=false):=by
  rw [hsb,Bool.eq_iff_iff,beq_iff_eq,decide_eq_true_eq]
  have:=aEQ (t:=t) I.wf
  unfold Cs.live
  rw [<- this]
  cases Kt.abe T.tree t with
  | nil=>simp
  | cons a r=>simp;omega
 have hend:∀ {V:Cs} {w:World},Sep E (aaa A V++rowA sb 1 (intL (Kt.abe T.tree t))::L) w ->Sep E (tabA W.heap::L) w:=fun hs=>by rw [<- ho];exact ac3 hs.cut
 have m0:=aDG I 0
 have mt:=aDG I t
 refine ⟨_,rfl,fun b w'=>b=decide (T.live t=false\/n<1\/1000<n)/\Sep E (aaa A R.1++rowA sb 1 (intL (Kt.abe T.tree t))::L) w',?_,?_⟩
 ·rw [hb]
  by_cases hl:T.live t=false
  ·exact bT (by simp [hl]) ⟨by simp [hl],h9⟩
  ·refine bF (by simp [hl]) (bLt (fun h1=>⟨by simp [h1],h9⟩) (fun h1=>⟨?_,h9⟩))
   have:(T.live t=false\/n<1\/1000<n)↔n>1000:=by
    constructor
    ·rintro (e | e | e)
     ·exact absurd e hl
     ·omega
     ·exact e
    ·exact fun e=> .inr (.inr e)
   exact decide_eq_decide.2 this.symm
 rintro _ b w10 ⟨rfl,h10⟩
 refine bifI (fun hc=> ?_) (fun hc=> ?_)
 ·have hc:=of_decide_eq_true hc
  have e:=k2 hc
  subst e
  refine bT rfl (bT (by simp) (use (abk 0 h10) ?_))
  rintro _ w11 ⟨rfl,h11⟩
  exact ⟨_,rfl,by simp,hend h11⟩
 ·have hc:=of_decide_eq_false hc
  have hn:1<=n/\n<=1000:=by
   constructor
   ·exact Int.not_lt.1 (fun e=>hc (.inr (.inl e)))
   ·exact Int.not_lt.1 (fun e=>hc (.inr (.inr e)))
  obtain ⟨k4,k5,k6⟩:=k3 hc
  refine ⟨fun w'=>Sep E (aaa A R.1++rowA sb 1 (intL (Kt.abe T.tree t))::L) w',?_,?_⟩
  ·refine bF (by simpa using k4) (bF (by simpa using k5) (use (abk 0 h10) ?_))
   rintro _ w11 ⟨rfl,h11⟩
   refine ⟨_,rfl,bF (by rw [w64 (by omega) (by omega),k1.all];simp) (use (abk t h11) ?_)⟩
   rintro _ w12 ⟨rfl,h12⟩
   exact ⟨_,rfl,bF (by rw [w64 (by omega) (by omega),k1.mine];simp) h12⟩
  ·rintro _ w11 h11
   refine bT rfl (bifI (fun _=>⟨rfl,hend h11⟩) (fun hne=> ?_))
   refine use (aob k1.inv h11) ?_
   rintro _ w12 ⟨rfl,h12⟩
   refine ⟨_,rfl,?_,hend h12⟩
   rcases k6 with k6 | k6
   ·rw [k6] at hne;simp at hne
   ·rw [k6];rfl
end Go.Mp
end
section
set_option maxRecDepth 100000
namespace Go.Proofs.YtkjijachkcmelaaGreatDoor
open Go Go.Vc Go.Sp Go.Mp Go.RowKit Go.ChangeShapes
theorem arp (os:Os) (started:os.Started) (H:Type) (enc:TypeId×Value ->H):
  ReturnsInHanded {} Chk os aax .any (fun w args=>(Rows.coreShrinksSpec.pre enc P aap [] false w args/\laidMetH P aa3 w)/\sizedMet enc P aap (OpenSpec.ofChange Rows.coreShrinksSpec) false w args) (Rows.coreShrinksSpec.post enc P aap false true false false):=by
 refine abO (C:=Chk) (tb:=aeL) (X:=fun w=>laidMetH P aa3 w) (fun _ _ hh h=>h.of_heap hh) own started (by kernel_rfl) adl
  (ChangeSpec.witness_shaped (enc:=enc) (C:=Chk) (os:=os) (X:=fun w _=>laidMetH P aa3 w) false (World.laidAll P os aa3) #[.int .i64 0,.int .i64 0,.slice none 0 0,.int .i64 0,.int .i64 0] 8 (World.laidAll_os _ _ _) (World.shaped_of_ZipB (by kernel_rfl) (by kernel_rfl)) (by kernel_rfl) (by kernel_rfl) (by kernel_rfl) (aeP os _))
  laidOut (by kernel_rfl) (by kernel_rfl) rfl (by kernel_rfl) ?_ ?_
 ·intro ds gs hd hg
  match ds,gs,hd,hg with
  | [d0,d1,d2,d3,d4],[],_,_=>rfl
 ·intro W base args hsz hargs _ hx
  have hw:=aek hx
  obtain ⟨x0,x1,x2,x3,x4,rfl⟩:=aDY hsz
  have a0:=hargs 0 _ _ rfl rfl
  have a1:=hargs 1 _ _ rfl rfl
  have a2:=hargs 2 _ _ rfl rfl
  have a3:=hargs 3 _ _ rfl rfl
  have a4:=hargs 4 _ _ rfl rfl
  obtain ⟨f,rfl,hf⟩:=aa9 a0
  obtain ⟨s,rfl,hs⟩:=aa9 a1
  obtain ⟨l,xs,rfl,hA⟩:=agr a2
  obtain ⟨t,rfl,ht⟩:=aa9 a3
  obtain ⟨n,rfl,hn⟩:=aa9 a4
  refine use (aAo hA hw) ?_
  rintro v w' ⟨rfl,h⟩
  exact ⟨_,rfl,rfl,af5 h⟩
theorem alD:Tryz.pinned.checked.prog.funcNamed Rows.coreShrinksRow.func=some aax:=by kernel_rfl
theorem axZ:jfA P aap Rows.coreShrinksSpec Rows.coreShrinksRow=true:=by kernel_rfl
theorem ax0:jfB P aax Rows.coreShrinksRow=true:=by kernel_rfl
theorem ax1:jfC P aax Rows.coreShrinksRow=true:=by kernel_rfl
theorem ax2:jfD P aax Rows.coreShrinksRow=true:=by kernel_rfl
theorem ax3:jfE P aax Rows.coreShrinksRow=true:=by kernel_rfl
theorem ax4:jfF P aap Rows.coreShrinksSpec Rows.coreShrinksRow=true:=by kernel_rfl
theorem ax5:jfG P aap Rows.coreShrinksSpec Rows.coreShrinksRow=true:=by kernel_rfl
theorem ax6:jfH P Rows.coreShrinksRow=true:=by kernel_rfl
theorem ax7:jfI P aap Rows.coreShrinksSpec Rows.coreShrinksRow=true:=by kernel_rfl
theorem atx:Rows.CoreShrinksSaid:=
 OpenClaim.holds_of_wide aax aap rfl rfl rfl rfl rfl rfl rfl ⟨rfl,rfl,rfl,rfl,rfl⟩ rfl rfl rfl rfl rfl alD adl
  (aeh axZ ax0 ax1 ax2 ax3 ax4 ax5 ax6 ax7)
  (of_decide_eq_true (by kernel_rfl)) (by unfold Func.isWrapper;rw [if_neg (by decide+kernel)];exact ⟨rfl,rfl⟩)
  (fun os started H enc _=>arp os started H enc)
theorem ax8:Rows.coreShrinksRow.wfByText (OpenSpec.ofChange Rows.coreShrinksSpec)=true:=by kernel_rfl
theorem avj:Tryz.pinned.checked.prog.mainIs=some (true, "3b9054f10c9c5fb82da89a913622f02e1aaecefdee6eb776dafd30a2283a3747".toList):=by kernel_rfl
theorem aty:false=Tryz.pinned.checked.prog.looks []:=by kernel_rfl
theorem avi:false=Rows.coreShrinksRow.goesBy Tryz.pinned.checked.prog:=by kernel_rfl
theorem atz:(aap.params.toList.all fun u=> !P.wantsStandIn u)=true:=by kernel_rfl
theorem coreShrinks_card:Rows.CoreShrinksCardSaid:=
 Claim7.holds_tied_plain_at .later [] [.data] true (true, "3b9054f10c9c5fb82da89a913622f02e1aaecefdee6eb776dafd30a2283a3747") false
  atx (fun _ h=>by cases h) ax8 (fun _ h=>by cases h) coreShrinks_row_tie rfl ⟨rfl,rfl⟩ avj rfl
  (fun f fn hf hfn=>by
   obtain rfl:f=aax:=Option.some.inj (alD.symm.trans hf) |>.symm
   obtain rfl:fn=aap:=(Option.some.inj (adl.symm.trans hfn)).symm
   refine ⟨aty,fun j t ht=> ?_⟩
   have hm:t∈aap.params.toList:=by simpa using Array.mem_of_getElem? ht
   exact (show P.wantsStandIn t=false by simpa using List.all_eq_true.1 atz t hm))
  avi
end Go.Proofs.YtkjijachkcmelaaGreatDoor
end
