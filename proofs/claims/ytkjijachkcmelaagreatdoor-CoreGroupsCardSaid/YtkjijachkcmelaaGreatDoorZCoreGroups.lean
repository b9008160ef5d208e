/- Core: Groups are the tree's; one that goes leaves its parent all that it had: the law answers true and lets its arguments be; for every input. -/
import Derived.Test.YtkjijachkcmelaaGreatDoorC14
import Derived.Test.YtkjijachkcmelaaGreatDoorProg
import Derived.Test.YtkjijachkcmelaaGreatDoorChecked
import Derived.LaidMore
import Derived.Lay
import Derived.OpenShut
import Derived.Stop.LaidErr
import Derived.Lib.LaidTab
import Derived.SevenTiedAt
import Derived.Test.YtkjijachkcmelaaGreatDoorRows
import Derived.Test.YtkjijachkcmelaaGreatDoorTie
import Derived.Test.YtkjijachkcmelaaGreatDoorCards
set_option linter.all false
section
namespace Go.Mp
open Go Go.Vc
abbrev aaE:FuncId:=10
noncomputable abbrev aas:Func:=Go.Proofs.Tryz.f10
theorem adx:P.funcs[aaE]? =some aas:=Go.Proofs.Tryz.func10
end Go.Mp
end
section
namespace Go.Kc
open Go Go.Kt Go.Sp
def acts (S:Cs):List Act ->Cs
 | []=>S
 | x::l=>acts (S.act x).1 l
variable {S:Cs}
end Go.Kc
end
section
set_option maxRecDepth 100000
namespace Go.Mp
open Go Go.Vc Go.Proofs
variable {K:Value ->World ->Prop} {w:World}
def aj7:Ann:= {quiet:=fun d=> [39,40,42,60,75,77,80,84,88,90,93,99,106,112,113,115,126,131,144,150,156,162,169].contains d,loop:=fun r=>(bif r==8 then [(11,.int .i64)] else bif r==26 then [(22,.int .i64)] else []),join:=fun r=>(bif r==22 then some [] else none)}
def agh (frames:Int) (slots:Int) (l:Sl) (g:Int) (K:Value ->World ->Prop) (w:World):Prop:=
 Calls P aao #[] w fun e2 w1=>∃ x3,e2= .returned (.bool x3)/\bif (!x3) then (K (.bool false) w1) else (Calls P aaZ #[(Iv frames),(Iv slots),(.slice none 0 0),(Sv l)] w1 fun e5 w4=>∃ x6,e5= .returned (.bool x6)/\bif x6 then (K (.bool x3) w4) else (Al (.cells #[(Iv 4),(Iv 4)] 3) (fun p7 w8=>Calls P abD #[(Iv frames),(Iv slots),(.slice (some p7) 2 2)] w8 fun e10 w9=>∃ x11,e10= .returned (Pv x11)/\∃ (I12:Int ->World ->Prop) (M13:Int ->World ->Nat),I12 0 w9/\∀ _u15:Nat ->Value,∀ i16 w14,I12 i16 w14 ->bif (decide (i16<((l.n:Nat):Int))) then (elAt l.p l.n i16 6 fun a17=>∃ x18,w14.cell? (a17.add 0)=some (Iv x18)/\∃ x19,w14.cell? (a17.add 1)=some (Iv x19)/\∃ x20,w14.cell? (a17.add 2)=some (Iv x20)/\∃ x21,w14.cell? (a17.add 3)=some (Iv x21)/\∃ x22,w14.cell? (a17.add 4)=some (Iv x22)/\∃ x23,w14.cell? (a17.add 5)=some (Iv x23)/\Calls P aag #[(Pv x11),(.agg #[(Iv x18),(Iv x19),(Iv x20),(Iv x21),(Iv x22),(Iv x23)])] w14 fun e25 w24=>∃ x26:Int,∃ x27:Int,∃ x28:Int,e25= .returned (.tuple #[(Iv x26),(Iv x27),(Iv x28)])/\(I12 (IntKind.i64.wrap (i16+1)) w24/\M13 (IntKind.i64.wrap (i16+1)) w24<M13 i16 w14)) else (Calls P aci #[(Pv x11)] w14 fun e30 w29=>∃ x31,e30= .returned (Pv x31)/\Calls P aam #[(Pv x31),(Iv g)] w29 fun e33 w32=>∃ x34,e33= .returned (.bool x34)/\Calls P ae9 #[(Pv x31),(Iv g)] w32 fun e36 w35=>∃ x37,e36= .returned (Iv x37)/\Calls P afK #[(Pv x31),(Iv g)] w35 fun e39 w38=>∃ x40:Sl,e39= .returned (Sv x40)/\Calls P ad5 #[(Pv x11),(Iv g),(Iv 1),(Iv 5)] w38 fun e42 w41=>∃ x43,e42= .returned (Iv x43)/\Calls P aae #[(Pv x11),(Iv 0)] w41 fun e45 w44=>∃ x46,e45= .returned (Iv x46)/\Calls P aaQ #[(Pv x11),(Iv 0)] w44 fun e48 w47=>∃ x49,e48= .returned (Iv x49)/\Calls P aae #[(Pv x11),(Iv x37)] w47 fun e51 w50=>∃ x52,e51= .returned (Iv x52)/\Calls P ae3 #[(Pv x11),(Iv g)] w50 fun e54 w53=>∃ x55,e54= .returned (Iv x55)/\∃ J56:World ->Prop,(bif (!((x43==0)==x34)) then (K (.bool false) w53) else (bif x34 then (bif (g !=0) then (bif (!((x55==0)==(((x40.n:Nat):Int)==0))) then (K (.bool false) w53) else (J56 w53)) else (bif (!((x55==0)==false)) then (K (.bool false) w53) else (J56 w53))) else (bif (!((x55==0)==false)) then (K (.bool false) w53) else (J56 w53))))/\(∀ _u58:Nat ->Value,∀ w57:World,J56 w57 ->bif (x55 !=0) then (bif x3 then (Calls P aae #[(Pv x11),(Iv 0)] w57 fun e60 w59=>∃ x61,e60= .returned (Iv x61)/\bif (x61==x46) then (Calls P aam #[(Pv x31),(Iv g)] w59 fun e63 w62=>∃ x64,e63= .returned (.bool x64)/\K (.bool (x64==x34)) w62) else (K (.bool false) w59)) else (K (.bool false) w57)) else (Calls P ab4 #[(Pv x11)] w57 fun e66 w65=>∃ x67:Sl,e66= .returned (Sv x67)/\∃ (I68:Int ->World ->Prop) (M69:Int ->World ->Nat),I68 0 w65/\∀ _u71:Nat ->Value,∀ i72 w70,I68 i72 w70 ->bif (decide (i72<((x67.n:Nat):Int))) then (elAt x67.p x67.n i72 1 fun a73=>∃ x74,w70.cell? a73=some (Iv x74)/\Calls P abt #[(Pv x11),(Iv x74)] w70 fun e76 w75=>∃ x77:Int,∃ x78:Int,∃ x79:Int,∃ x80:Int,∃ x81:Int,∃ x82:Int,∃ x83:Int,∃ x84:Bool,∃ x85:Bool,∃ x86:Int,e76= .returned (.tuple #[(.agg #[(Iv x77),(Iv x78),(Iv x79),(Iv x80),(Iv x81),(Iv x82),(Iv x83),(.bool x84),(.bool x85)]),(Iv x86)])/\Al (.cells #[(Iv 0),(Iv 0),(Iv 0),(Iv 0),(Iv 0),(Iv 0),(Iv 0),(.bool false),(.bool false)] 38) (fun p87 w88=>StN [(Iv x77),(Iv x78),(Iv x79),(Iv x80),(Iv x81),(Iv x82),(Iv x83),(.bool x84),(.bool x85)] p87 (fun w89=>bif (x86 !=0) then (K (.bool false) w89) else (∃ x90,w89.cell? (p87.add 4)=some (Iv x90)/\bif (x90==g) then (K (.bool false) w89) else ((I68 (IntKind.i64.wrap (i72+1)) w89/\M69 (IntKind.i64.wrap (i72+1)) w89<M69 i72 w70)))) w88) w75) else (bif x3 then (Calls P aam #[(Pv x31),(Iv g)] w70 fun e92 w91=>∃ x93,e92= .returned (.bool x93)/\bif (!x93) then (Calls P aae #[(Pv x11),(Iv g)] w91 fun e95 w94=>∃ x96,e95= .returned (Iv x96)/\bif (x96==0) then (Calls P aaQ #[(Pv x11),(Iv g)] w94 fun e98 w97=>∃ x99,e98= .returned (Iv x99)/\bif (x99==0) then (Calls P aae #[(Pv x11),(Iv 0)] w97 fun e101 w100=>∃ x102,e101= .returned (Iv x102)/\bif (x102==x46) then (Calls P aaQ #[(Pv x11),(Iv 0)] w100 fun e104 w103=>∃ x105,e104= .returned (Iv x105)/\bif (x105==x49) then (Calls P aae #[(Pv x11),(Iv x37)] w103 fun e107 w106=>∃ x108,e107= .returned (Iv x108)/\K (.bool (x108==x52)) w106) else (K (.bool false) w103)) else (K (.bool false) w100)) else (K (.bool false) w97)) else (K (.bool false) w94)) else (K (.bool false) w91)) else (K (.bool false) w70)))))) w4))
theorem akR (frames:Int) (slots:Int) (l:Sl) (g:Int) (h:agh frames slots l g K w):Calls P aaE #[(Iv frames),(Iv slots),(Sv l),(Iv g)] w (Ret K):=ofVc (A:=aj7) Tryz.func10 (by kernel_rfl) (by kernel_rfl) h
end Go.Mp
end
section
set_option maxRecDepth 100000
namespace Go.Mp
open Go Go.Vc Go.Sp Go.Proofs Go.Kc
variable {E:Env} {L:List Asn} {w:World} {A:At} {S:Cs}
theorem acN (S:Cs):∀ (l:List Kc.Act) (x:Kc.Act),acts S (l++ [x])=((acts S l).act x).1
 | [],_=>rfl
 | y::l,x=>acN (S.act y).1 l x
theorem ah3 {W:World} {l:Sl} {xs:List Kc.Act} {REST:World ->Prop} (hA:acL W l xs) (hl:xs.length<=60) (ho:A.o=W.heap) (I:Kc.Inv S) (hn:S.pages.next<=1000) (h:Sep E (aaa A S++L) w)
  (k:∀ (gs us:Sl) (w':World),Kc.Inv (acts S xs) ->(acts S xs).pages.next<=S.pages.next+60 ->Sep E (aaa {A with gs:=gs,us:=us} (acts S xs)++L) w' ->REST w'):
  ∃ (I12:Int ->World ->Prop) (M13:Int ->World ->Nat),I12 0 w/\∀ _u15:Nat ->Value,∀ i16:Int,∀ w14:World,I12 i16 w14 ->bif (decide (i16<((l.n:Nat):Int))) then (elAt l.p l.n i16 6 fun a17=>∃ x18:Int,w14.cell? (a17.add 0)=some (.int .i64 x18)/\∃ x19:Int,w14.cell? (a17.add 1)=some (.int .i64 x19)/\
   ∃ x20:Int,w14.cell? (a17.add 2)=some (.int .i64 x20)/\∃ x21:Int,w14.cell? (a17.add 3)=some (.int .i64 x21)/\∃ x22:Int,w14.cell? (a17.add 4)=some (.int .i64 x22)
   /\∃ x23:Int,w14.cell? (a17.add 5)=some (.int .i64 x23)/\Calls P aag #[(.pointer (some ⟨A.c,0,none⟩)),(.agg #[(.int .i64 x18),(.int .i64 x19),(.int .i64 x20),(.int .i64
   x21),(.int .i64 x22),(.int .i64 x23)])] w14 fun e25 w24=>∃ x26:Int,∃ x27:Int,∃ x28:Int,e25= .returned (.tuple #[(.int .i64 x26),(.int .i64 x27),(.int .i64 x28)])
   /\(I12 (IntKind.i64.wrap (i16+1)) w24/\M13 (IntKind.i64.wrap (i16+1)) w24<M13 i16 w14)) else REST w14:=by
 refine ⟨fun i w'=>∃ (k:Nat) (gs us:Sl),i=k/\k<=xs.length/\Kc.Inv (acts S (xs.take k))/\(acts S (xs.take k)).pages.next<=S.pages.next+k/\Sep E (aaa {A with gs:=gs,us:=us} (acts S (xs.take k))++L) w',fun i _=>(xs.length - i).toNat,⟨0,A.gs,A.us,rfl,Nat.zero_le _,I,by show S.pages.next<=S.pages.next+0;omega,h⟩,?_⟩
 rintro _ _ w1 ⟨j,gs,us,rfl,hj,hI,hnx,h1⟩
 have hln:=hA.1
 refine bLt (fun hlt=> ?_) (fun hge=> ?_)
 ·have hjl:j<xs.length:=by omega
  obtain ⟨x,hx⟩:∃ x,xs[j]? =some x:=⟨_,List.getElem?_eq_getElem hjl⟩
  obtain ⟨a,hp,hc⟩:=hA.2 j x hx
  have hq:(aaa {A with gs:=gs,us:=us} (acts S (xs.take j))++L)[15]? =some (tabA W.heap):=by rw [<- ho];rfl
  have rd:∀ (i:Nat) v,(aeB x)[i]? =some v ->w1.cell? ((a.add (j*6)).add i)=some v:=fun i v hv=>oldT h1 hq (hc i v hv)
  refine ⟨a,hp,⟨by omega,by omega⟩,?_⟩
  rw [Int.toNat_natCast]
  refine ⟨_,rd 0 _ rfl,_,rd 1 _ rfl,_,rd 2 _ rfl,_,rd 3 _ rfl,_,rd 4 _ rfl,_,rd 5 _ rfl,use (c_Do (A:= {A with gs:=gs,us:=us}) hI (by omega) h1) ?_⟩
  rintro _ w2 ⟨rfl,gs',us',h2⟩
  have hsn:=acN S (xs.take j) x
  rw [<- aaj hx] at hsn
  rw [aah (by omega)]
  have hnn:=agq hI (by omega) x
  refine ⟨_,_,_,rfl,⟨j+1,gs',us',rfl,hjl,by rw [hsn];exact hI.act (by omega) x,by rw [hsn];omega,by rw [hsn];exact h2⟩,?_⟩
  show (((xs.length:Nat):Int) - ((j+1:Nat):Int)).toNat<(((xs.length:Nat):Int) - (j:Int)).toNat
  omega
 ·have:j=xs.length:=by omega
  subst this
  rw [List.take_length] at hI hnx h1
  exact k gs us w1 hI (by omega) h1
theorem avo {W:World} {frames slots:Int} {l:Sl} {xs:List Kc.Act} {K:Value ->World ->Prop} {REST:Bool ->Option Addr ->World ->Prop} (hA:acL W l xs) (h:Sep E (tabA W.heap::L) w)
  (hK:∀ w',Sep E (tabA W.heap::L) w' ->K (.bool true) w')
  (k:∀ (A:At) (w':World),A.o=W.heap ->frames<=40 ->slots<=40 ->Kc.Inv (acts (Kc.new frames slots [4,4]) xs) ->(acts (Kc.new frames slots [4,4]) xs).pages.next<=60 ->Sep E (aaa A (acts (Kc.new frames slots [4,4]) xs)++L) w' ->REST true (some ⟨A.c,0,none⟩) w'):
  Calls P aao #[] w fun e2 w1=>∃ x3:Bool,e2= .returned (.bool x3)/\bif (!x3) then (K (.bool false) w1) else (Calls P aaZ #[(.int .i64
   frames),(.int .i64 slots),(.slice none 0 0),(.slice l.p l.n l.c)] w1 fun e5 w4=>∃ x6:Bool,e5= .returned (.bool x6)/\bif x6 then (K (.bool x3) w4) else (Al (.cells
   #[(.int .i64 4),(.int .i64 4)] 3) (fun p7 w8=>Calls P abD #[(.int .i64 frames),(.int .i64 slots),(.slice (some p7) 2 2)] w8 fun e10 w9=>∃ x11:Option Addr,e10=
   .returned (.pointer x11)/\∃ (I12:Int ->World ->Prop) (M13:Int ->World ->Nat),I12 0 w9/\∀ _u15:Nat ->Value,∀ i16:Int,∀ w14:World,I12 i16 w14 ->bif (decide (i16<
   ((l.n:Nat):Int))) then (elAt l.p l.n i16 6 fun a17=>∃ x18:Int,w14.cell? (a17.add 0)=some (.int .i64 x18)/\∃ x19:Int,w14.cell? (a17.add 1)=some (.int .i64 x19)/\
   ∃ x20:Int,w14.cell? (a17.add 2)=some (.int .i64 x20)/\∃ x21:Int,w14.cell? (a17.add 3)=some (.int .i64 x21)/\∃ x22:Int,w14.cell? (a17.add 4)=some (.int .i64 x22)
   /\∃ x23:Int,w14.cell? (a17.add 5)=some (.int .i64 x23)/\Calls P aag #[(.pointer x11),(.agg #[(.int .i64 x18),(.int .i64 x19),(.int .i64 x20),(.int .i64
   x21),(.int .i64 x22),(.int .i64 x23)])] w14 fun e25 w24=>∃ x26:Int,∃ x27:Int,∃ x28:Int,e25= .returned (.tuple #[(.int .i64 x26),(.int .i64 x27),(.int .i64 x28)])
   /\(I12 (IntKind.i64.wrap (i16+1)) w24/\M13 (IntKind.i64.wrap (i16+1)) w24<M13 i16 w14)) else REST x3 x11 w14) w4)):=by
 refine use (afP h) ?_
 rintro _ w1 ⟨rfl,h1⟩
 refine ⟨_,rfl,bF rfl (use (akK frames slots ⟨none,0,0⟩ l w1) ?_)⟩
 rintro _ _ ⟨rfl,rfl⟩
 refine ⟨_,rfl,bifI (fun _=>hK _ h1) (fun hov=> ?_)⟩
 have hl:=hA.1
 simp only [Bool.or_eq_false_iff,decide_eq_false_iff_not] at hov
 have hxl:xs.length<=60:=by omega
 refine Al.i h1 (fun b w2 h2=> ?_)
 have h2:Sep E (tabA W.heap::blk b (intL [4,4])::L) w2:=h2.swap
 refine use (afB (sz:=⟨some ⟨b,0,none⟩,2,2⟩) (l:= [4,4]) (Ints.blk_ (b:=b) (c:=2) (gs:= [4,4]) (q:=1) rfl) (Nat.le_refl _) h2) ?_
 rintro _ w3 ⟨A,rfl,ho,h3⟩
 have h3:Sep E (aaa A (Kc.new frames slots [4,4])++L) w3:=h3.cut
 refine ⟨_,rfl,ah3 hA hxl ho (Inv.new frames slots [4,4]) (by show (0:Int)<=1000;decide) h3 (fun gs us w4 I hnx h4=> ?_)⟩
 exact k {A with gs:=gs,us:=us} w4 ho (by omega) (by omega) I (by have:(Kc.new frames slots [4,4]).pages.next=0:=rfl;omega) h4
end Go.Mp
end
section
set_option maxRecDepth 100000
namespace Go.Proofs.YtkjijachkcmelaaGreatDoor
open Go Go.Vc Go.Sp Go.Mp Go.RowKit Go.ChangeShapes
theorem ao9 {α:Type} {a:Array α} (h:a.size=4):∃ x0 x1 x2 x3,a= #[x0,x1,x2,x3]:=by
 obtain ⟨l⟩:=a
 match l,h with
 | [x0,x1,x2,x3],_=>exact ⟨x0,x1,x2,x3,rfl⟩
end Go.Proofs.YtkjijachkcmelaaGreatDoor
end
section
set_option maxRecDepth 100000
namespace Go.Mp
open Go Go.Vc Go.Sp Go.Proofs Go.Kc
variable {E:Env} {L:List Asn} {w:World} {A:At} {S:Cs}
theorem aId (T:Cs) (g:Int):((T.limit g 1 5).2=if T.live g then 0 else 2)/\(T.limit g 1 5).1.tree=T.tree/\(T.limit g 1 5).1.fr=T.fr/\(T.limit g 1 5).1.sl=T.sl/\(T.limit g 1 5).1.pages=T.pages:=by
 unfold Cs.limit
 cases T.live g with
 | false=>exact ⟨rfl,rfl,rfl,rfl,rfl⟩
 | true=>exact ⟨rfl,rfl,rfl,rfl,rfl⟩
theorem aBD {W:World} {frames slots g:Int} {l:Sl} {xs:List Kc.Act} (hA:acL W l xs) (h:Sep E (tabA W.heap::L) w):
  Calls P aaE #[.int .i64 frames,.int .i64 slots,.slice l.p l.n l.c,.int .i64 g] w (Ret fun v w'=>v= .bool true/\Sep E (tabA W.heap::L) w'):=by
 apply akR
 unfold agh
 refine avo (K:=fun v w'=>v= .bool true/\Sep E (tabA W.heap::L) w') hA h (fun w' h'=>⟨rfl,h'⟩) (fun A w4 ho _ _ I _ h4=> ?_)
 generalize acts (Kc.new frames slots [4,4]) xs=T at*
 refine use (al8 h4) ?_
 rintro _ w5 ⟨rfl,h5⟩
 refine ⟨_,rfl,use (adG h5 (q:=1) rfl) ?_⟩
 rintro _ _ ⟨rfl,rfl⟩
 refine ⟨_,rfl,use (aAS h5 (q:=1) rfl) ?_⟩
 rintro _ _ ⟨rfl,rfl⟩
 refine ⟨_,rfl,use (aEZ I.wf (h5.fr 1 rfl)) ?_⟩
 rintro _ w6 ⟨sk,rfl,hsk,h6⟩
 have h6:=h6.put1 (q:=1) rfl
 have h6:Sep E (aaa A T++rowA sk 1 (intL (Kt.acR T.tree g))::L) w6:=Sep.inn (Q:=aaa A T) h6
 refine ⟨sk,rfl,use (auU I h6) ?_⟩
 rintro _ w7 ⟨rfl,h7⟩
 obtain ⟨hl2,htr,hfr,hsl,hpg⟩:=aId T g
 have I1:Kc.Inv (T.limit g 1 5).1:=I.limit g 1 5
 obtain ⟨U,hU⟩:∃ U,(T.limit g 1 5).1=U:=⟨_,rfl⟩
 rw [hU] at h7 htr hfr hsl hpg I1
 rw [hl2]
 refine ⟨_,rfl,use (abk 0 h7) ?_⟩
 rintro _ w8 ⟨rfl,h8⟩
 refine ⟨_,rfl,use (agU 0 h8) ?_⟩
 rintro _ w9 ⟨rfl,h9⟩
 refine ⟨_,rfl,use (abk _ h9) ?_⟩
 rintro _ w10 ⟨rfl,h10⟩
 refine ⟨_,rfl,use (ayI (g:=g) I1 h10) ?_⟩
 rintro _ w11 ⟨rfl,h11⟩
 have IR:Kc.Inv (U.remove g).1:=I1.remove g
 obtain ⟨R,hR⟩:∃ R,U.remove g=R:=⟨_,rfl⟩
 rw [hR] at h11 IR ⊢
 have hend:∀ {V:Cs} {w:World},Sep E (aaa A V++rowA sk 1 (intL (Kt.acR T.tree g))::L) w ->Sep E (tabA W.heap::L) w:=fun hs=>by rw [<- ho];exact ac3 hs.cut
 have hrm:R.2=(Kt.aby T.tree g).2:=by
  rw [<- hR,<- htr];unfold Cs.remove;dsimp only
  split
  ·next e=>exact e.symm
  ·rfl
 have hrm0:R.2=0↔(Kt.aaf T.tree g=true/\g≠0/\Kt.acR T.tree g= []):=by
  rw [hrm];unfold Kt.aby
  by_cases h0:g=0
  ·rw [if_pos h0];simp [h0]
  ·rw [if_neg h0]
   cases hl:Kt.aaf T.tree g with
   | false=>rw [if_pos rfl];simp
   | true=>
    rw [if_neg (by decide)]
    by_cases hk:Kt.acR T.tree g= []
    ·rw [if_neg (by simp [hk])];simp [h0,hk]
    ·rw [if_pos hk];simp [hk]
 refine ⟨_,rfl,fun w'=>Sep E (aaa A R.1++rowA sk 1 (intL (Kt.acR T.tree g))::L) w',?_,?_⟩
 ·have hlv:T.live g=Kt.aaf T.tree g:=rfl
  rw [hlv]
  have hskn:(((sk.n:Nat):Int)==0)=decide (Kt.acR T.tree g= []):=by
   rw [hsk]
   cases Kt.acR T.tree g with
   | nil=>rfl
   | cons a t=>simp;omega
  cases hl:Kt.aaf T.tree g with
  | false=>
   have hne:¬ R.2=0:=fun e=>by have:=(hrm0.1 e).1;rw [hl] at this;cases this
   refine bF (by rfl) (bF rfl (bF (by simp [hne]) h11))
  | true=>
   refine bF (by rfl) (bT rfl (bNe (fun hg=>bF ?_ h11) (fun hg=>bF ?_ h11)))
   ·rw [hskn]
    by_cases hk:Kt.acR T.tree g= []
    ·have:R.2=0:=hrm0.2 ⟨hl,hg,hk⟩
     simp [this,hk]
    ·have:¬ R.2=0:=fun e=>hk (hrm0.1 e).2.2
     simp [this,hk]
   ·have:¬ R.2=0:=fun e=>(hrm0.1 e).2.1 hg
    simp [this]
 intro _ w12 h12
 refine bNe (fun hne=>bT rfl ?_) (fun he=> ?_)
 ·have hsame:R.1=U:=by
   rw [<- hR] at hne ⊢
   unfold Cs.remove at hne ⊢
   dsimp only at hne ⊢
   split
   ·next e=>rw [if_pos e] at hne;exact absurd rfl hne
   ·rfl
  rw [hsame] at h12
  refine use (abk 0 h12) ?_
  rintro _ w13 ⟨rfl,h13⟩
  refine ⟨_,rfl,bT (by simp) (use (adG h13 (q:=1) rfl) ?_)⟩
  rintro _ _ ⟨rfl,rfl⟩
  exact ⟨_,rfl,by rw [htr];simp,hend h13⟩
 ·have he':(Kt.aby U.tree g).2=0:=by rw [htr,<- hrm];exact he
  obtain ⟨n,rfl,hn0,x,hx,hxl,_,hre⟩:=Kt.axn he'
  have hnlt:=(List.getElem?_eq_some_iff.1 hx).1
  have hg64:(0:Int)<=(n:Int)/\(n:Int)<64:=by have:=I1.wf.few;omega
  have hlive:Kt.aaf U.tree (n:Int)=true:=Kt.aa7.2 ⟨n,rfl,x,hx,hxl⟩
  have hup:Kt.ab9 U.tree (n:Int)=x.up:=by unfold Kt.ab9;rw [if_pos hlive,Int.toNat_natCast,hx];rfl
  have hupn:x.up≠(n:Int):=by have:=(I1.wf.up n x hx hn0).2;omega
  have eR:R.1= {U with tree:=(Kt.aby U.tree n).1,pages:=U.pages.ownAll (U.pages.those n) (Kt.ab9 U.tree n),gens:=(ah2 U.gens n (Kt.ab9 U.tree n)).1,fr:= {U.fr with used:=(aaC U.fr.used [(n:Int)] (cUse U.fr.used n)).1},sl:= {U.sl with used:=(aaC U.sl.used [(n:Int)] (cUse U.sl.used n)).1}} :=by
   rw [<- hR];unfold Cs.remove;dsimp only;rw [if_pos he']
  have fm:∀ y,R.1.memory y=if y=(n:Int) then 0 else U.memory y:=fun y=>by rw [eR];exact asF I1.fr.used hg64 y
  have fs:∀ y,R.1.swap y=if y=(n:Int) then 0 else U.swap y:=fun y=>by rw [eR];exact asF I1.sl.used hg64 y
  have fl:Kt.aaf R.1.tree (n:Int)=false:=by
   rw [eR]
   show Kt.aaf (Kt.aby U.tree n).1 (n:Int)=false
   rw [hre]
   unfold Kt.aaf
   rw [Int.toNat_natCast,List.getElem?_set_self hnlt]
   simp
  have fp:∀ id p,R.1.pages.pg id=some p ->p.owner≠(n:Int):=by
   intro id p hp
   rw [eR] at hp
   have hp:(U.pages.ownAll (U.pages.those n) (Kt.ab9 U.tree n)).pg id=some p:=hp
   rw [agL I1.tab,hup] at hp
   cases hq:U.pages.pg id with
   | none=>rw [hq] at hp;cases hp
   | some q=>
    rw [hq] at hp
    have hp:(if q.owner=(n:Int) then {q with owner:=x.up} else q)=p:=Option.some.inj hp
    rw [<- hp]
    split
    ·exact hupn
    ·next e=>exact e
  refine use (akh IR h12) ?_
  rintro _ w13 ⟨s,rfl,hs,h13⟩
  refine ⟨s,rfl,fun i w'=>∃ k:Nat,i=k/\k<=R.1.pages.all.length/\Sep E (aaa A R.1++rowA s 1 (intL R.1.pages.all)::rowA sk 1 (intL (Kt.acR T.tree n))::L) w',fun i _=>(R.1.pages.all.length - i).toNat,⟨0,rfl,Nat.zero_le _,h13⟩,?_⟩
  have hall:R.1.pages.all.length<=16777216:=ahD 16777216 _ (List.nodup_iff_pairwise_ne.2 (ame.imp (fun hlt he=>by omega))) (fun y hy=>aBq IR y ((anX IR.tab).1 hy))
  rintro _ _ w14 ⟨k,rfl,hk,h14⟩
  refine bLt (fun hlt=> ?_) (fun hge=>bT rfl ?_)
  ·have hkl:k<R.1.pages.all.length:=by omega
   obtain ⟨id,hid⟩:∃ id,R.1.pages.all[k]? =some id:=⟨_,List.getElem?_eq_getElem hkl⟩
   obtain ⟨p,hp⟩:=Option.isSome_iff_exists.1 ((anX IR.tab).1 (List.mem_of_getElem? hid))
   refine (Ints.at_ (q:=16) rfl hs).el h14 k rfl hid (use (ahX id h14) ?_)
   rintro _ w15 ⟨rfl,h15⟩
   have hget:R.1.pages.get id=(p,0):=by unfold TS.get;rw [hp]
   rw [hget]
   refine ⟨_,_,_,_,_,_,_,_,_,_,rfl,Al.i h15 (fun b w16 h16=>zst (vs:=p.vs) _ h16 rfl (fun w17 h17=>bNe (fun e=>absurd rfl e) (fun _=>ld h17 0 rfl rfl rfl (bEq (fun e=>absurd e (fp id p hp)) (fun _=> ?_)))))⟩
   rw [aah (by omega)]
   refine ⟨⟨k+1,rfl,hkl,h17.tail⟩,?_⟩
   show (((R.1.pages.all.length:Nat):Int) - ((k+1:Nat):Int)).toNat<(((R.1.pages.all.length:Nat):Int) - (k:Int)).toNat
   omega
  ·refine use (adG h14 (q:=1) rfl) ?_
   rintro _ _ ⟨rfl,rfl⟩
   refine ⟨_,rfl,bT (by rw [fl];rfl) (use (abk _ h14) ?_)⟩
   rintro _ w15 ⟨rfl,h15⟩
   refine ⟨_,rfl,bT (by rw [fm,if_pos rfl];rfl) (use (agU _ h15) ?_)⟩
   rintro _ w16 ⟨rfl,h16⟩
   refine ⟨_,rfl,bT (by rw [fs,if_pos rfl];rfl) (use (abk 0 h16) ?_)⟩
   rintro _ w17 ⟨rfl,h17⟩
   refine ⟨_,rfl,bT (by rw [fm,if_neg (by omega)];simp) (use (agU 0 h17) ?_)⟩
   rintro _ w18 ⟨rfl,h18⟩
   refine ⟨_,rfl,bT (by rw [fs,if_neg (by omega)];simp) (use (abk _ h18) ?_)⟩
   rintro _ w19 ⟨rfl,h19⟩
   refine ⟨_,rfl,?_,hend h19.cut⟩
   rw [fm,if_neg (by rw [<- htr,hup];exact hupn)]
   simp
end Go.Mp
end
section
set_option maxRecDepth 100000
namespace Go.Proofs.YtkjijachkcmelaaGreatDoor
open Go Go.Vc Go.Sp Go.Mp Go.RowKit Go.ChangeShapes
theorem att (os:Os) (started:os.Started) (H:Type) (enc:TypeId×Value ->H):
  ReturnsInHanded {} Chk os aaE .any (fun w args=>(Rows.coreGroupsSpec.pre enc P aas [] false w args/\laidMetH P aa3 w)/\sizedMet enc P aas (OpenSpec.ofChange Rows.coreGroupsSpec) false w args) (Rows.coreGroupsSpec.post enc P aas false true false false):=by
 refine abO (C:=Chk) (tb:=aeL) (X:=fun w=>laidMetH P aa3 w) (fun _ _ hh h=>h.of_heap hh) own started (by kernel_rfl) adx
  (ChangeSpec.witness_shaped (enc:=enc) (C:=Chk) (os:=os) (X:=fun w _=>laidMetH P aa3 w) false (World.laidAll P os aa3) #[.int .i64 0,.int .i64 0,.slice none 0 0,.int .i64 0] 8 (World.laidAll_os _ _ _) (World.shaped_of_ZipB (by kernel_rfl) (by kernel_rfl)) (by kernel_rfl) (by kernel_rfl) (by kernel_rfl) (aeP os _))
  laidOut (by kernel_rfl) (by kernel_rfl) rfl (by kernel_rfl) ?_ ?_
 ·intro ds gs hd hg
  match ds,gs,hd,hg with
  | [d0,d1,d2,d3],[],_,_=>rfl
 ·intro W base args hsz hargs _ hx
  have hw:=aek hx
  obtain ⟨x0,x1,x2,x3,rfl⟩:=ao9 hsz
  have a0:=hargs 0 _ _ rfl rfl
  have a1:=hargs 1 _ _ rfl rfl
  have a2:=hargs 2 _ _ rfl rfl
  have a3:=hargs 3 _ _ rfl rfl
  obtain ⟨f,rfl,hf⟩:=aa9 a0
  obtain ⟨s,rfl,hs⟩:=aa9 a1
  obtain ⟨l,xs,rfl,hA⟩:=agr a2
  obtain ⟨g,rfl,hg⟩:=aa9 a3
  refine use (aBD hA hw) ?_
  rintro v w' ⟨rfl,h⟩
  exact ⟨_,rfl,rfl,af5 h⟩
theorem amk:Tryz.pinned.checked.prog.funcNamed Rows.coreGroupsRow.func=some aaE:=by kernel_rfl
theorem azy:jfA P aas Rows.coreGroupsSpec Rows.coreGroupsRow=true:=by kernel_rfl
theorem azz:jfB P aaE Rows.coreGroupsRow=true:=by kernel_rfl
theorem azA:jfC P aaE Rows.coreGroupsRow=true:=by kernel_rfl
theorem azB:jfD P aaE Rows.coreGroupsRow=true:=by kernel_rfl
theorem azC:jfE P aaE Rows.coreGroupsRow=true:=by kernel_rfl
theorem azD:jfF P aas Rows.coreGroupsSpec Rows.coreGroupsRow=true:=by kernel_rfl
theorem azE:jfG P aas Rows.coreGroupsSpec Rows.coreGroupsRow=true:=by kernel_rfl
theorem azF:jfH P Rows.coreGroupsRow=true:=by kernel_rfl
theorem azG:jfI P aas Rows.coreGroupsSpec Rows.coreGroupsRow=true:=by kernel_rfl
theorem au5:Rows.CoreGroupsSaid:=
 OpenClaim.holds_of_wide aaE aas rfl rfl rfl rfl rfl rfl rfl ⟨rfl,rfl,rfl,rfl,rfl⟩ rfl rfl rfl rfl rfl amk adx
  (aeh azy azz azA azB azC azD azE azF azG)
  (of_decide_eq_true (by kernel_rfl)) (by unfold Func.isWrapper;rw [if_neg (by decide+kernel)];exact ⟨rfl,rfl⟩)
  (fun os started H enc _=>att os started H enc)
theorem azH:Rows.coreGroupsRow.wfByText (OpenSpec.ofChange Rows.coreGroupsSpec)=true:=by kernel_rfl
theorem awG:Tryz.pinned.checked.prog.mainIs=some (true, "3b9054f10c9c5fb82da89a913622f02e1aaecefdee6eb776dafd30a2283a3747".toList):=by kernel_rfl
theorem au6:false=Tryz.pinned.checked.prog.looks []:=by kernel_rfl
theorem awF:false=Rows.coreGroupsRow.goesBy Tryz.pinned.checked.prog:=by kernel_rfl
theorem au7:(aas.params.toList.all fun u=> !P.wantsStandIn u)=true:=by kernel_rfl
theorem coreGroups_card:Rows.CoreGroupsCardSaid:=
 Claim7.holds_tied_plain_at .later [] [.data] true (true, "3b9054f10c9c5fb82da89a913622f02e1aaecefdee6eb776dafd30a2283a3747") false
  au5 (fun _ h=>by cases h) azH (fun _ h=>by cases h) coreGroups_row_tie rfl ⟨rfl,rfl⟩ awG rfl
  (fun f fn hf hfn=>by
   obtain rfl:f=aaE:=Option.some.inj (amk.symm.trans hf) |>.symm
   obtain rfl:fn=aas:=(Option.some.inj (adx.symm.trans hfn)).symm
   refine ⟨au6,fun j t ht=> ?_⟩
   have hm:t∈aas.params.toList:=by simpa using Array.mem_of_getElem? ht
   exact (show P.wantsStandIn t=false by simpa using List.all_eq_true.1 au7 t hm))
  awF
end Go.Proofs.YtkjijachkcmelaaGreatDoor
end
