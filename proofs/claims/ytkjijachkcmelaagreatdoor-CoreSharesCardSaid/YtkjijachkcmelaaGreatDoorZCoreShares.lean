/- Core: Shrinking is shared by what groups have in frames: the law answers true and lets its arguments be; for every input. -/
import Derived.Test.YtkjijachkcmelaaGreatDoorC14
import Derived.Test.YtkjijachkcmelaaGreatDoorProg
import Derived.Test.YtkjijachkcmelaaGreatDoorChecked
import Derived.LaidMore
import Derived.Lay
import Derived.OpenShut
import Derived.Stop.LaidErr
import Derived.Lib.LaidTab
import Derived.SevenTiedAt
import Derived.Test.YtkjijachkcmelaaGreatDoorRows
import Derived.Test.YtkjijachkcmelaaGreatDoorTie
import Derived.Test.YtkjijachkcmelaaGreatDoorCards
set_option linter.all false
section
namespace Go.Mp
open Go Go.Vc
abbrev aaH:FuncId:=4
noncomputable abbrev aav:Func:=Go.Proofs.Tryz.f4
theorem adA:P.funcs[aaH]? =some aav:=Go.Proofs.Tryz.func4
end Go.Mp
end
section
set_option maxRecDepth 100000
namespace Go.Mp
open Go Go.Vc Go.Proofs
variable {K:Value ->World ->Prop} {w:World}
def aka:Ann:= {quiet:=fun d=> [19,22,26,31,32,48,50,64,69,74,79,81,86,90,91,98].contains d,loop:=fun r=>(bif r==10 then [(11,.int .i64)] else []),join:=fun r=>(bif r==6 then some [] else none)}
def alh (n:Int) (k:Int) (K:Value ->World ->Prop) (w:World):Prop:=
 Calls P aao #[] w fun e2 w1=>∃ x3,e2= .returned (.bool x3)/\bif (!x3) then (K (.bool false) w1) else (∃ J4:World ->Prop,(bif (decide (n<1)) then (K (.bool x3) w1) else (bif (decide (n>9)) then (K (.bool x3) w1) else (bif (decide (k<1)) then (K (.bool x3) w1) else (bif (decide (k>(IntKind.i64.wrap (2*n)))) then (K (.bool x3) w1) else (J4 w1)))))/\(∀ _u6:Nat ->Value,∀ w5:World,J4 w5 ->Calls P abD #[(Iv 20),(Iv 20),(.slice none 0 0)] w5 fun e8 w7=>∃ x9,e8= .returned (Pv x9)/\Calls P abW #[(Pv x9),(Iv 0)] w7 fun e11 w10=>∃ x12:Int,∃ x13:Int,e11= .returned (.tuple #[(Iv x12),(Iv x13)])/\Calls P abW #[(Pv x9),(Iv 0)] w10 fun e15 w14=>∃ x16:Int,∃ x17:Int,e15= .returned (.tuple #[(Iv x16),(Iv x17)])/\∃ (I18:Int ->World ->Prop) (M19:Int ->World ->Nat),I18 0 w14/\∀ _u21:Nat ->Value,∀ i22 w20,I18 i22 w20 ->bif (decide (i22<n)) then (Calls P aa1 #[(Pv x9),(Iv x12)] w20 fun e24 w23=>∃ x25:Int,∃ x26:Int,∃ x27:Int,e24= .returned (.tuple #[(Iv x25),(Iv x26),(Iv x27)])/\Calls P aa1 #[(Pv x9),(Iv x16)] w23 fun e29 w28=>∃ x30:Int,∃ x31:Int,∃ x32:Int,e29= .returned (.tuple #[(Iv x30),(Iv x31),(Iv x32)])/\(I18 (IntKind.i64.wrap (i22+1)) w28/\M19 (IntKind.i64.wrap (i22+1)) w28<M19 i22 w20)) else (Calls P acU #[(Pv x9),(Iv 0),(Iv k)] w20 fun e34 w33=>∃ x35,e34= .returned (Iv x35)/\Calls P aae #[(Pv x9),(Iv x12)] w33 fun e37 w36=>∃ x38,e37= .returned (Iv x38)/\Calls P aae #[(Pv x9),(Iv x16)] w36 fun e40 w39=>∃ x41,e40= .returned (Iv x41)/\bif x3 then (bif (x35==k) then (bif ((IntKind.i64.wrap ((IntKind.i64.wrap (n - x38))+(IntKind.i64.wrap (n - x41))))==k) then (bif ((IntKind.i64.wrap (n - x38))==(IntKind.i64.wrap (n - x41))) then (Calls P aaQ #[(Pv x9),(Iv 0)] w39 fun e43 w42=>∃ x44,e43= .returned (Iv x44)/\K (.bool (x44==k)) w42) else (bif ((IntKind.i64.wrap (n - x38))==(IntKind.i64.wrap ((IntKind.i64.wrap (n - x41))+1))) then (Calls P aaQ #[(Pv x9),(Iv 0)] w39 fun e46 w45=>∃ x47,e46= .returned (Iv x47)/\K (.bool (x47==k)) w45) else (K (.bool false) w39))) else (K (.bool false) w39)) else (K (.bool false) w39)) else (K (.bool false) w39))))
theorem akU (n:Int) (k:Int) (h:alh n k K w):Calls P aaH #[(Iv n),(Iv k)] w (Ret K):=ofVc (A:=aka) Tryz.func4 (by kernel_rfl) (by kernel_rfl) h
end Go.Mp
end
section
set_option maxRecDepth 100000
namespace Go.Proofs.YtkjijachkcmelaaGreatDoor
open Go Go.Vc Go.Sp Go.Mp Go.RowKit Go.ChangeShapes
theorem aIw {α:Type} {a:Array α} (h:a.size=2):∃ x0 x1,a= #[x0,x1]:=by
 obtain ⟨l⟩:=a
 match l,h with
 | [x0,x1],_=>exact ⟨x0,x1,rfl⟩
end Go.Proofs.YtkjijachkcmelaaGreatDoor
end
section
set_option maxRecDepth 100000
namespace Go.Kc
open Go
def sh0:Cs:=Kc.new 20 20 []
def sh1:Cs:=(sh0.addGroup 0).1
def shS:Cs:=(sh1.addGroup 0).1
def fill:Nat ->Cs
 | 0=>shS
 | n+1=>(((fill n).fresh 1).1.fresh 2).1
def okS (n k:Nat):Bool:=
 let r:=(fill n).shrink 0 k
 let x:=IntKind.i64.wrap ((n:Int) - r.1.memory 1)
 let y:=IntKind.i64.wrap ((n:Int) - r.1.memory 2)
 r.2==(k:Int)&&IntKind.i64.wrap (x+y)==(k:Int)&&(x==y||x==IntKind.i64.wrap (y+1))&&r.1.swap 0==(k:Int)
theorem aIk:((List.range 9).all fun n=>(List.range 18).all fun k=>decide (2*(n+1)<k+1)||okS (n+1) (k+1))=true:=by decide+kernel
theorem aHK:((List.range 10).all fun n=>decide ((fill n).pages.next<16777216)&&decide (((fill n).fresh 1).1.pages.next<16777216))=true:=by decide+kernel
theorem ay2:(sh0.addGroup 0).2=(1,0)/\(sh1.addGroup 0).2=(2,0):=by decide+kernel
theorem aDK:Inv sh0:=Inv.new 20 20 []
theorem aDL:Inv sh1:=aDK.addGroup 0
theorem aHJ:Inv shS:=aDL.addGroup 0
theorem ayN {n:Nat} (h:n<10):(fill n).pages.next<16777216/\((fill n).fresh 1).1.pages.next<16777216:=by
 have:=List.all_eq_true.1 aHK n (List.mem_range.2 h)
 simpa using this
theorem avn:∀ n:Nat,n<10 ->Inv (fill n)
 | 0,_=>aHJ
 | n+1,h=>by
  have h1:=ayN (n:=n) (by omega)
  exact ((avn n (by omega)).fresh h1.1 1).fresh h1.2 2
theorem aIg {n k:Nat} (h1:1<=n) (h2:n<=9) (h3:1<=k) (h4:k<=2*n):okS n k=true:=by
 have:=List.all_eq_true.1 (List.all_eq_true.1 aIk (n - 1) (List.mem_range.2 (by omega))) (k - 1) (List.mem_range.2 (by omega))
 rw [show n - 1+1=n by omega,show k - 1+1=k by omega,decide_eq_false (by omega)] at this
 simpa using this
end Go.Kc
namespace Go.Mp
open Go Go.Vc Go.Sp Go.Proofs Go.Kc
variable {E:Env} {L:List Asn} {w:World}
theorem aBG {W:World} {n k:Int} (h:Sep E (tabA W.heap::L) w):
  Calls P aaH #[.int .i64 n,.int .i64 k] w (Ret fun v w'=>v= .bool true/\Sep E (tabA W.heap::L) w'):=by
 apply akU
 refine use (afP h) ?_
 rintro _ w1 ⟨rfl,h1⟩
 refine ⟨_,rfl,bF rfl ⟨fun w'=>(1<=n/\n<=9/\1<=k/\k<=2*n)/\Sep E (tabA W.heap::L) w',bLt (fun _=>⟨rfl,h1⟩) (fun a1=>bGt (fun _=>⟨rfl,h1⟩) (fun a2=>bLt (fun _=>⟨rfl,h1⟩) (fun a3=> ?_))),?_⟩⟩
 ·rw [w64 (by omega) (by omega)]
  exact bGt (fun _=>⟨rfl,h1⟩) (fun a4=>⟨⟨by omega,by omega,by omega,by omega⟩,h1⟩)
 rintro _ w2 ⟨⟨a1,a2,a3,a4⟩,h2⟩
 obtain ⟨N,rfl⟩:∃ N:Nat,n=N:=⟨n.toNat,by omega⟩
 obtain ⟨K,rfl⟩:∃ K:Nat,k=K:=⟨k.toNat,by omega⟩
 refine use (afB (sz:=⟨none,0,0⟩) (l:= []) ⟨rfl,fun _ _ i x hx=>(by simp at hx)⟩ (Nat.le_refl _) h2) ?_
 rintro _ w3 ⟨A,rfl,ho,h3⟩
 have h3:Sep E (aaa A sh0++L) w3:=h3
 refine ⟨_,rfl,use (ajb aDK h3) ?_⟩
 rintro _ w4 ⟨rfl,g1,u1,h4⟩
 rw [ay2.1]
 refine ⟨_,_,rfl,use (ajb (A:= {A with gs:=g1,us:=u1}) aDL h4) ?_⟩
 rintro _ w5 ⟨rfl,g2,u2,h5⟩
 rw [ay2.2]
 obtain ⟨B,hB⟩:∃ B:At,B= {A with gs:=g2,us:=u2} :=⟨_,rfl⟩
 have hBo:B.o=W.heap:=by rw [hB];exact ho
 have hBc:A.c=B.c:=by rw [hB]
 have h5:Sep E (aaa B shS++L) w5:=by rw [hB];exact h5
 rw [hBc]
 refine ⟨_,_,rfl,fun i w'=>∃ j:Nat,i=j/\j<=N/\Sep E (aaa B (fill j)++L) w',fun i _=>(N - i).toNat,⟨0,rfl,Nat.zero_le _,h5⟩,?_⟩
 rintro _ _ w6 ⟨j,rfl,hj,h6⟩
 refine bLt (fun hlt=> ?_) (fun hge=> ?_)
 ·have hn:=ayN (n:=j) (by omega)
  have hI:=avn j (by omega)
  refine use (afO hI h6) ?_
  rintro _ w7 ⟨rfl,h7⟩
  refine ⟨_,_,_,rfl,use (afO (hI.fresh hn.1 1) h7) ?_⟩
  rintro _ w8 ⟨rfl,h8⟩
  rw [aah (by omega)]
  refine ⟨_,_,_,rfl,⟨j+1,rfl,by omega,h8⟩,?_⟩
  show ((N:Int) - ((j+1:Nat):Int)).toNat<((N:Int) - (j:Int)).toNat
  omega
 have:j=N:=by omega
 subst this
 have hok:=aIg (n:=j) (k:=K) (by omega) (by omega) (by omega) (by omega)
 refine use (apd (avn j (by omega)) h6) ?_
 rintro _ w7 ⟨rfl,h7⟩
 refine ⟨_,rfl,use (abk 1 h7) ?_⟩
 rintro _ w8 ⟨rfl,h8⟩
 refine ⟨_,rfl,use (abk 2 h8) ?_⟩
 rintro _ w9 ⟨rfl,h9⟩
 unfold Kc.okS at hok
 simp only [Bool.and_eq_true,Bool.or_eq_true] at hok
 obtain ⟨⟨⟨o1,o2⟩,o3⟩,o4⟩:=hok
 have hsw:∀ {w'},Sep E (aaa B ((fill j).shrink 0 K).1++L) w' ->Sep E (tabA W.heap::L) w':=fun hs=>by rw [<- hBo];exact ac3 hs
 refine ⟨_,rfl,bT rfl (bT o1 (bT o2 (bifI (fun _=>use (agU 0 h9) ?_) (fun hf=>bT (o3.resolve_left (by rw [hf];decide)) (use (agU 0 h9) ?_)))))⟩
 ·rintro _ w10 ⟨rfl,h10⟩
  exact ⟨_,rfl,by rw [o4],hsw h10⟩
 ·rintro _ w10 ⟨rfl,h10⟩
  exact ⟨_,rfl,by rw [o4],hsw h10⟩
end Go.Mp
end
section
set_option maxRecDepth 100000
namespace Go.Proofs.YtkjijachkcmelaaGreatDoor
open Go Go.Vc Go.Sp Go.Mp Go.RowKit Go.ChangeShapes
theorem atw (os:Os) (started:os.Started) (H:Type) (enc:TypeId×Value ->H):
  ReturnsInHanded {} Chk os aaH .any (fun w args=>(Rows.coreSharesSpec.pre enc P aav [] false w args/\laidMetH P aa3 w)/\sizedMet enc P aav (OpenSpec.ofChange Rows.coreSharesSpec) false w args) (Rows.coreSharesSpec.post enc P aav false true false false):=by
 refine abO (C:=Chk) (tb:=aeL) (X:=fun w=>laidMetH P aa3 w) (fun _ _ hh h=>h.of_heap hh) own started (by kernel_rfl) adA
  (ChangeSpec.witness_shaped (enc:=enc) (C:=Chk) (os:=os) (X:=fun w _=>laidMetH P aa3 w) false (World.laidAll P os aa3) #[.int .i64 0,.int .i64 0] 8 (World.laidAll_os _ _ _) (World.shaped_of_ZipB (by kernel_rfl) (by kernel_rfl)) (by kernel_rfl) (by kernel_rfl) (by kernel_rfl) (aeP os _))
  laidOut (by kernel_rfl) (by kernel_rfl) rfl (by kernel_rfl) ?_ ?_
 ·intro ds gs hd hg
  match ds,gs,hd,hg with
  | [d0,d1],[],_,_=>rfl
 ·intro W base args hsz hargs _ hx
  have hw:=aek hx
  obtain ⟨x0,x1,rfl⟩:=aIw hsz
  have a0:=hargs 0 _ _ rfl rfl
  have a1:=hargs 1 _ _ rfl rfl
  obtain ⟨n,rfl,hn⟩:=aa9 a0
  obtain ⟨k,rfl,hk⟩:=aa9 a1
  refine use (aBG hw) ?_
  rintro v w' ⟨rfl,h⟩
  exact ⟨_,rfl,rfl,af5 h⟩
theorem amn:Tryz.pinned.checked.prog.funcNamed Rows.coreSharesRow.func=some aaH:=by kernel_rfl
theorem az4:jfA P aav Rows.coreSharesSpec Rows.coreSharesRow=true:=by kernel_rfl
theorem az5:jfB P aaH Rows.coreSharesRow=true:=by kernel_rfl
theorem az6:jfC P aaH Rows.coreSharesRow=true:=by kernel_rfl
theorem az7:jfD P aaH Rows.coreSharesRow=true:=by kernel_rfl
theorem az8:jfE P aaH Rows.coreSharesRow=true:=by kernel_rfl
theorem az9:jfF P aav Rows.coreSharesSpec Rows.coreSharesRow=true:=by kernel_rfl
theorem aAa:jfG P aav Rows.coreSharesSpec Rows.coreSharesRow=true:=by kernel_rfl
theorem aAb:jfH P Rows.coreSharesRow=true:=by kernel_rfl
theorem aAc:jfI P aav Rows.coreSharesSpec Rows.coreSharesRow=true:=by kernel_rfl
theorem avf:Rows.CoreSharesSaid:=
 OpenClaim.holds_of_wide aaH aav rfl rfl rfl rfl rfl rfl rfl ⟨rfl,rfl,rfl,rfl,rfl⟩ rfl rfl rfl rfl rfl amn adA
  (aeh az4 az5 az6 az7 az8 az9 aAa aAb aAc)
  (of_decide_eq_true (by kernel_rfl)) (by unfold Func.isWrapper;rw [if_neg (by decide+kernel)];exact ⟨rfl,rfl⟩)
  (fun os started H enc _=>atw os started H enc)
theorem aAd:Rows.coreSharesRow.wfByText (OpenSpec.ofChange Rows.coreSharesSpec)=true:=by kernel_rfl
theorem awQ:Tryz.pinned.checked.prog.mainIs=some (true, "3b9054f10c9c5fb82da89a913622f02e1aaecefdee6eb776dafd30a2283a3747".toList):=by kernel_rfl
theorem avg:false=Tryz.pinned.checked.prog.looks []:=by kernel_rfl
theorem awP:false=Rows.coreSharesRow.goesBy Tryz.pinned.checked.prog:=by kernel_rfl
theorem avh:(aav.params.toList.all fun u=> !P.wantsStandIn u)=true:=by kernel_rfl
theorem coreShares_card:Rows.CoreSharesCardSaid:=
 Claim7.holds_tied_plain_at .later [] [.data] true (true, "3b9054f10c9c5fb82da89a913622f02e1aaecefdee6eb776dafd30a2283a3747") false
  avf (fun _ h=>by cases h) aAd (fun _ h=>by cases h) coreShares_row_tie rfl ⟨rfl,rfl⟩ awQ rfl
  (fun f fn hf hfn=>by
   obtain rfl:f=aaH:=Option.some.inj (amn.symm.trans hf) |>.symm
   obtain rfl:fn=aav:=(Option.some.inj (adA.symm.trans hfn)).symm
   refine ⟨avg,fun j t ht=> ?_⟩
   have hm:t∈aav.params.toList:=by simpa using Array.mem_of_getElem? ht
   exact (show P.wantsStandIn t=false by simpa using List.all_eq_true.1 avh t hm))
  awP
end Go.Proofs.YtkjijachkcmelaaGreatDoor
end
