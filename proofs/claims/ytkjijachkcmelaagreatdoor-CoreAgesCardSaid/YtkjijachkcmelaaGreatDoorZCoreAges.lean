/- Core: What is touched goes out behind what is older: the law answers true and lets its arguments be; for every input. -/
import Derived.Test.YtkjijachkcmelaaGreatDoorC14
import Derived.Test.YtkjijachkcmelaaGreatDoorProg
import Derived.Test.YtkjijachkcmelaaGreatDoorChecked
import Derived.LaidMore
import Derived.Lay
import Derived.OpenShut
import Derived.Stop.LaidErr
import Derived.Lib.LaidTab
import Derived.SevenTiedAt
import Derived.Test.YtkjijachkcmelaaGreatDoorRows
import Derived.Test.YtkjijachkcmelaaGreatDoorTie
import Derived.Test.YtkjijachkcmelaaGreatDoorCards
set_option linter.all false
section
set_option maxRecDepth 100000
namespace Go.Kc
open Go Go.Vc Go.Sp
namespace By
variable {n:Nat} {X:List UInt8} {i j:Int}
theorem acx {t:List UInt8} (h:X.length=16*n) (hi:pg n i) (ht:t.length=16) (k:Nat):
  (wrAt X i t)[k]? =if 16*i.toNat<=k/\k<16*i.toNat+16 then t[k - 16*i.toNat]? else X[k]? :=by
 obtain ⟨h1,h2⟩:=hi
 unfold wrAt
 by_cases hk:k<16*i.toNat
 ·rw [if_neg (by omega),List.append_assoc,List.getElem?_append_left (by simp;omega)];simp [hk]
 ·by_cases hk2:k<16*i.toNat+16
  ·rw [if_pos (by omega),List.append_assoc,List.getElem?_append_right (by simp;omega),List.getElem?_append_left (by simp;omega)]
   congr 1;simp;omega
  ·rw [if_neg (by omega),List.getElem?_append_right (by simp;omega)]
   simp only [List.getElem?_drop,List.length_append,List.length_take]
   congr 1;omega
end By
end Go.Kc
end
section
namespace Go.Mp
open Go Go.Vc
abbrev aaS:FuncId:=3
noncomputable abbrev aaM:Func:=Go.Proofs.Tryz.f3
theorem aed:P.funcs[aaS]? =some aaM:=Go.Proofs.Tryz.func3
end Go.Mp
end
section
set_option maxRecDepth 100000
namespace Go.Mp
open Go Go.Vc Go.Proofs
variable {K:Value ->World ->Prop} {w:World}
def alx:Ann:= {quiet:=fun d=> [23,26,30,31,35,39,47,49,54,56,63,64,66,71,78,93,95,97,105,110,112,120,124,127,128].contains d,loop:=fun r=>(bif r==8 then [(9,.int .i64)] else bif r==12 then [(10,.int .i64)] else bif r==17 then [(12,.int .i64)] else bif r==24 then [(13,.int .i64),(14,.int .i64)] else bif r==32 then [(16,.int .i64)] else []),join:=fun r=>(bif r==6 then some [] else bif r==20 then some [(79,.bool)] else bif r==30 then some [(13,.int .i64)] else none)}
def ahk (n:Int) (touch:Sl) (ages:Int) (K:Value ->World ->Prop) (w:World):Prop:=
 Calls P aao #[] w fun e2 w1=>∃ x3,e2= .returned (.bool x3)/\bif (!x3) then (K (.bool false) w1) else (∃ J4:World ->Prop,(bif (decide (n<2)) then (K (.bool x3) w1) else (bif (decide (n>20)) then (K (.bool x3) w1) else (bif (decide (((touch.n:Nat):Int)>20)) then (K (.bool x3) w1) else (bif (decide (ages<1)) then (K (.bool x3) w1) else (bif (decide (ages>3)) then (K (.bool x3) w1) else (J4 w1))))))/\(∀ _u6:Nat ->Value,∀ w5:World,J4 w5 ->Calls P abD #[(Iv n),(Iv n),(.slice none 0 0)] w5 fun e8 w7=>∃ x9,e8= .returned (Pv x9)/\∃ (I10:Int ->World ->Prop) (M11:Int ->World ->Nat),I10 0 w7/\∀ _u13:Nat ->Value,∀ i14 w12,I10 i14 w12 ->bif (decide (i14<n)) then (Calls P aa1 #[(Pv x9),(Iv 0)] w12 fun e16 w15=>∃ x17:Int,∃ x18:Int,∃ x19:Int,e16= .returned (.tuple #[(Iv x17),(Iv x18),(Iv x19)])/\(I10 (IntKind.i64.wrap (i14+1)) w15/\M11 (IntKind.i64.wrap (i14+1)) w15<M11 i14 w12)) else (∃ (I20:Int ->World ->Prop) (M21:Int ->World ->Nat),I20 0 w12/\∀ _u23:Nat ->Value,∀ i24 w22,I20 i24 w22 ->bif (decide (i24<ages)) then (Calls P agy #[(Pv x9),(Iv 0)] w22 fun e26 w25=>∃ x27,e26= .returned (Iv x27)/\(I20 (IntKind.i64.wrap (i24+1)) w25/\M21 (IntKind.i64.wrap (i24+1)) w25<M21 i24 w22)) else (∃ x29:Sl,∃ w28:World,Sem.run P (Instr.makeSlice 30 (Iv n) (Iv n)) w22= .ok (Sv x29) w28/\∃ (I30:Int ->World ->Prop) (M31:Int ->World ->Nat),I30 0 w28/\∀ _u33:Nat ->Value,∀ i34 w32,I30 i34 w32 ->bif (decide (i34<((touch.n:Nat):Int))) then (∃ J35:Bool ->World ->Prop,(elAt touch.p touch.n i34 1 fun a39=>∃ x40,w32.cell? a39=some (Iv x40)/\bif (decide (x40≥0)) then (elAt touch.p touch.n i34 1 fun a41=>∃ x42,w32.cell? a41=some (Iv x42)/\J35 (decide (x42<n)) w32) else (J35 false w32))/\(∀ _u37:Nat ->Value,∀ x38 w36,J35 x38 w36 ->bif x38 then (elAt touch.p touch.n i34 1 fun a43=>∃ x44,w36.cell? a43=some (Iv x44)/\Calls P ac1 #[(Pv x9),(Iv x44),(Iv 0)] w36 fun e46 w45=>∃ x47:Int,∃ x48:Int,e46= .returned (.tuple #[(.int .u8 x47),(Iv x48)])/\elAt touch.p touch.n i34 1 fun a49=>∃ x50,w45.cell? a49=some (Iv x50)/\elAt x29.p x29.n x50 1 fun a51=>St a51 (.bool true) (fun w52=>(I30 (IntKind.i64.wrap (i34+1)) w52/\M31 (IntKind.i64.wrap (i34+1)) w52<M31 i34 w32)) w45) else ((I30 (IntKind.i64.wrap (i34+1)) w36/\M31 (IntKind.i64.wrap (i34+1)) w36<M31 i34 w32)))) else (∃ (I53:Int ->Int ->World ->Prop) (M54:Int ->Int ->World ->Nat),I53 (-1) (IntKind.i64.wrap (n - 1)) w32/\∀ _u56:Nat ->Value,∀ want57:Int,∀ i58:Int,∀ w55:World,I53 want57 i58 w55 ->bif (decide (i58≥0)) then (elAt x29.p x29.n i58 1 fun a59=>∃ x60,w55.cell? a59=some (.bool x60)/\bif (!x60) then ((I53 i58 (IntKind.i64.wrap (i58 - 1)) w55/\M54 i58 (IntKind.i64.wrap (i58 - 1)) w55<M54 want57 i58 w55)) else ((I53 want57 (IntKind.i64.wrap (i58 - 1)) w55/\M54 want57 (IntKind.i64.wrap (i58 - 1)) w55<M54 want57 i58 w55))) else (∃ J61:Int ->World ->Prop,(bif (decide (want57<0)) then (J61 0 w55) else (J61 want57 w55))/\(∀ _u63:Nat ->Value,∀ want64 w62,J61 want64 w62 ->Calls P aa6 #[(Pv x9),(Iv 0)] w62 fun e66 w65=>∃ x67,e66= .returned (.bool x67)/\∃ (I68:Int ->World ->Prop) (M69:Int ->World ->Nat),I68 0 w65/\∀ _u71:Nat ->Value,∀ i72 w70,I68 i72 w70 ->bif (decide (i72<n)) then (Calls P abt #[(Pv x9),(Iv i72)] w70 fun e74 w73=>∃ x75:Int,∃ x76:Int,∃ x77:Int,∃ x78:Int,∃ x79:Int,∃ x80:Int,∃ x81:Int,∃ x82:Bool,∃ x83:Bool,∃ x84:Int,e74= .returned (.tuple #[(.agg #[(Iv x75),(Iv x76),(Iv x77),(Iv x78),(Iv x79),(Iv x80),(Iv x81),(.bool x82),(.bool x83)]),(Iv x84)])/\Al (.cells #[(Iv 0),(Iv 0),(Iv 0),(Iv 0),(Iv 0),(Iv 0),(Iv 0),(.bool false),(.bool false)] 38) (fun p85 w86=>StN [(Iv x75),(Iv x76),(Iv x77),(Iv x78),(Iv x79),(Iv x80),(Iv x81),(.bool x82),(.bool x83)] p85 (fun w87=>bif (x84 !=0) then (K (.bool false) w87) else (∃ x88,w87.cell? (p85.add 2)=some (Iv x88)/\bif (!((x88==2)==(i72==want64))) then (K (.bool false) w87) else ((I68 (IntKind.i64.wrap (i72+1)) w87/\M69 (IntKind.i64.wrap (i72+1)) w87<M69 i72 w70)))) w86) w73) else (bif x3 then (K (.bool x67) w70) else (K (.bool false) w70)))))))))
theorem al0 (n:Int) (touch:Sl) (ages:Int) (h:ahk n touch ages K w):Calls P aaS #[(Iv n),(Sv touch),(Iv ages)] w (Ret K):=ofVc (A:=alx) Tryz.func3 (by kernel_rfl) (by kernel_rfl) h
end Go.Mp
end
section
set_option maxRecDepth 100000
namespace Go.Proofs.YtkjijachkcmelaaGreatDoor
open Go Go.Vc Go.Sp Go.Mp Go.RowKit Go.ChangeShapes
theorem aDX {α:Type} {a:Array α} (h:a.size=3):∃ x0 x1 x2,a= #[x0,x1,x2]:=by
 obtain ⟨l⟩:=a
 match l,h with
 | [x0,x1,x2],_=>exact ⟨x0,x1,x2,rfl⟩
end Go.Proofs.YtkjijachkcmelaaGreatDoor
end
section
set_option maxRecDepth 100000
namespace Go.Kc
open Go Go.Kt Go.Sp
variable {S:Cs}
namespace By
variable {n:Nat} {X t:List UInt8} {i j:Int}
theorem abz (h:X.length=16*n) (hi:0<=i) (hj:0<=j) (hne:i≠j):rd n (wr n X i t).1 j=rd n X j:=by
 unfold rd
 by_cases hp:pg n j
 ·rw [if_pos hp,if_pos hp]
  congr 1
  unfold wr
  split
  ·next hh=>
   apply List.ext_getElem?
   intro k
   by_cases hk:k<16
   ·rw [aaV hk,aaV hk,acx h hh.1 hh.2,if_neg (by omega)]
   ·rw [List.getElem?_eq_none (by unfold pgAt;simp;omega),List.getElem?_eq_none (by unfold pgAt;simp;omega)]
  ·rfl
 ·rw [if_neg hp,if_neg hp]
theorem acn (h:X.length=16*n) (hp:pg n i) (ht:t.length=16):rd n (wr n X i t).1 i=(t,0):=by
 unfold rd
 rw [if_pos hp]
 congr 1
 unfold wr
 rw [if_pos ⟨hp,ht⟩]
 apply List.ext_getElem?
 intro k
 by_cases hk:k<16
 ·rw [aaV hk,acx h hp ht,if_pos (by omega),Nat.add_sub_cancel_left]
 ·rw [List.getElem?_eq_none (by unfold pgAt;simp;omega),List.getElem?_eq_none (by omega)]
theorem aeX (h:X.length=16*n) (hi:0<=i) (hj:0<=j) (hne:i≠j):rd n (cl n X i).1 j=rd n X j:=abz h hi hj hne
theorem aeY {a:Int} {b:UInt8} (hi:0<=i) (hj:0<=j) (hne:i≠j):rd n (pt n X i a b).1 j=rd n X j:=by
 unfold rd
 by_cases hp:pg n j
 ·rw [if_pos hp,if_pos hp]
  congr 1
  unfold pt
  split
  ·next hh=>
   apply List.ext_getElem?
   intro k
   by_cases hk:k<16
   ·rw [aaV hk,aaV hk,List.getElem?_set_ne (by omega)]
   ·rw [List.getElem?_eq_none (by unfold pgAt;simp;omega),List.getElem?_eq_none (by unfold pgAt;simp;omega)]
  ·rfl
 ·rw [if_neg hp,if_neg hp]
theorem awX {a:Int} (h:X.length=16*n) (hp:pg n i) (ha:0<=a/\a<16):gt n X i a=((rd n X i).1.getD a.toNat 0,0):=by
 have:=h
 unfold gt rd
 rw [if_pos ⟨hp,ha.1,ha.2⟩,if_pos hp]
 congr 1
 rw [List.getD_eq_getElem?_getD,List.getD_eq_getElem?_getD,aaV (by omega)]
theorem abR (h:X.length=16*n) (hp:pg n i):(rd n X i).1.length=16:=by
 unfold rd
 rw [if_pos hp]
 exact aeJ h hp
end By
structure Went (S:Cs) (id:Int) (p:Pg) (S':Cs):Prop where
 fr:S'.fr=S.fr.give p.at_ (aac S.tree p.owner)
 oth:∀ x,x≠id ->S'.pages.pg x=S.pages.pg x
 how:(0<=p.kf/\S'.sl=S.sl)\/(p.kf<0/\S'.files=S.files/\∃ a:Nat,S.sl.pool[a]? =some false/\(∀ g∈aac S.tree p.owner,cUse S.sl.used g+1<=aab S.sl.used g)/\
  S'.sl=⟨S.sl.pool.set a true,(By.wr S.sl.pool.length S.sl.by_ a (S.text p)).1,cAdd S.sl.used (aac S.tree p.owner) 1⟩/\S'.pages.pg id=some (p.to 2 a))
theorem acJ (h:Inv S) {id:Int} {p:Pg} (hp:S.pages.pg id=some p) (h1:p.place=1) (ho:(S.out id).2=true):Went S id p (S.out id).1:=by
 have _:=h1
 unfold Cs.out at ho ⊢
 rw [h.page hp] at ho ⊢
 dsimp only at ho ⊢
 by_cases hk:0<=p.kf
 ·rw [if_pos hk]
  dsimp only
  obtain ⟨q,hq,e1,e2,e3,e4,e5,e6⟩:=agu id p p hp
  obtain ⟨c1,c2,c3,c4,c5,c6,c7⟩:=adW (S:=S) id p
  have hcl:=h.clean id p
  rw [hcl.put0 hq]
  refine ⟨?_,fun x hx=> ?_,.inl ⟨hk,c3⟩⟩
  ·show (S.clean id p).fr.give p.at_ (S.chain p.owner)=_
   rw [c2];rfl
  ·show ((S.clean id p).pages.putT id q 0 0).pg x=_
   rw [abB,if_neg hx]
   unfold Cs.clean
   split
   ·show (S.pages.mark id false).1.pg x=_
    rw [(abv _ _ _).2.2.2]
    cases S.pages.pg x with
    | none=>rfl
    | some r=>show some (if x=id then _ else r)=_;rw [if_neg hx]
   ·rfl
 ·rw [if_neg hk] at ho ⊢
  split at ho
  ·next hw=>
   rw [if_pos hw]
   dsimp only
   unfold Cs.away at hw ⊢
   split at hw
   ·cases hw
   next hany=>
   rw [if_neg hany]
   dsimp only at hw ⊢
   split at hw
   ·cases hw
   next hf=>
   rw [if_neg hf]
   dsimp only
   obtain ⟨a,ha,_,he⟩:=agM (by simpa using hf)
   rw [he]
   dsimp only
   have hlive:=h.own _ _ hp
   have hlim:∀ g∈aac S.tree p.owner,cUse S.sl.used g+1<=aab S.sl.used g:=by
    intro g hg
    have:=(not_exists.1 (fun hh=>hany (List.any_eq_true.2 hh))) g
    simp only [decide_eq_true_eq,not_and,Int.not_le] at this
    have:=this hg
    omega
   have htry:cTry S.sl.used (S.chain p.owner) 1=(cAdd S.sl.used (aac S.tree p.owner) 1, -1,0):=by
    by_cases h0:(cTry S.sl.used (S.chain p.owner) 1).2.2=0
    ·exact (afN h0).2.1
    ·obtain ⟨g,hg,_,_,hlt⟩:=aeO (acW h.wf hlive ⟨by decide,by decide⟩) h0
     have:=hlim g hg;omega
   rw [htry]
   have hnf:∀ q id',S.pages.pg id'=some q ->q.place=2 ->q.at_=(a:Int) ->(2:Int)≠0 ->id'=id:=by
    intro q id' hq e1 e2 _
    have:=(h.sl.taken a).2 ⟨id',q,hq,e1,e2⟩
    rw [ha] at this;cases this
   rw [h.tab.put_eq hp ⟨by decide,by decide,by omega,fun hh=>absurd hh (by decide)⟩ hnf]
   refine ⟨rfl,fun x hx=>upd_ne _ _ hx,.inr ⟨by omega,rfl,a,ha,hlim,?_,ac8 _ _ _⟩⟩
   show (⟨_,(By.wr (S.sl.pool.set a true).length _ _ _).1,_⟩:Store)=_
   rw [List.length_set]
  ·cases ho
def Has (S:Cs) (id:Int) (t:List UInt8):Prop:=∃ p,S.pages.pg id=some p/\p.kf<0/\0<p.refs/\S.text p=t
theorem Has.lt (h:Inv0 S) {id:Int} {t:List UInt8} (H:Has S id t):id<S.pages.next:=by
 obtain ⟨p,hp,_⟩:=H
 exact (h.tab.ids _ _ hp).2
variable {S':Cs} {id:Int} {t:List UInt8}
theorem aaW {p:Pg} (h1:p.place=1):S.text p=(By.rd S.fr.pool.length S.fr.by_ p.at_).1:=by unfold Cs.text;rw [if_pos h1]
theorem aa4 {p:Pg} (h1:p.place=2):S.text p=(By.rd S.sl.pool.length S.sl.by_ p.at_).1:=by unfold Cs.text;rw [if_neg (by omega),if_pos h1]
theorem abQ (h:Inv S) {p:Pg} (hp:S.pages.pg id=some p) (hk:p.kf<0):p.place=1\/p.place=2:=by
 have h1:=(h.tab.pl _ _ hp).1
 have h2:=h.anon _ _ hp hk
 omega
theorem abI {pl:Int} {s:Store} (hs:aa8 S.pages S.tree s pl) {p:Pg} (hp:S.pages.pg id=some p) (h1:p.place=pl) (ha:0<=p.at_):By.pg s.pool.length p.at_/\s.pool[p.at_.toNat]? =some true:=by
 have:=(hs.taken p.at_.toNat).2 ⟨id,p,hp,h1,by omega⟩
 have hlt:=(List.getElem?_eq_some_iff.1 this).1
 exact ⟨⟨ha,by omega⟩,this⟩
theorem Has.keep (h:Inv S) (H:Has S id t) (hpg:∀ p,S.pages.pg id=some p ->p.kf<0 ->0<p.refs ->∃ q,S'.pages.pg id=some q/\q.kf=p.kf/\q.refs=p.refs/\q.place=p.place/\q.at_=p.at_)
  (hfr:∀ p,S.pages.pg id=some p ->p.place=1 ->By.rd S'.fr.pool.length S'.fr.by_ p.at_=By.rd S.fr.pool.length S.fr.by_ p.at_)
  (hsl:∀ p,S.pages.pg id=some p ->p.place=2 ->By.rd S'.sl.pool.length S'.sl.by_ p.at_=By.rd S.sl.pool.length S.sl.by_ p.at_):Has S' id t:=by
 obtain ⟨p,hp,hk,hr,ht⟩:=H
 obtain ⟨q,hq,e1,e2,e3,e4⟩:=hpg p hp hk hr
 refine ⟨q,hq,by rw [e1];exact hk,by rw [e2];exact hr,?_⟩
 rcases abQ h hp hk with e | e
 ·rw [aaW (by rw [e3,e]),e4,hfr p hp e,<- aaW e];exact ht
 ·rw [aa4 (by rw [e3,e]),e4,hsl p hp e,<- aa4 e];exact ht
theorem Has.len (h:Inv S) (H:Has S id t):t.length=16:=by
 obtain ⟨p,hp,hk,hr,ht⟩:=H
 have h1:=(h.tab.pl _ _ hp).1
 rw [<- ht]
 rcases abQ h hp hk with e | e
 ·rw [aaW e];exact By.abR h.fr.len (abI h.fr hp e h1.2.2.1).1
 ·rw [aa4 e];exact By.abR h.sl.len (abI h.sl hp e h1.2.2.1).1
theorem abC {n:Nat} {s:Store} {a b:Int} {ch:List Int} (hn:n=s.pool.length) (h:s.by_.length=16*s.pool.length) (ha:0<=a) (hb:0<=b) (hne:a≠b):By.rd (s.give a ch).pool.length (s.give a ch).by_ b=By.rd n s.by_ b:=by
 subst hn
 show By.rd (afa s.pool a).1.length (By.cl s.pool.length s.by_ a).1 b=_
 rw [aal]
 exact By.aeX h ha hb hne
theorem Has.went (h:Inv S) (H:Has S id t) {x:Int} {p:Pg} (hp:S.pages.pg x=some p) (h1:p.place=1) (hS:Went S x p S'):Has S' id t:=by
 have hat:=(h.tab.pl _ _ hp).1.2.2.1
 by_cases hx:id=x
 ·subst hx
  obtain ⟨p',hp',hk,hr,ht⟩:=H
  rw [hp] at hp'
  cases hp'
  rcases hS.how with ⟨hk',_⟩ | ⟨_,_,a,ha,_,hsl,hpg⟩
  ·omega
  ·refine ⟨_,hpg,hk,hr,?_⟩
   have hal:=(List.getElem?_eq_some_iff.1 ha).1
   rw [aa4 rfl,hsl]
   show (By.rd (S.sl.pool.set a true).length (By.wr S.sl.pool.length S.sl.by_ a (S.text p)).1 (a:Int)).1=t
   rw [List.length_set,By.acn h.sl.len ⟨by omega,by omega⟩ (Has.len h ⟨p,hp,hk,hr,rfl⟩)]
   exact ht
 ·refine H.keep h (fun q hq _ _=>⟨q,by rw [hS.oth _ hx];exact hq,rfl,rfl,rfl,rfl⟩) (fun q hq e=> ?_) (fun q hq e=> ?_)
  ·have hqa:=(h.tab.pl _ _ hq).1.2.2.1
   rw [hS.fr]
   exact abC rfl h.fr.len hat hqa (fun e2=>hx (h.tab.one hp hq (by omega) (by omega) e2.symm))
  ·rcases hS.how with ⟨_,hsl⟩ | ⟨_,_,a,ha,_,hsl,_⟩
   ·rw [hsl]
   ·have hqa:=(h.tab.pl _ _ hq).1.2.2.1
    have hta:=(abI h.sl hq e hqa).2
    rw [hsl]
    show By.rd (S.sl.pool.set a true).length _ _=_
    rw [List.length_set]
    exact By.abz h.sl.len (by omega) hqa (fun e2=>by
     rw [<- e2,Int.toNat_natCast,ha] at hta;cases hta)
theorem Has.outs (H:Has S id t) (h:Inv S) (ho:Outs S S'):Has S' id t:=by
 induction ho with
 | refl S=>exact H
 | step hp h1 h2 _ ih=>exact ih (Has.went h H hp h1 (acJ h hp h1 h2)) (h.out hp h1)
theorem Has.framed (h:Inv S) (H:Has S id t) {a:Nat} (ha:S.fr.pool[a]? =some false) {text:List UInt8} (hpg:S'.pages.pg id=S.pages.pg id) (hpo:S'.fr.pool.length=S.fr.pool.length) (hby:S'.fr.by_=(By.wr S.fr.pool.length S.fr.by_ a text).1)
  (hsl:∀ p,S.pages.pg id=some p ->p.place=2 ->By.rd S'.sl.pool.length S'.sl.by_ p.at_=By.rd S.sl.pool.length S.sl.by_ p.at_):Has S' id t:=by
 refine H.keep h (fun p hp _ _=>⟨p,by rw [hpg];exact hp,rfl,rfl,rfl,rfl⟩) (fun p hp e=> ?_) hsl
 have hpa:=(h.tab.pl _ _ hp).1.2.2.1
 have hta:=(abI h.fr hp e hpa).2
 rw [hpo,hby]
 exact By.abz h.fr.len (by omega) hpa (fun e2=>by rw [<- e2,Int.toNat_natCast,ha] at hta;cases hta)
theorem Has.withT (h:Inv S) (hn:S.pages.next<16777216) (H:Has S id t) {g:Int} (hl:S.live g=true) (text:List UInt8):Has (S.withT g text).1 id t:=by
 rcases acb h hn hl text with ⟨S0,a,k,he,_,hpg⟩ | ⟨S0,t',k,he⟩
 ·have h0:=k.outs.inv h
  have H0:=H.outs h k.outs
  have hid:id≠S.pages.next:=by have:=H.lt h.toInv0;omega
  refine H0.framed h0 k.free (text:=text) (by rw [hpg,if_neg hid]) ?_ ?_ (fun p _ _=> ?_)
  ·rw [he];show (S0.fr.pool.set a true).length=_;rw [List.length_set]
  ·rw [he]
   show (By.wr (S0.fr.pool.set a true).length S0.fr.by_ a text).1=_
   rw [List.length_set]
  ·rw [he];rfl
 ·rw [he];exact H.outs h k.outs
theorem Has.fresh (h:Inv S) (hn:S.pages.next<16777216) (H:Has S id t) (g:Int):Has (S.fresh g).1 id t:=by
 unfold Cs.fresh
 split
 ·exact H
 ·next hl=>exact H.withT h hn (by simpa using hl) _
theorem Has.same (h:Inv S) (H:Has S id t) (h1:S'.pages.pg id=S.pages.pg id) (h2:S'.fr.pool.length=S.fr.pool.length/\S'.fr.by_=S.fr.by_) (h3:S'.sl.pool.length=S.sl.pool.length/\S'.sl.by_=S.sl.by_):Has S' id t:=
 H.keep h (fun p hp _ _=>⟨p,by rw [h1];exact hp,rfl,rfl,rfl,rfl⟩) (fun p _ _=>by rw [h2.1,h2.2]) (fun p _ _=>by rw [h3.1,h3.2])
end Go.Kc
end
section
set_option maxRecDepth 100000
namespace Go.Kc
open Go Go.Kt Go.Sp
variable {S S':Cs} {id:Int} {t:List UInt8}
theorem Has.get (h:Inv S) (H:Has S id t) (x a:Int):Has (S.get x a).1 id t:=by
 unfold Cs.get
 dsimp only
 split
 ·exact H
 ·dsimp only
  split
  ·exact H.same h rfl ⟨rfl,rfl⟩ ⟨rfl,rfl⟩
  ·exact H
theorem aeg {x:Int} (hh:(S.here x).2=true):∃ p,S.pages.pg x=some p/\p.place=1/\(S.here x).1=p.at_:=by
 unfold Cs.here TS.get at hh
 cases hp:S.pages.pg x with
 | none=>rw [hp] at hh;simp at hh
 | some p=>
  rw [hp] at hh
  refine ⟨p,rfl,by simpa using hh,?_⟩
  unfold Cs.here TS.get;rw [hp]
theorem Has.put (h:Inv S) (H:Has S id t) {x:Int} (hx:x≠id) (a:Int) (b:UInt8):Has (S.put x a b).1 id t:=by
 unfold Cs.put
 dsimp only
 split
 ·exact H
 ·next hh=>
  have hh:(S.here x).2=true:=by simpa using hh
  obtain ⟨p,hp,h1,he⟩:=aeg hh
  split
  ·have hat:=(h.tab.pl _ _ hp).1.2.2.1
   refine H.keep h (fun q hq _ _=>⟨q,?_,rfl,rfl,rfl,rfl⟩) (fun q hq e=> ?_) (fun q _ _=>rfl)
   ·show (S.pages.mark x true).1.pg id=_
    rw [(abv _ _ _).2.2.2,hq]
    show some (if id=x then _ else q)=_
    rw [if_neg (fun e=>hx e.symm)]
   ·have hqa:=(h.tab.pl _ _ hq).1.2.2.1
    show By.rd S.fr.pool.length (By.pt S.fr.pool.length S.fr.by_ (S.here x).1 a b).1 q.at_=_
    rw [he]
    exact By.aeY hat hqa (fun e2=>hx (h.tab.one hq hp (by omega) (by omega) e2))
  ·exact H
theorem akn (h:Inv S) {p:Pg} (hp:S.pages.pg id=some p) (h1:p.place=1) {a:Int} (ha:0<=a/\a<16):S.get id a=({S with gens:=(abZ S.gens id).1},(((S.text p).getD a.toNat 0).toNat:Int),0):=by
 have hat:=(h.tab.pl _ _ hp).1.2.2.1
 have hpg:=(abI h.fr hp h1 hat).1
 have hh:S.here id=(p.at_,true):=by
  unfold Cs.here;rw [h.page hp]
  show (p.at_,(0:Int)==0&&p.place==1)=_
  rw [h1];rfl
 unfold Cs.get
 rw [hh]
 dsimp only
 rw [if_neg (by decide),By.awX h.fr.len hpg ha,aaW h1]
 rfl
end Go.Kc
end
section
set_option maxRecDepth 100000
namespace Go.Kc
open Go Go.Kt Go.Sp
def ag (n:Nat):Nat ->Cs
 | 0=>Kc.new n n []
 | k+1=>((ag n k).fresh 0).1
def agOk (n:Nat):Bool:=
 ((ag n n).gens.map fun e=>(e.id,e.group,e.age))==((List.range n).map fun i:Nat=>((i:Int),(0:Int),(0:Int)))&&((ag n n).live 0&&(abe (ag n n).tree 0== [0]&&
 (!bAt ((ag n n).held 0 aaz.min) 0&&(!bAt ((ag n n).held 0 aaz.low) 0&&(List.range n).all fun i:Nat=>((ag n n).pages.get i).1.owner==0&&
  (((ag n n).out i).2&&(List.range n).all fun j:Nat=>(((ag n n).out i).1.pages.get j).2==0&&((((ag n n).out i).1.pages.get j).1.place==2)==decide (j=i))))))
theorem aHV:((List.range 19).all fun m=>agOk (m+2))=true:=by decide+kernel
theorem aG3 {n:Nat} (h1:2<=n) (h2:n<=20):agOk n=true:=by
 have:=List.all_eq_true.1 aHV (n - 2) (List.mem_range.2 (by omega))
 rwa [show n - 2+2=n by omega] at this
variable {S:Cs}
theorem aEg (h:Inv S) (hn:S.pages.next<16777216) (g:Int):(S.fresh g).1.pages.next<=S.pages.next+1:=by
 unfold Cs.fresh
 split
 ·show S.pages.next<=_;omega
 ·next hl=>exact (ajL h hn (by simpa using hl) _).2
theorem aAH (n:Nat):∀ k:Nat,k<=1000 ->Inv (ag n k)/\(ag n k).pages.next<=k
 | 0,_=>⟨Inv.new n n [],Int.le_refl _⟩
 | k+1,h=>by
  obtain ⟨h1,h2⟩:=aAH n k (by omega)
  refine ⟨h1.fresh (by omega) 0,?_⟩
  have:=aEg h1 (by omega) 0
  show ((ag n k).fresh 0).1.pages.next<=_
  omega
def ageR (n:Nat) (a:Int) (y:List Bool):List Ent:=(List.range n).map fun i:Nat=>⟨i,0,if y.getD i false=true then 0 else a⟩
theorem aqS (n:Nat) (a:Int) (m:Nat):ageR n a (List.replicate m false)=(List.range n).map fun i:Nat=>⟨i,0,a⟩:=by
 unfold ageR
 apply List.map_congr_left
 intro i _
 rw [List.getD_eq_getElem?_getD,List.getElem?_replicate]
 by_cases h:i<m<;>simp [h]
theorem aGf {n m:Nat} {a:Int} (ha:0<=a/\a<=2):(abn (ageR n a (List.replicate m false)) [0]).1=ageR n (a+1) (List.replicate m false):=by
 rw [aqS,aqS]
 show ((List.range n).map fun i:Nat=>(⟨i,0,a⟩:Ent)).map (chg 0 adV)=_
 rw [List.map_map]
 apply List.map_congr_left
 intro i _
 show chg 0 adV ⟨(i:Int),0,a⟩=_
 unfold chg
 rw [if_pos rfl]
 show (⟨(i:Int),0,Go.Vc.min1 (IntKind.i64.wrap (a+1)) 3⟩:Ent)=_
 rw [Go.Sp.w64 (n:=a+1) (by omega) (by omega)]
 have:Go.Vc.min1 (a+1) 3=a+1:=by unfold Go.Vc.min1;split<;>omega
 rw [this]
theorem aDW {n:Nat} {a:Int} {y:List Bool} (hy:y.length=n) {i:Nat} (hi:i<n):(abZ (ageR n a y) i).1=ageR n a (y.set i true):=by
 have hf:(fnd (ageR n a y) (i:Int)).isSome=true:=by
  unfold fnd
  rw [List.find?_isSome]
  exact ⟨_,List.mem_map.2 ⟨i,List.mem_range.2 hi,rfl⟩,by simp⟩
 unfold abZ
 rw [if_pos hf]
 unfold ageR
 dsimp only
 rw [List.map_map]
 apply List.map_congr_left
 intro j hj
 have hj:=List.mem_range.1 hj
 dsimp only [Function.comp]
 rw [List.getD_eq_getElem?_getD,List.getD_eq_getElem?_getD,List.getElem?_set]
 by_cases e:i=j
 ·subst e
  have h1:i<y.length:=by omega
  simp [h1]
 ·have h1:¬ ((j:Int)=(i:Int)):=by omega
  simp [h1,e]
def aBB (n:Nat) (y:List Bool) (w:Nat):Prop:=w<n/\((y.getD w false=false/\∀ j,j<w ->y.getD j false=true)\/(w=0/\∀ j,j<n ->y.getD j false=true))
theorem anJ {α:Type} {f:α ->Bool} :∀ {l:List α} {k:Nat} {x:α},l[k]? =some x ->f x=true ->(∀ (j:Nat) z,j<k ->l[j]? =some z ->f z=false) ->∃ r,l.filter f=x::r
 | [],_,_,h,_,_=>by cases h
 | z::l,0,x,h,h1,_=>by
  cases h
  exact ⟨_,List.filter_cons_of_pos h1⟩
 | z::l,k+1,x,h,h1,h2=>by
  rw [List.filter_cons_of_neg (by rw [h2 0 z (by omega) rfl];decide)]
  exact anJ (l:=l) (k:=k) h h1 (fun j u hj hu=>h2 (j+1) u (by omega) hu)
theorem aEq {n:Nat} {a:Int} (ha:1<=a/\a<=3) {y:List Bool} {w:Nat} (hw:aBB n y w):∃ r,ab6 (ageR n a y) [0]=(w:Int)::r:=by
 obtain ⟨F,hF⟩:∃ F:Int ->List Int,F=fun a':Int=>(((ageR n a y).filter fun e=> [(0:Int)].contains e.group&&e.age==a').map Ent.id):=⟨_,rfl⟩
 have hFe:∀ b,F b=((List.range n).filter fun i:Nat=>(if y.getD i false=true then (0:Int) else a)==b).map Int.ofNat:=by
  intro b
  rw [hF]
  unfold ageR
  dsimp only
  rw [List.filter_map,List.map_map]
  congr 1
 have ho:ab6 (ageR n a y) [0]=F 3++(F 2++(F 1++F 0)):=by
  rw [hF];unfold ab6;simp
 have hno:∀ b,b≠0 ->b≠a ->F b= []:=by
  intro b h1 h2
  rw [hFe,List.filter_eq_nil_iff.2]
  ·rfl
  ·intro i _
   simp only [beq_iff_eq]
   split
   ·exact fun e=>h1 e.symm
   ·exact fun e=>h2 e.symm
 have hgo:ab6 (ageR n a y) [0]=F a++F 0:=by
  rw [ho]
  have:a=1\/a=2\/a=3:=by omega
  rcases this with rfl | rfl | rfl
  ·rw [hno 3 (by decide) (by decide),hno 2 (by decide) (by decide)];rfl
  ·rw [hno 3 (by decide) (by decide),hno 1 (by decide) (by decide)];rfl
  ·rw [hno 2 (by decide) (by decide),hno 1 (by decide) (by decide)];simp
 rw [hgo]
 obtain ⟨hwn,hc⟩:=hw
 rcases hc with ⟨h1,h2⟩ | ⟨rfl,h2⟩
 ·obtain ⟨r,hr⟩:=anJ (l:=List.range n) (f:=fun i:Nat=>(if y.getD i false=true then (0:Int) else a)==a) (k:=w) (x:=w) (by simp [hwn]) (by show ((if y.getD w false=true then (0:Int) else a)==a)=true;rw [h1];simp) (fun j z hj hz=>by
   have hjn:j<n:=by omega
   simp only [List.getElem?_range hjn,Option.some.injEq] at hz
   subst hz
   show ((if y.getD j false=true then (0:Int) else a)==a)=false
   rw [h2 j hj,if_pos rfl,beq_eq_false_iff_ne];omega)
  rw [hFe a,hr]
  exact ⟨_,rfl⟩
 ·have e:F a= []:=by
   rw [hFe,List.filter_eq_nil_iff.2]
   ·rfl
   ·intro i hi
    rw [h2 i (List.mem_range.1 hi)]
    simp;omega
  obtain ⟨r,hr⟩:=anJ (l:=List.range n) (f:=fun i:Nat=>(if y.getD i false=true then (0:Int) else a)==0) (k:=0) (x:=0) (by simp [hwn]) (by show ((if y.getD 0 false=true then (0:Int) else a)==0)=true;rw [h2 0 hwn];rfl) (fun j z hj _=>by omega)
  rw [e,hFe 0,hr]
  exact ⟨_,rfl⟩
theorem auw (R:List Ent) (w:Int):(({S with gens:=R} :Cs).out w).2=(S.out w).2/\(({S with gens:=R} :Cs).out w).1.pages=(S.out w).1.pages:=by
 unfold Cs.out
 dsimp only
 by_cases hk:0<=(S.pages.get w).1.kf
 ·rw [if_pos hk,if_pos hk]
  refine ⟨rfl,?_⟩
  unfold Cs.clean
  by_cases hd:0<=(S.pages.get w).1.kf/\(S.pages.get w).1.dirty=true
  ·rw [if_pos hd,if_pos hd];rfl
  ·rw [if_neg hd,if_neg hd];rfl
 ·rw [if_neg hk,if_neg hk]
  unfold Cs.away
  by_cases ha:(S.chain (S.pages.get w).1.owner).any (fun g=>decide (aab S.sl.used g<=cUse S.sl.used g))=true
  ·rw [show (({S with gens:=R} :Cs).chain (S.pages.get w).1.owner)=S.chain (S.pages.get w).1.owner from rfl,if_pos ha,if_pos ha];exact ⟨rfl,rfl⟩
  ·rw [show (({S with gens:=R} :Cs).chain (S.pages.get w).1.owner)=S.chain (S.pages.get w).1.owner from rfl,if_neg ha,if_neg ha]
   dsimp only
   by_cases ht:(abq S.sl.pool).2.2≠0
   ·rw [if_pos ht,if_pos ht];exact ⟨rfl,rfl⟩
   ·rw [if_neg ht,if_neg ht];exact ⟨rfl,rfl⟩
theorem aEM {n:Nat} (h1:2<=n) (h2:n<=20) {a:Int} (ha:1<=a/\a<=3) {y:List Bool} {w:Nat} (hw:aBB n y w):
  (({ag n n with gens:=ageR n a y} :Cs).evict 0).2=true/\∀ j,j<n ->((({ag n n with gens:=ageR n a y} :Cs).evict 0).1.pages.get (j:Int)).2=0/\
   (((({ag n n with gens:=ageR n a y} :Cs).evict 0).1.pages.get (j:Int)).1.place=2↔j=w):=by
 have hok:=aG3 h1 h2
 unfold agOk at hok
 simp only [Bool.and_eq_true,Bool.not_eq_true',beq_iff_eq] at hok
 obtain ⟨_,hl,hb,hm,hlo,hall⟩:=hok
 have hall:=List.all_eq_true.1 hall w (List.mem_range.2 hw.1)
 simp only [Bool.and_eq_true,beq_iff_eq] at hall
 obtain ⟨hown,hout,hpg⟩:=hall
 obtain ⟨r,hr⟩:=aEq ha hw
 obtain ⟨T,hT⟩:∃ T:Cs,T= {ag n n with gens:=ageR n a y} :=⟨_,rfl⟩
 have o1:=(auw (S:=ag n n) (ageR n a y) (w:Int)).1
 have o2:=(auw (S:=ag n n) (ageR n a y) (w:Int)).2
 rw [<- hT] at o1 o2 ⊢
 have he:T.evict 0=((T.out w).1,true):=by
  unfold Cs.evict Cs.evictG
  rw [if_neg (by rw [hT];show ¬ (ag n n).live 0=false;rw [hl];decide)]
  have e1:T.held 0 aaz.min=(ag n n).held 0 aaz.min:=by rw [hT];rfl
  have e2:T.held 0 aaz.low=(ag n n).held 0 aaz.low:=by rw [hT];rfl
  have e3:abe T.tree 0= [0]:=by rw [hT];exact hb
  have e4:ab6 T.gens [0]=(w:Int)::r:=by rw [hT];exact hr
  have e5:(T.pages.get (w:Int)).1.owner=0:=by rw [hT];exact hown
  dsimp only
  rw [e1,e2,e3,e4]
  unfold pass
  dsimp only
  rw [e5,hm,hlo]
  simp only [Bool.or_self,Bool.false_eq_true,if_false]
  rw [o1,hout]
  rfl
 rw [he]
 refine ⟨rfl,fun j hj=> ?_⟩
 have:=List.all_eq_true.1 hpg j (List.mem_range.2 hj)
 simp only [Bool.and_eq_true,beq_iff_eq] at this
 rw [o2]
 refine ⟨this.1,?_⟩
 have h3:=this.2
 rw [Bool.eq_iff_iff,beq_iff_eq,decide_eq_true_eq] at h3
 exact h3
theorem aDg {n:Nat} (h1:2<=n) (h2:n<=20) (m:Nat):(ag n n).gens=ageR n 0 (List.replicate m false)/\abe (ag n n).tree 0= [0]:=by
 have hok:=aG3 h1 h2
 unfold agOk at hok
 simp only [Bool.and_eq_true,beq_iff_eq] at hok
 obtain ⟨hg,_,hb,_⟩:=hok
 refine ⟨?_,hb⟩
 rw [aqS]
 have inj:∀ (l l':List Ent),(l.map fun e=>(e.id,e.group,e.age))=(l'.map fun e=>(e.id,e.group,e.age)) ->l=l':=by
  intro l
  induction l with
  | nil=>intro l' h;cases l' with
   | nil=>rfl
   | cons _ _=>cases h
  | cons e l ih=>intro l' h;cases l' with
   | nil=>cases h
   | cons e' l'=>
    rw [List.map_cons,List.map_cons,List.cons.injEq] at h
    obtain ⟨a,b,c⟩:=e
    obtain ⟨a',b',c'⟩:=e'
    simp only [Prod.mk.injEq] at h
    obtain ⟨⟨rfl,rfl,rfl⟩,h2⟩:=h
    rw [ih l' h2]
 refine inj _ _ ?_
 rw [hg,List.map_map]
 rfl
end Go.Kc
end
section
set_option maxRecDepth 100000
namespace Go.Mp
open Go Go.Vc Go.Sp Go.Proofs Go.Kc
variable {E:Env} {L:List Asn} {w:World} {A:At} {S:Cs}
def alS (W:World) (s:Sl) (l:List Int):Prop:=s.n=l.length/\s.n<=s.c/\∀ (i:Nat) x,l[i]? =some x ->∃ a,s.p=some a/\W.cell? (a.add i)=some (.int .i64 x)
theorem alS.ints {W:World} {s:Sl} {l:List Int} {q:Nat} (h:alS W s l) (hq:L[q]? =some (tabA W.heap)):Ints E L s l:=by
 refine ⟨h.1,fun w hs i x hx=> ?_⟩
 obtain ⟨a,hp,hc⟩:=h.2.2 i x hx
 exact ⟨a,hp,oldT hs hq hc⟩
theorem ayb {W:World} {v:Value} (h:Rd P W adv [v]):∃ (s:Sl) (l:List Int),v= .slice s.p s.n s.c/\alS W s l:=by
 obtain ⟨p,n,c,rfl,hnc,_,hi⟩:=h.slice1 (e:=adJ) (by kernel_rfl)
 have key:∀ i,i<n ->∃ x:Int,∃ a,p=some a/\W.cell? (a.add i)=some (.int .i64 x):=by
  intro i hlt
  obtain ⟨a,es,rfl,hl,hc,hr⟩:=hi i hlt
  have h5:P.cellsOf adJ=1:=by kernel_rfl
  rw [h5] at hc hl
  match es,hl,hr with
  | [v0],_,hr=>
  obtain ⟨k,rfl,_⟩:=hr.int1 (k:= .i64) (by kernel_rfl)
  refine ⟨k,a,rfl,?_⟩
  have:=hc 0 (by omega)
  rw [Nat.mul_one,Addr.add,Addr.add] at this
  simpa [Addr.add] using this
 obtain ⟨xs,hl,hx⟩:=ayp key
 exact ⟨⟨p,n,c⟩,xs,rfl,hl.symm,hnc,hx⟩
abbrev agS (n:Nat) (a:Int) (y:List Bool):Cs:= {ag n n with gens:=ageR n a y}
theorem aAG {n:Nat} (h1:2<=n) (h2:n<=20) (m:Nat):agS n 0 (List.replicate m false)=ag n n:=by
 unfold agS
 rw [<- (aDg h1 h2 m).1]
theorem aHj {n m:Nat} (h1:2<=n) (h2:n<=20) {a:Int} (ha:0<=a/\a<=2):((agS n a (List.replicate m false)).age 0).1=agS n (a+1) (List.replicate m false):=by
 unfold Cs.age agS
 dsimp only
 rw [(aDg h1 h2 m).2,aGf ha]
theorem aHk {n:Nat} {a:Int} {y:List Bool} (hy:y.length=n) (I:Kc.Inv (agS n a y)) {i:Nat} (hi:i<n):((agS n a y).get i 0).1=agS n a (y.set i true):=by
 obtain ⟨p,hp,h1,_⟩:=(I.gen (i:Int) 0).1 ⟨_,List.mem_map.2 ⟨i,List.mem_range.2 hi,rfl⟩,rfl,rfl⟩
 rw [akn I hp h1 (a:=0) ⟨by decide,by decide⟩]
 show {ag n n with gens:=(abZ (ageR n a y) i).1} =_
 rw [aDW hy hi]
theorem aEl {W:World} {n ages:Int} {ts:Sl} {tl:List Int} (hT:alS W ts tl) (h:Sep E (tabA W.heap::L) w):
  Calls P aaS #[.int .i64 n,.slice ts.p ts.n ts.c,.int .i64 ages] w (Ret fun v w'=>v= .bool true/\Sep E (tabA W.heap::L) w'):=by
 apply al0
 unfold ahk
 refine use (afP h) ?_
 rintro _ w1 ⟨rfl,h1⟩
 have htn:=hT.1
 refine ⟨_,rfl,bF rfl ⟨fun w'=>(2<=n/\n<=20)/\tl.length<=20/\(1<=ages/\ages<=3)/\Sep E (tabA W.heap::L) w',?_,?_⟩⟩
 ·exact bLt (fun _=>⟨rfl,h1⟩) (fun e1=>bGt (fun _=>⟨rfl,h1⟩) (fun e2=>bGt (fun _=>⟨rfl,h1⟩) (fun e3=>bLt (fun _=>⟨rfl,h1⟩) (fun e4=>bGt (fun _=>⟨rfl,h1⟩) (fun e5=>⟨⟨e1,e2⟩,by omega,⟨e4,e5⟩,h1⟩)))))
 rintro _ w2 ⟨hn,htl,hag,h2⟩
 obtain ⟨N,rfl⟩:∃ N:Nat,n=N:=⟨n.toNat,by omega⟩
 have hN1:2<=N:=by omega
 have hN2:N<=20:=by omega
 refine use (afB (sz:=⟨none,0,0⟩) (l:= []) ⟨rfl,fun _ _ i x hx=>(by simp at hx)⟩ (Nat.le_refl _) h2) ?_
 rintro _ w3 ⟨A,rfl,ho,h3⟩
 have hend:∀ {V:Cs} {w:World} {M:List Asn},Sep E (aaa A V++M) w ->Sep E (tabA W.heap::M) w:=fun hs=>by rw [<- ho];exact ac3 hs
 refine ⟨_,rfl,fun i w'=>∃ k:Nat,i=k/\k<=N/\Sep E (aaa A (ag N k)++L) w',fun i _=>(N - i).toNat,⟨0,rfl,Nat.zero_le _,h3⟩,?_⟩
 rintro _ _ w4 ⟨k,rfl,hk,h4⟩
 refine bLt (fun hlt=> ?_) (fun hge=> ?_)
 ·refine use (afO (g:=0) (aAH N k (by omega)).1 h4) ?_
  rintro _ w5 ⟨rfl,h5⟩
  refine ⟨_,_,_,rfl,?_⟩
  rw [aah (by omega)]
  refine ⟨⟨k+1,rfl,by omega,h5⟩,?_⟩
  show (((N:Nat):Int) - ((k+1:Nat):Int)).toNat<(((N:Nat):Int) - (k:Int)).toNat
  omega
 have hkN:k=N:=by omega
 subst hkN
 have I0:Kc.Inv (agS k 0 (List.replicate k false)):=by rw [aAG hN1 hN2];exact (aAH k k (by omega)).1
 rw [<- aAG hN1 hN2 k] at h4
 refine ⟨fun i w'=>∃ j:Nat,i=j/\(j:Int)<=ages/\Kc.Inv (agS k j (List.replicate k false))/\Sep E (aaa A (agS k j (List.replicate k false))++L) w',fun i _=>(ages - i).toNat,⟨0,rfl,by omega,I0,h4⟩,?_⟩
 rintro _ _ w5 ⟨j,rfl,hj,Ij,h5⟩
 refine bLt (fun hlt=> ?_) (fun hge=> ?_)
 ·have e:=aHj (m:=k) hN1 hN2 (a:=(j:Int)) ⟨by omega,by omega⟩
  have IJ:=Ij.age 0
  refine use (aEU (t:=0) Ij h5) ?_
  rintro _ w6 ⟨rfl,h6⟩
  rw [e] at h6 IJ
  refine ⟨_,rfl,?_⟩
  rw [aah (by omega)]
  refine ⟨⟨j+1,rfl,by omega,IJ,h6⟩,?_⟩
  show (ages - ((j+1:Nat):Int)).toNat<(ages - (j:Int)).toNat
  omega
 have hja:(j:Int)=ages:=by omega
 rw [hja] at Ij h5
 clear hj hge hja
 refine ayY (n:=k) (by omega) h5 (fun sy w6 hsy h6=> ?_)
 have h6:Sep E (aaa A (agS k ages (List.replicate k false))++rowA sy 1 (aak (List.replicate k false))::L) w6:=Sep.inn (Q:=aaa A _) h6
 refine ⟨fun i w'=>∃ (j:Nat) (y:List Bool),i=j/\j<=tl.length/\y.length=k/\Kc.Inv (agS k ages y)/\Sep E (aaa A (agS k ages y)++rowA sy 1 (aak y)::L) w',fun i _=>(tl.length - i).toNat,⟨0,_,rfl,Nat.zero_le _,by simp,Ij,h6⟩,?_⟩
 rintro _ _ w7 ⟨j,y,rfl,hj,hy,Iy,h7⟩
 have hIn:Ints E (aaa A (agS k ages y)++rowA sy 1 (aak y)::L) ts tl:=hT.ints (q:=15) (by rw [<- ho];rfl)
 refine bLt (fun hlt=> ?_) (fun hge=> ?_)
 ·have hjl:j<tl.length:=by omega
  obtain ⟨x,hx⟩:∃ x,tl[j]? =some x:=⟨_,List.getElem?_eq_getElem hjl⟩
  have stay:∀ y' w',y'.length=k ->Kc.Inv (agS k ages y') ->Sep E (aaa A (agS k ages y')++rowA sy 1 (aak y')::L) w' ->(∃ (j':Nat) (y:List Bool),(IntKind.i64.wrap ((j:Int)+1))=(j':Int)/\j'<=tl.length/\y.length=k/\Kc.Inv (agS k ages y)/\Sep E (aaa A (agS k ages y)++rowA sy 1 (aak y)::L) w')/\(((tl.length:Nat):Int) - IntKind.i64.wrap ((j:Int)+1)).toNat<(((tl.length:Nat):Int) - (j:Int)).toNat:=by
   intro y' w' a1 a2 a3
   rw [aah (by omega)]
   exact ⟨⟨j+1,y',rfl,hjl,a1,a2,a3⟩,by omega⟩
  refine ⟨fun b w'=>b=decide (0<=x/\x<k)/\Sep E (aaa A (agS k ages y)++rowA sy 1 (aak y)::L) w',?_,?_⟩
  ·refine hIn.el h7 j rfl hx (bGe (fun e1=> ?_) (fun e1=>⟨?_,h7⟩))
   ·refine hIn.el h7 j rfl hx ⟨decide_eq_decide.2 ⟨fun e=>⟨e1,e⟩,fun e=>e.2⟩,h7⟩
   ·exact (decide_eq_false (fun e=>by omega)).symm
  rintro _ b w8 ⟨rfl,h8⟩
  refine bifI (fun hc=> ?_) (fun _=>stay y w8 hy Iy h8)
  have hc:=of_decide_eq_true hc
  obtain ⟨X,rfl⟩:∃ X:Nat,x=X:=⟨x.toNat,by omega⟩
  refine hIn.el h8 j rfl hx (use (ahW (id:=(X:Int)) (at_:=0) Iy h8) ?_)
  rintro _ w9 ⟨rfl,h9⟩
  have IG:=Iy.get (X:Int) 0
  rw [aHk hy Iy (by omega)] at h9 IG
  refine ⟨_,_,rfl,?_⟩
  have hIn2:Ints E (aaa A (agS k ages (y.set X true))++rowA sy 1 (aak y)::L) ts tl:=hT.ints (q:=15) (by rw [<- ho];rfl)
  refine hIn2.el h9 j rfl hx ?_
  refine aHa (h9.fr 16 rfl) (by rw [hy];exact hsy) (by omega) (by rw [hy];exact hc.2) (fun w10 h10=> ?_)
  rw [Int.toNat_natCast] at h10
  have h10:Sep E (aaa A (agS k ages (y.set X true))++rowA sy 1 (aak (y.set X true))::L) w10:=Sep.put (q:=16) (L:=aaa A (agS k ages (y.set X true))++rowA sy 1 (aak y)::L) rfl h10
  exact stay _ w10 (by rw [List.length_set];exact hy) IG h10
 rw [show IntKind.i64.wrap ((k:Int) - 1)=(k:Int) - 1 from w64 (by omega) (by omega)]
 refine ⟨fun want i w'=>∃ m:Nat,i=(m:Int) - 1/\m<=k/\((want= -1/\∀ q,m<=q ->q<k ->y.getD q false=true)\/∃ v:Nat,want=v/\m<=v/\v<k/\y.getD v false=false/\∀ q,m<=q ->q<v ->y.getD q false=true)/\
  Sep E (aaa A (agS k ages y)++rowA sy 1 (aak y)::L) w',fun _ i _=>(i+1).toNat,⟨k,rfl,Nat.le_refl _,.inl ⟨rfl,fun q a b=>by omega⟩,h7⟩,?_⟩
 rintro _ want _ w8 ⟨m,rfl,hm,hw,h8⟩
 refine bGe (fun hge0=> ?_) (fun hlt0=> ?_)
 ·obtain ⟨m',rfl⟩:∃ m',m=m'+1:=⟨m - 1,by omega⟩
  have hbe:bAt y (((m'+1:Nat):Int) - 1)=y.getD m' false:=by unfold bAt;congr 1;omega
  refine elB 16 h8 rfl (by rw [hy];exact hsy) hge0 (by rw [hy];omega) ?_
  rw [hbe,show IntKind.i64.wrap (((m'+1:Nat):Int) - 1 - 1)=(m':Int) - 1 by rw [w64 (by omega) (by omega)];omega]
  refine bifI (fun hc=> ?_) (fun hc=> ?_)
  ·have hc:y.getD m' false=false:=by simpa using hc
   exact ⟨⟨m',rfl,by omega,.inr ⟨m',by omega,Nat.le_refl _,by omega,hc,fun q a b=>by omega⟩,h8⟩,by show ((m':Int) - 1+1).toNat<(((m'+1:Nat):Int) - 1+1).toNat;omega⟩
  ·have hc:y.getD m' false=true:=by simpa using hc
   refine ⟨⟨m',rfl,by omega,?_,h8⟩,by show ((m':Int) - 1+1).toNat<(((m'+1:Nat):Int) - 1+1).toNat;omega⟩
   rcases hw with ⟨e,hall⟩ | ⟨v,e,hv1,hv2,hv3,hv4⟩
   ·refine .inl ⟨e,fun q a b=> ?_⟩
    rcases Nat.eq_or_lt_of_le a with e2 | e2
    ·rw [<- e2];exact hc
    ·exact hall q e2 b
   ·refine .inr ⟨v,e,by omega,hv2,hv3,fun q a b=> ?_⟩
    rcases Nat.eq_or_lt_of_le a with e2 | e2
    ·rw [<- e2];exact hc
    ·exact hv4 q e2 b
 have hm0:m=0:=by omega
 subst hm0
 refine ⟨fun v w'=>∃ wv:Nat,v=wv/\aBB k y wv/\Sep E (aaa A (agS k ages y)++rowA sy 1 (aak y)::L) w',?_,?_⟩
 ·rcases hw with ⟨rfl,hall⟩ | ⟨v,rfl,hv1,hv2,hv3,hv4⟩
  ·exact bT rfl ⟨0,rfl,⟨by omega,.inr ⟨rfl,fun q hq=>hall q (by omega) hq⟩⟩,h8⟩
  ·exact bF (by simp) ⟨v,rfl,⟨hv2,.inl ⟨hv3,fun q hq=>hv4 q (by omega) hq⟩⟩,h8⟩
 rintro _ _ w9 ⟨wv,rfl,hwant,h9⟩
 have sp:=aEM hN1 hN2 hag hwant
 refine use (aob (t:=0) Iy h9) ?_
 rintro _ w10 ⟨rfl,h10⟩
 obtain ⟨R,hR⟩:∃ R,(agS k ages y).evict 0=R:=⟨_,rfl⟩
 rw [hR] at h10 ⊢
 have sp:R.2=true/\∀ j,j<k ->(R.1.pages.get (j:Int)).2=0/\((R.1.pages.get (j:Int)).1.place=2↔j=wv):=by rw [<- hR];exact sp
 refine ⟨_,rfl,fun i w'=>∃ j:Nat,i=j/\j<=k/\Sep E (aaa A R.1++rowA sy 1 (aak y)::L) w',fun i _=>(k - i).toNat,⟨0,rfl,Nat.zero_le _,h10⟩,?_⟩
 rintro _ _ w11 ⟨j2,rfl,hj2,h11⟩
 refine bLt (fun hlt=> ?_) (fun hge2=>bT rfl ⟨by rw [sp.1],hend h11.cut⟩)
 have hjk:j2<k:=by omega
 obtain ⟨g1,g2⟩:=sp.2 j2 hjk
 refine use (ahX (j2:Int) h11) ?_
 rintro _ w12 ⟨rfl,h12⟩
 obtain ⟨p,hp⟩:∃ p,R.1.pages.get (j2:Int)=p:=⟨_,rfl⟩
 rw [hp] at g1 g2 ⊢
 refine ⟨_,_,_,_,_,_,_,_,_,_,rfl,Al.i h12 (fun b w13 h13=>zst (vs:=p.1.vs) _ h13 rfl (fun w14 h14=>bF (by rw [g1];rfl) (ld h14 0 rfl rfl rfl (bF ?_ ?_))))⟩
 ·have e1:(p.1.place==2)=decide (j2=wv):=by rw [Bool.eq_iff_iff,beq_iff_eq,decide_eq_true_eq];exact g2
  have e2:(((j2:Nat):Int)==((wv:Nat):Int))=decide (j2=wv):=by rw [Bool.eq_iff_iff,beq_iff_eq,decide_eq_true_eq];omega
  rw [e1,e2];simp
 ·rw [aah (by omega)]
  refine ⟨⟨j2+1,rfl,hjk,h14.tail⟩,?_⟩
  show (((k:Nat):Int) - ((j2+1:Nat):Int)).toNat<(((k:Nat):Int) - (j2:Int)).toNat
  omega
end Go.Mp
end
section
set_option maxRecDepth 100000
namespace Go.Proofs.YtkjijachkcmelaaGreatDoor
open Go Go.Vc Go.Sp Go.Mp Go.RowKit Go.ChangeShapes
theorem awx (os:Os) (started:os.Started) (H:Type) (enc:TypeId×Value ->H):
  ReturnsInHanded {} Chk os aaS .any (fun w args=>(Rows.coreAgesSpec.pre enc P aaM [] false w args/\laidMetH P aa3 w)/\sizedMet enc P aaM (OpenSpec.ofChange Rows.coreAgesSpec) false w args) (Rows.coreAgesSpec.post enc P aaM false true false false):=by
 refine abO (C:=Chk) (tb:=aeL) (X:=fun w=>laidMetH P aa3 w) (fun _ _ hh h=>h.of_heap hh) own started (by kernel_rfl) aed
  (ChangeSpec.witness_shaped (enc:=enc) (C:=Chk) (os:=os) (X:=fun w _=>laidMetH P aa3 w) false (World.laidAll P os aa3) #[.int .i64 0,.slice none 0 0,.int .i64 0] 8 (World.laidAll_os _ _ _) (World.shaped_of_ZipB (by kernel_rfl) (by kernel_rfl)) (by kernel_rfl) (by kernel_rfl) (by kernel_rfl) (aeP os _))
  laidOut (by kernel_rfl) (by kernel_rfl) rfl (by kernel_rfl) ?_ ?_
 ·intro ds gs hd hg
  match ds,gs,hd,hg with
  | [d0,d1,d2],[],_,_=>rfl
 ·intro W base args hsz hargs _ hx
  have hw:=aek hx
  obtain ⟨x0,x1,x2,rfl⟩:=aDX hsz
  have a0:=hargs 0 _ _ rfl rfl
  have a1:=hargs 1 _ _ rfl rfl
  have a2:=hargs 2 _ _ rfl rfl
  obtain ⟨n,rfl,hn⟩:=aa9 a0
  obtain ⟨ts,tl,rfl,hT⟩:=ayb (ayr (by kernel_rfl) a1)
  obtain ⟨k,rfl,hk⟩:=aa9 a2
  refine use (aEl hT hw) ?_
  rintro v w' ⟨rfl,h⟩
  exact ⟨_,rfl,rfl,af5 h⟩
theorem aof:Tryz.pinned.checked.prog.funcNamed Rows.coreAgesRow.func=some aaS:=by kernel_rfl
theorem aCH:jfA P aaM Rows.coreAgesSpec Rows.coreAgesRow=true:=by kernel_rfl
theorem aCI:jfB P aaS Rows.coreAgesRow=true:=by kernel_rfl
theorem aCJ:jfC P aaS Rows.coreAgesRow=true:=by kernel_rfl
theorem aCK:jfD P aaS Rows.coreAgesRow=true:=by kernel_rfl
theorem aCL:jfE P aaS Rows.coreAgesRow=true:=by kernel_rfl
theorem aCM:jfF P aaM Rows.coreAgesSpec Rows.coreAgesRow=true:=by kernel_rfl
theorem aCN:jfG P aaM Rows.coreAgesSpec Rows.coreAgesRow=true:=by kernel_rfl
theorem aCO:jfH P Rows.coreAgesRow=true:=by kernel_rfl
theorem aCP:jfI P aaM Rows.coreAgesSpec Rows.coreAgesRow=true:=by kernel_rfl
theorem axP:Rows.CoreAgesSaid:=
 OpenClaim.holds_of_wide aaS aaM rfl rfl rfl rfl rfl rfl rfl ⟨rfl,rfl,rfl,rfl,rfl⟩ rfl rfl rfl rfl rfl aof aed
  (aeh aCH aCI aCJ aCK aCL aCM aCN aCO aCP)
  (of_decide_eq_true (by kernel_rfl)) (by unfold Func.isWrapper;rw [if_neg (by decide+kernel)];exact ⟨rfl,rfl⟩)
  (fun os started H enc _=>awx os started H enc)
theorem aCQ:Rows.coreAgesRow.wfByText (OpenSpec.ofChange Rows.coreAgesSpec)=true:=by kernel_rfl
theorem azn:Tryz.pinned.checked.prog.mainIs=some (true, "3b9054f10c9c5fb82da89a913622f02e1aaecefdee6eb776dafd30a2283a3747".toList):=by kernel_rfl
theorem axQ:false=Tryz.pinned.checked.prog.looks []:=by kernel_rfl
theorem azm:false=Rows.coreAgesRow.goesBy Tryz.pinned.checked.prog:=by kernel_rfl
theorem axR:(aaM.params.toList.all fun u=> !P.wantsStandIn u)=true:=by kernel_rfl
theorem coreAges_card:Rows.CoreAgesCardSaid:=
 Claim7.holds_tied_plain_at .later [] [.data] true (true, "3b9054f10c9c5fb82da89a913622f02e1aaecefdee6eb776dafd30a2283a3747") false
  axP (fun _ h=>by cases h) aCQ (fun _ h=>by cases h) coreAges_row_tie rfl ⟨rfl,rfl⟩ azn rfl
  (fun f fn hf hfn=>by
   obtain rfl:f=aaS:=Option.some.inj (aof.symm.trans hf) |>.symm
   obtain rfl:fn=aaM:=(Option.some.inj (aed.symm.trans hfn)).symm
   refine ⟨axQ,fun j t ht=> ?_⟩
   have hm:t∈aaM.params.toList:=by simpa using Array.mem_of_getElem? ht
   exact (show P.wantsStandIn t=false by simpa using List.all_eq_true.1 axR t hm))
  azm
end Go.Proofs.YtkjijachkcmelaaGreatDoor
end
