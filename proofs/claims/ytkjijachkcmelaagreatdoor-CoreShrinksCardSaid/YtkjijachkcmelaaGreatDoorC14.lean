/- Part of a proof about the core: of its walks and plain laws. -/
import Derived.Test.YtkjijachkcmelaaGreatDoorC13
import Derived.HandedShaped
import Derived.LaidMore
import Derived.JoinedOf
import Derived.Lay
import Derived.OpenShut
import Derived.Stop.LaidErr
import Derived.Lib.LaidTab
import Derived.SevenTiedAt
import Derived.Test.YtkjijachkcmelaaGreatDoorRows
import Derived.Test.YtkjijachkcmelaaGreatDoorTie
import Derived.Test.YtkjijachkcmelaaGreatDoorCards
set_option linter.all false
section
set_option maxRecDepth 100000
namespace Go.Mp
open Go Go.Vc Go.Sp Go.Proofs
variable {E:Env} {L:List Asn} {w W:World}
def awT (t a1 b1 c1 a2 b2 c2 f g lg pg:Option Addr) (m:Option Nat) (gs up:Sl):List Value:=
 [.pointer t,.pointer a1,.pointer b1,.pointer c1,.pointer a2,.pointer b2,.pointer c2,.pointer f,.pointer g,.pointer lg,.pointer pg,.map m,.slice gs.p gs.n gs.c,.slice up.p up.n up.c]
theorem aII (T:Tr) (next:Tr ->World ->Prop) (Q:Exit ->Tr ->World ->Prop):vopC (w:=w) T next Q 13=asH P 119 #[(0,T.get 7),(1,T.get 9),(2,T.get 11),(3,T.get 13),(4,T.get 14),(5,T.get 15),(6,T.get 16),(7,T.get 17),(8,T.get 18),(9,T.get 19)] (fun v=>next (T.put (some 20) v) w):=by kernel_rfl
theorem aFo (t a1 b1 c1 a2 b2 c2 f g lg pg:Option Addr) (m:Option Nat) (gs up:Sl) (F:Value ->Prop):
  asH P 119 #[(0,.pointer t),(1,.agg #[.pointer a1,.pointer b1,.pointer c1]),(2,.agg #[.pointer a2,.pointer b2,.pointer c2]),(3,.pointer f),(4,.pointer g),(5,.pointer lg),(6,.pointer pg),(7,.map m),(8,.slice gs.p gs.n gs.c),(9,.slice up.p up.n up.c)] F
   =F (.agg (awT t a1 b1 c1 a2 b2 c2 f g lg pg m gs up).toArray):=by kernel_rfl
def dstC:List Nat:= [7,8,9,10,11,12,13,14,15,16,17,18,19,20,21,6]
theorem aBn:(List.range 16).map (dstO opsC)=dstC:=by decide+kernel
theorem ax9 {i:Nat} (h:i<16):some (dstO opsC i)=dstC[i]? :=by
 rw [<- aBn,List.getElem?_map,List.getElem?_range h];rfl
theorem adp {i d:Nat} (h:dstC[i]? =some d):dstO opsC i=d:=by
 have hi:i<16:=(List.getElem?_eq_some_iff.1 h).1
 have:=ax9 hi
 rw [h] at this
 exact Option.some.inj this
def axF (ops:Array Oper) (i j:Nat):Bool:=match ops[i]? with
 | some o=>o.after.toList.any fun e=>Region.binds .any e&&Nat.beq e.on j
 | none=>false
theorem aCr {ops:Array Oper} {i j:Nat} (h:axF ops i j=true):waits ops i j:=by
 unfold axF at h
 split at h
 ·next o ho=>
  obtain ⟨e,he,h2⟩:=List.any_eq_true.1 h
  rw [Bool.and_eq_true] at h2
  exact ⟨o,ho,e,he,h2.1,Nat.eq_of_beq_eq_true h2.2⟩
 ·cases h
def useC:List (List Nat):= [[7],[8],[9],[10],[11],[12],[13],[14],[15],[16],[17],[18],[19],[20,7,9,11,13,14,15,16,17,18,19],[21,20],[6,21]]
theorem aCh:((List.range 16).all fun i=>(List.range 16).all fun j=>Nat.beq i j||axF opsC i j|| !((useC.getD i []).contains (dstC.getD j 0)))=true:=by decide+kernel
theorem aDR {i j:Nat} {T:Tr} {v:Value} (hi:i<16) (hj:j<16) (hne:i≠j) (hw:¬ waits opsC i j):∀ s∈useC.getD i [],(T.put (some (dstO opsC j)) v).get s=T.get s:=by
 intro s hs
 have h1:=List.all_eq_true.1 (List.all_eq_true.1 aCh i (List.mem_range.2 hi)) j (List.mem_range.2 hj)
 simp only [Bool.or_eq_true,Bool.not_eq_true'] at h1
 have hd:=ax9 hj
 have hd':dstC.getD j 0=dstO opsC j:=by rw [List.getD_eq_getElem?_getD,<- hd];rfl
 rw [hd'] at h1
 have hlt:dstO opsC j<8000:=by
  have:∀ d∈dstC,d<8000:=by decide
  exact this _ (List.mem_of_getElem? hd.symm)
 rw [Tr.get_put _ _ _ _ hlt]
 split
 ·next e=>
  subst e
  rcases h1 with (h1 | h1) | h1
  ·exact absurd (Nat.eq_of_beq_eq_true h1) hne
  ·exact absurd (aCr h1) hw
  ·have:=List.contains_iff_mem.2 hs
   rw [h1] at this;cases this
 ·rfl
def boxA (v c:Value):Asn:=exA fun b=>pur (v= .pointer (some ⟨b,0,none⟩)) (blk b c.cells.toList)
def isP (v:Value):Prop:=∃ p:Option Addr,v= .pointer p
def isS (v:Value):Prop:=∃ a b c:Option Addr,v= .agg #[.pointer a,.pointer b,.pointer c]
noncomputable def FC (fr sl:Int) (sz:Sl):Nat ->Tr ->Prop
 | 1,T=>T.get 8= .int .i64 fr
 | 2,T=>isS (T.get 9)
 | 3,T=>T.get 10= .int .i64 sl
 | 4,T=>isS (T.get 11)
 | 5,T=>T.get 12= .slice sz.p sz.n sz.c
 | 0,T=>isP (T.get 7)
 | 6,T=>isP (T.get 13)
 | 7,T=>isP (T.get 14)
 | 8,T=>isP (T.get 15)
 | 9,T=>isP (T.get 16)
 | 10,T=>∃ m:Option Nat,T.get 17= .map m
 | 11,T=>∃ s:Sl,T.get 18= .slice s.p s.n s.c
 | 12,T=>∃ s:Sl,T.get 19= .slice s.p s.n s.c
 | 13,T=>∃ t a1 b1 c1 a2 b2 c2 f g lg pg m gs up,T.get 7= .pointer t/\T.get 9= .agg #[.pointer a1,.pointer b1,.pointer c1]/\T.get 11= .agg #[.pointer a2,.pointer b2,.pointer c2]/\T.get 13= .pointer f/\T.get 14= .pointer g/\
   T.get 15= .pointer lg/\T.get 16= .pointer pg/\T.get 17= .map m/\T.get 18= .slice gs.p gs.n gs.c/\T.get 19= .slice up.p up.n up.c/\T.get 20= .agg (awT t a1 b1 c1 a2 b2 c2 f g lg pg m gs up).toArray
 | 14,T=>∃ b,T.get 21= .pointer (some ⟨b,0,none⟩)
 | 15,T=>T.get 6=T.get 21
 | _,_=>False
noncomputable def OC (O:Nat ->Value ->List Asn):Nat ->Tr ->List Asn
 | 0,T=>O 0 (T.get 7)
 | 2,T=>O 1 (T.get 9)
 | 4,T=>O 2 (T.get 11)
 | 6,T=>O 3 (T.get 13)
 | 7,T=>O 4 (T.get 14)
 | 8,T=>O 5 (T.get 15)
 | 9,T=>O 6 (T.get 16)
 | 10,T=>O 7 (T.get 17)
 | 11,T=>O 8 (T.get 18)
 | 12,T=>O 9 (T.get 19)
 | 14,T=> [boxA (T.get 21) (T.get 20)]
 | _,_=> []
theorem aIu {fr sl:Int} {sz:Sl} {i:Nat} {T T':Tr} (hi:i<16) (h:∀ s∈useC.getD i [],T'.get s=T.get s):FC fr sl sz i T ->FC fr sl sz i T':=by
 match i,hi with
 | 0,_=>simp only [FC];rw [h 7 (by decide)];exact id
 | 1,_=>simp only [FC];rw [h 8 (by decide)];exact id
 | 2,_=>simp only [FC];rw [h 9 (by decide)];exact id
 | 3,_=>simp only [FC];rw [h 10 (by decide)];exact id
 | 4,_=>simp only [FC];rw [h 11 (by decide)];exact id
 | 5,_=>simp only [FC];rw [h 12 (by decide)];exact id
 | 6,_=>simp only [FC];rw [h 13 (by decide)];exact id
 | 7,_=>simp only [FC];rw [h 14 (by decide)];exact id
 | 8,_=>simp only [FC];rw [h 15 (by decide)];exact id
 | 9,_=>simp only [FC];rw [h 16 (by decide)];exact id
 | 10,_=>simp only [FC];rw [h 17 (by decide)];exact id
 | 11,_=>simp only [FC];rw [h 18 (by decide)];exact id
 | 12,_=>simp only [FC];rw [h 19 (by decide)];exact id
 | 13,_=>simp only [FC];rw [h 7 (by decide),h 9 (by decide),h 11 (by decide),h 13 (by decide),h 14 (by decide),h 15 (by decide),h 16 (by decide),h 17 (by decide),h 18 (by decide),h 19 (by decide),h 20 (by decide)];exact id
 | 14,_=>simp only [FC];rw [h 21 (by decide)];exact id
 | 15,_=>simp only [FC];rw [h 6 (by decide),h 21 (by decide)];exact id
 | n+16,hi=>exact absurd hi (by omega)
theorem aIv {O:Nat ->Value ->List Asn} {i:Nat} {T T':Tr} (hi:i<16) (h:∀ s∈useC.getD i [],T'.get s=T.get s):OC O i T'=OC O i T:=by
 match i,hi with
 | 0,_=>simp only [OC];rw [h 7 (by decide)]
 | 1,_=>rfl
 | 2,_=>simp only [OC];rw [h 9 (by decide)]
 | 3,_=>rfl
 | 4,_=>simp only [OC];rw [h 11 (by decide)]
 | 5,_=>rfl
 | 6,_=>simp only [OC];rw [h 13 (by decide)]
 | 7,_=>simp only [OC];rw [h 14 (by decide)]
 | 8,_=>simp only [OC];rw [h 15 (by decide)]
 | 9,_=>simp only [OC];rw [h 16 (by decide)]
 | 10,_=>simp only [OC];rw [h 17 (by decide)]
 | 11,_=>simp only [OC];rw [h 18 (by decide)]
 | 12,_=>simp only [OC];rw [h 19 (by decide)]
 | 13,_=>rfl
 | 14,_=>simp only [OC];rw [h 21 (by decide),h 20 (by decide)]
 | 15,_=>rfl
 | n+16,hi=>exact absurd hi (by omega)
structure Parts (E:Env) (L0:List Asn) (fr sl:Int) (sz:Sl) (O:Nat ->Value ->List Asn):Prop where
 tree:∀ {L w},Sep E L w ->Calls P akz #[] w (Ret fun v w'=>isP v/\Sep E (O 0 v++L) w')
 frames:∀ {L w},Sep E L w ->Calls P adL #[.int .i64 fr] w (Ret fun v w'=>isS v/\Sep E (O 1 v++L) w')
 slots:∀ {L w},Sep E L w ->Calls P adL #[.int .i64 sl] w (Ret fun v w'=>isS v/\Sep E (O 2 v++L) w')
 files:∀ {R w},Sep E (R++L0) w ->Calls P ajh #[.slice sz.p sz.n sz.c] w (Ret fun v w'=>isP v/\Sep E (O 3 v++(R++L0)) w')
 gens:∀ {L w},Sep E L w ->Calls P aky #[] w (Ret fun v w'=>isP v/\Sep E (O 4 v++L) w')
 log:∀ {L w},Sep E L w ->Calls P aiA #[] w (Ret fun v w'=>isP v/\Sep E (O 5 v++L) w')
 pages:∀ {L w},Sep E L w ->Calls P aji #[] w (Ret fun v w'=>isP v/\Sep E (O 6 v++L) w')
 kept:∀ {L w b},Sep E (mapF b (Value.int .i64) (fun _=>none)::L) w ->Sep E (O 7 (.map (some b))++L) w
 guards:∀ {L w b},Sep E (blk b [.int .i64 0,.int .i64 0,.bool false]::L) w ->Sep E (O 8 (.slice (some ⟨b,0,none⟩) 1 1)++L) w
 up:∀ {L w b},Sep E (blk b [.int .i64 (-1)]::L) w ->Sep E (O 9 (.slice (some ⟨b,0,none⟩) 1 1)++L) w
theorem abd (T:Tr) (d:Nat) (v:Value) (h:d<8000):(T.put (some d) v).get d=v:=by rw [Tr.get_put _ _ _ _ h,if_pos rfl]
theorem aeW (T:Tr) {d s:Nat} (v:Value) (h:d<8000) (hne:s≠d):(T.put (some d) v).get s=T.get s:=by rw [Tr.get_put _ _ _ _ h,if_neg hne]
theorem aFG {α:Type _} (A L:List α) (x:α):((A++ [x])++L).Perm (x::(A++L)):=by
 rw [List.append_assoc];exact List.perm_middle
theorem aD7 {fr sl:Int} {sz:Sl} {O:Nat ->Value ->List Asn} (H:Parts E L fr sl sz O) (h:Sep E L w):Calls P abD #[.int .i64 fr,.int .i64 sl,.slice sz.p sz.n sz.c] w (Ret fun v w'=>
  ∃ b t a1 b1 c1 a2 b2 c2 f g lg pg m gs up,v= .pointer (some ⟨b,0,none⟩)/\Sep E (blk b (awT t a1 b1 c1 a2 b2 c2 f g lg pg m gs up)::
   (O 0 (.pointer t)++(O 1 (.agg #[.pointer a1,.pointer b1,.pointer c1])++(O 2 (.agg #[.pointer a2,.pointer b2,.pointer c2])++(O 3 (.pointer f)++(O 4 (.pointer g)++(O 5 (.pointer lg)++(O 6 (.pointer pg)++(O 7 (.map m)++
    (O 8 (.slice gs.p gs.n gs.c)++(O 9 (.slice up.p up.n up.c)++L))))))))))) w'):=by
 refine anG (τ:=tau) (ρ:=rho) (pan:=pan) (A:=aeM) mixed Tryz.func16 aC9 ?_
 rw [aDf]
 refine Dr.i h (fun w1 h1=> ?_)
 refine aGV (fun T=>T.get 0= .int .i64 fr/\T.get 1= .int .i64 sl/\T.get 2= .slice sz.p sz.n sz.c) (FC fr sl sz) (OC O) aBV ?_ ?_ ?_ ?_ ?_ ?_ h1
 ·rintro T i v hi ⟨e0,e1,e2⟩
  rw [ag0] at hi
  have hd:=ax9 hi
  have:∀ d∈dstC,d<8000/\0≠d/\1≠d/\2≠d:=by decide
  obtain ⟨k,k0,k1,k2⟩:=this _ (List.mem_of_getElem? hd.symm)
  rw [aeW _ _ k k0,aeW _ _ k k1,aeW _ _ k k2]
  exact ⟨e0,e1,e2⟩
 ·intro i j T v hi hj hne hw
  rw [ag0] at hi hj
  exact aIu hi (aDR hi hj hne hw)
 ·intro i j T v hi hj hne hw
  rw [ag0] at hi hj
  exact aIv hi (aDR hi hj hne hw)
 ·intro T w i o R hx ho hdep hR next hn
  have hi:i<16:=by rw [<- ag0];exact (Array.getElem?_eq_some_iff.1 ho).1
  have ho':opC i=o:=by unfold opC;rw [ho];rfl
  have hdep':∀ j,axF opsC i j=true ->FC fr sl sz j T:=by
   intro j hj
   obtain ⟨o2,ho2,e,he,hb,rfl⟩:=aCr hj
   rw [ho] at ho2
   cases ho2
   exact hdep e he hb
  subst ho'
  match i,hi with
  | 0,_=>
   rw [adp (d:=7) rfl] at hn
   refine (opC0 T next _).mpr ?_
   refine use (H.tree hR) ?_
   rintro _ w2 ⟨⟨p,rfl⟩,h2⟩
   refine ⟨p,rfl,hn _ _ ?_ ?_⟩
   ·simp only [FC];rw [abd _ _ _ (by decide)];exact ⟨p,rfl⟩
   ·simp only [OC];rw [abd _ _ _ (by decide)];exact h2
  | 1,_=>
   rw [adp (d:=8) rfl] at hn
   refine (opC1 T next _).mpr ?_
   refine hn _ _ ?_ hR
   simp only [FC];rw [abd _ _ _ (by decide)];exact hx.1
  | 2,_=>
   rw [adp (d:=9) rfl] at hn
   have e:T.get 8= .int .i64 fr:=hdep' 1 (by decide+kernel)
   refine (opC2 T next _).mpr ?_
   rw [e]
   refine use (H.frames hR) ?_
   rintro _ w2 ⟨⟨a,b,c,rfl⟩,h2⟩
   refine ⟨a,b,c,rfl,hn _ _ ?_ ?_⟩
   ·simp only [FC];rw [abd _ _ _ (by decide)];exact ⟨a,b,c,rfl⟩
   ·simp only [OC];rw [abd _ _ _ (by decide)];exact h2
  | 3,_=>
   rw [adp (d:=10) rfl] at hn
   refine (opC3 T next _).mpr ?_
   refine hn _ _ ?_ hR
   simp only [FC];rw [abd _ _ _ (by decide)];exact hx.2.1
  | 4,_=>
   rw [adp (d:=11) rfl] at hn
   have e:T.get 10= .int .i64 sl:=hdep' 3 (by decide+kernel)
   refine (opC4 T next _).mpr ?_
   rw [e]
   refine use (H.slots hR) ?_
   rintro _ w2 ⟨⟨a,b,c,rfl⟩,h2⟩
   refine ⟨a,b,c,rfl,hn _ _ ?_ ?_⟩
   ·simp only [FC];rw [abd _ _ _ (by decide)];exact ⟨a,b,c,rfl⟩
   ·simp only [OC];rw [abd _ _ _ (by decide)];exact h2
  | 5,_=>
   rw [adp (d:=12) rfl] at hn
   refine (opC5 T next _).mpr ?_
   refine hn _ _ ?_ hR
   simp only [FC];rw [abd _ _ _ (by decide)];exact hx.2.2
  | 6,_=>
   rw [adp (d:=13) rfl] at hn
   have e:T.get 12= .slice sz.p sz.n sz.c:=hdep' 5 (by decide+kernel)
   refine (opC6 T next _).mpr ?_
   rw [e]
   refine use (H.files hR) ?_
   rintro _ w2 ⟨⟨p,rfl⟩,h2⟩
   refine ⟨p,rfl,hn _ _ ?_ ?_⟩
   ·simp only [FC];rw [abd _ _ _ (by decide)];exact ⟨p,rfl⟩
   ·simp only [OC];rw [abd _ _ _ (by decide)];exact h2
  | 7,_=>
   rw [adp (d:=14) rfl] at hn
   refine (opC7 T next _).mpr ?_
   refine use (H.gens hR) ?_
   rintro _ w2 ⟨⟨p,rfl⟩,h2⟩
   refine ⟨p,rfl,hn _ _ ?_ ?_⟩
   ·simp only [FC];rw [abd _ _ _ (by decide)];exact ⟨p,rfl⟩
   ·simp only [OC];rw [abd _ _ _ (by decide)];exact h2
  | 8,_=>
   rw [adp (d:=15) rfl] at hn
   refine (opC8 T next _).mpr ?_
   refine use (H.log hR) ?_
   rintro _ w2 ⟨⟨p,rfl⟩,h2⟩
   refine ⟨p,rfl,hn _ _ ?_ ?_⟩
   ·simp only [FC];rw [abd _ _ _ (by decide)];exact ⟨p,rfl⟩
   ·simp only [OC];rw [abd _ _ _ (by decide)];exact h2
  | 9,_=>
   rw [adp (d:=16) rfl] at hn
   refine (opC9 T next _).mpr ?_
   refine use (H.pages hR) ?_
   rintro _ w2 ⟨⟨p,rfl⟩,h2⟩
   refine ⟨p,rfl,hn _ _ ?_ ?_⟩
   ·simp only [FC];rw [abd _ _ _ (by decide)];exact ⟨p,rfl⟩
   ·simp only [OC];rw [abd _ _ _ (by decide)];exact h2
  | 10,_=>
   rw [adp (d:=17) rfl] at hn
   refine (aIF T next _).mpr ?_
   refine mapF.new (enc:=Value.int .i64) hR (fun b w2 h2=>hn _ _ ?_ ?_)
   ·simp only [FC];rw [abd _ _ _ (by decide)];exact ⟨some b,rfl⟩
   ·simp only [OC];rw [abd _ _ _ (by decide)];exact H.kept h2
  | 11,_=>
   rw [adp (d:=18) rfl] at hn
   refine (aIG T next _).mpr ?_
   refine makeSlice.i hR (by kernel_rfl:slQ P 117=some (24,3,[.int .i64 0,.int .i64 0,.bool false])) (by decide) (Int.le_refl _) (by decide) (by decide) (fun b w2 h2=>hn _ _ ?_ ?_)
   ·simp only [FC];rw [abd _ _ _ (by decide)];exact ⟨⟨some ⟨b,0,none⟩,1,1⟩,rfl⟩
   ·simp only [OC];rw [abd _ _ _ (by decide)];exact H.guards h2
  | 12,_=>
   rw [adp (d:=19) rfl] at hn
   refine (aIH T next _).mpr ?_
   refine Al.i hR (fun b w2 h2=>hn _ _ ?_ ?_)
   ·simp only [FC];rw [abd _ _ _ (by decide)];exact ⟨⟨some ⟨b,0,none⟩,1,1⟩,rfl⟩
   ·simp only [OC];rw [abd _ _ _ (by decide)];exact H.up h2
  | 13,_=>
   rw [adp (d:=20) rfl] at hn
   obtain ⟨t,e7⟩:=hdep' 0 (by decide+kernel)
   obtain ⟨a1,b1,c1,e9⟩:=hdep' 2 (by decide+kernel)
   obtain ⟨a2,b2,c2,e11⟩:=hdep' 4 (by decide+kernel)
   obtain ⟨f,e13⟩:=hdep' 6 (by decide+kernel)
   obtain ⟨g,e14⟩:=hdep' 7 (by decide+kernel)
   obtain ⟨lg,e15⟩:=hdep' 8 (by decide+kernel)
   obtain ⟨pg,e16⟩:=hdep' 9 (by decide+kernel)
   obtain ⟨m,e17⟩:=hdep' 10 (by decide+kernel)
   obtain ⟨gs,e18⟩:=hdep' 11 (by decide+kernel)
   obtain ⟨up,e19⟩:=hdep' 12 (by decide+kernel)
   refine (aII T next _).mpr ?_
   rw [e7,e9,e11,e13,e14,e15,e16,e17,e18,e19,aFo]
   refine hn _ _ ?_ hR
   simp only [FC]
   rw [abd _ _ _ (by decide)]
   have k:(20:Nat)<8000:=by decide
   rw [aeW _ _ k (by decide),aeW _ _ k (by decide),aeW _ _ k (by decide),aeW _ _ k (by decide),aeW _ _ k (by decide),aeW _ _ k (by decide),aeW _ _ k (by decide),aeW _ _ k (by decide),aeW _ _ k (by decide),aeW _ _ k (by decide)]
   exact ⟨t,a1,b1,c1,a2,b2,c2,f,g,lg,pg,m,gs,up,e7,e9,e11,e13,e14,e15,e16,e17,e18,e19,rfl⟩
  | 14,_=>
   rw [adp (d:=21) rfl] at hn
   refine (aIJ T next _).mpr ?_
   refine Al.i hR (fun b w2 h2=>hn _ _ ?_ ?_)
   ·simp only [FC];rw [abd _ _ _ (by decide)];exact ⟨b,rfl⟩
   ·simp only [OC];rw [abd _ _ _ (by decide),aeW _ _ (by decide) (by decide)]
    exact Sep.ex.2 ⟨b,Sep.pur.2 ⟨rfl,h2⟩⟩
  | 15,_=>
   rw [adp (d:=6) rfl] at hn
   refine (aIK T next _).mpr ?_
   refine hn _ _ ?_ hR
   simp only [FC];rw [abd _ _ _ (by decide),aeW _ _ (by decide) (by decide)]
  | n+16,hi=>exact absurd hi (by omega)
 ·intro T w2 M hx hF hM hp
  rw [aBs]
  rw [ag0] at hF hp
  obtain ⟨t,a1,b1,c1,a2,b2,c2,f,g,lg,pg,m,gs,up,e7,e9,e11,e13,e14,e15,e16,e17,e18,e19,e20⟩:=hF 13 (by decide)
  obtain ⟨b,e21⟩:=hF 14 (by decide)
  have e6:T.get 6=T.get 21:=hF 15 (by decide)
  rw [e6,e21]
  refine ⟨b,t,a1,b1,c1,a2,b2,c2,f,g,lg,pg,m,gs,up,rfl,?_⟩
  have h3:=hM.perm (List.Perm.append_right L hp)
  have e:((List.range 16).flatMap fun i=>OC O i T)=(O 0 (T.get 7)++(O 1 (T.get 9)++(O 2 (T.get 11)++(O 3 (T.get 13)++(O 4 (T.get 14)++(O 5 (T.get 15)++(O 6 (T.get 16)++(O 7 (T.get 17)++(O 8 (T.get 18)++O 9 (T.get 19))))))))))++ [boxA (T.get 21) (T.get 20)]:=by
   rw [show List.range 16= [0,1,2,3,4,5,6,7,8,9,10,11,12,13,14,15] from rfl]
   simp only [List.flatMap_cons,List.flatMap_nil,List.append_nil,List.nil_append,OC,List.append_assoc]
  rw [e,e7,e9,e11,e13,e14,e15,e16,e17,e18,e19,e20,e21] at h3
  have h4:=h3.perm (aFG _ _ _)
  simp only [List.append_assoc] at h4
  obtain ⟨b',h5⟩:=Sep.ex.1 h4
  obtain ⟨hb,h5⟩:=Sep.pur.1 h5
  cases hb
  exact h5
 ·refine ⟨by kernel_rfl,by kernel_rfl,by kernel_rfl⟩
end Go.Mp
end
section
set_option maxRecDepth 100000
namespace Go.Mp
open Go Go.Vc Go.Sp Go.Proofs Go.Kc
variable {E:Env} {L:List Asn} {w:World} {A:At} {S:Cs}
theorem aFf (h:Sep E L w):Calls P akz #[] w (Ret fun v w'=>∃ t,v= .pointer (some ⟨t,0,none⟩)/\Sep E (aaq t Kt.new::L) w'):=by
 apply aC8
 unfold auD
 refine Al.i h (fun p1 w1 h1=>Al.i h1 (fun p3 w2 h2=>⟨p3,rfl,aaq.mk (s:=⟨some ⟨p1,0,none⟩,1,1⟩) rfl ?_⟩))
 have h3:Sep E (blk p1 ([.int .i64 (-1),.bool true]++ [])::blk p3 [.slice (some ⟨p1,0,none⟩) 1 1]::L) w2:=h2.swap
 exact (rowA.make (spare:= []) (n:=1) (c:=1) (m:=2) h3 rfl rfl (Nat.le_refl _)).swap
def ajJ (v:Value) (s:Store):Asn:=exA fun p:Nat=>exA fun b:Nat=>exA fun u:Nat=>pur (v= .agg #[.pointer (some ⟨p,0,none⟩),.pointer (some ⟨b,0,none⟩),.pointer (some ⟨u,0,none⟩)]) (star (abb p s.pool) (star (BSt b s.pool.length s.by_) (cntA u s.used)))
theorem awq (n:Int) (h:Sep E L w):Calls P adL #[.int .i64 n] w (Ret fun v w'=>isS v/\Sep E (ajJ v (sNew n)::L) w'):=by
 apply avw
 refine Al.i h (fun q w1 h1=>use (aFc n h1) ?_)
 rintro _ w2 ⟨p,rfl,h2⟩
 refine ⟨_,rfl,use (aCA n h2) ?_⟩
 rintro _ w3 ⟨b,rfl,h3⟩
 refine ⟨_,rfl,use (aAU h3) ?_⟩
 rintro _ w4 ⟨u,rfl,h4⟩
 refine ⟨_,rfl,zst (vs:= [.pointer (some ⟨p,0,none⟩),.pointer (some ⟨b,0,none⟩),.pointer (some ⟨u,0,none⟩)]) _ (h4.fr 3 rfl) rfl (fun w5 h5=> ?_)⟩
 refine ld h5 0 rfl rfl rfl (ld h5 0 rfl rfl rfl (ld h5 0 rfl rfl rfl ⟨⟨_,_,_,rfl⟩,?_⟩))
 have h6:Sep E (abb p (pNew n)::BSt b (min (max n 0).toNat 1024) (List.replicate (16*min (max n 0).toNat 1024) 0)::cntA u cNew::L) w5:=h5.tail.ro 3 [2,1,0] rfl
 refine Sep.ex.2 ⟨p,Sep.ex.2 ⟨b,Sep.ex.2 ⟨u,Sep.pur.2 ⟨rfl,Sep.star.2 ?_⟩⟩⟩⟩
 have e:(pNew n).length=min (max n 0).toNat 1024:=by simp [pNew]
 have h7:Sep E (star (BSt b (min (max n 0).toNat 1024) (List.replicate (16*min (max n 0).toNat 1024) 0)) (cntA u cNew)::abb p (pNew n)::L) w5:=Sep.star.2 (h6.ro 3 [1,2,0] rfl)
 rw [show (sNew n).pool.length=min (max n 0).toNat 1024 from e]
 exact h7.swap
def ptrP (f:Nat ->Asn) (v:Value):Asn:=exA fun b:Nat=>pur (v= .pointer (some ⟨b,0,none⟩)) (f b)
def newP (fr sl:Int) (l:List Int):Nat ->Value ->List Asn
 | 0,v=> [ptrP (fun t=>aaq t Kt.new) v]
 | 1,v=> [ajJ v (sNew fr)]
 | 2,v=> [ajJ v (sNew sl)]
 | 3,v=> [ptrP (fun b=>acC b (fNew l)) v]
 | 4,v=> [ptrP (fun b=>Gp.Lst b []) v]
 | 5,v=> [ptrP (fun b=>logA b (List.replicate 64 0)) v]
 | 6,v=> [ptrP (fun b=>Tp.Tab b TS.zero) v]
 | 7,v=> [exA fun m:Nat=>pur (v= .map (some m)) (ajo m (fun _=>none))]
 | 8,v=> [exA fun s:Sl=>pur (v= .slice s.p s.n s.c) (acv s [⟨0,0,false⟩])]
 | 9,v=> [exA fun s:Sl=>pur (v= .slice s.p s.n s.c) (upA s Kt.new)]
 | _,_=> []
theorem parts {fr sl:Int} {sz:Sl} {l:List Int} (hI:Ints E L sz l) (hcap:sz.n<=sz.c):Parts E L fr sl sz (newP fr sl l) where
 tree:=fun h=>use (aFf h) (by rintro _ w' ⟨t,rfl,h'⟩;exact ⟨_,rfl,⟨_,rfl⟩,Sep.ex.2 ⟨t,Sep.pur.2 ⟨rfl,h'⟩⟩⟩)
 frames:=fun h=>awq fr h
 slots:=fun h=>awq sl h
 files:=fun {R w} h=>use (aD8 (hI.of (fun _ hs=>Sep.right (Q:=R) hs)) hcap h) (by rintro _ w' ⟨t,rfl,h'⟩;exact ⟨_,rfl,⟨_,rfl⟩,Sep.ex.2 ⟨t,Sep.pur.2 ⟨rfl,h'⟩⟩⟩)
 gens:=fun h=>use (Gp.afB h) (by rintro _ w' ⟨t,rfl,h'⟩;exact ⟨_,rfl,⟨_,rfl⟩,Sep.ex.2 ⟨t,Sep.pur.2 ⟨rfl,h'⟩⟩⟩)
 log:=fun h=>use (aCD h) (by rintro _ w' ⟨t,rfl,h'⟩;exact ⟨_,rfl,⟨_,rfl⟩,Sep.ex.2 ⟨t,Sep.pur.2 ⟨rfl,h'⟩⟩⟩)
 pages:=fun h=>use (Tp.afB h) (by rintro _ w' ⟨t,rfl,h'⟩;exact ⟨_,rfl,⟨_,rfl⟩,Sep.ex.2 ⟨t,Sep.pur.2 ⟨rfl,h'⟩⟩⟩)
 kept:=fun {L w b} h=>Sep.ex.2 ⟨b,Sep.pur.2 ⟨rfl,Sep.pur.2 ⟨fun _ _ hh=>(by cases hh),h⟩⟩⟩
 guards:=fun {L w b} h=>Sep.ex.2 ⟨⟨some ⟨b,0,none⟩,1,1⟩,Sep.pur.2 ⟨rfl,Sep.pur.2 ⟨rfl,rowA.make (spare:= []) (n:=1) (c:=1) (m:=3) h rfl rfl (Nat.le_refl _)⟩⟩⟩
 up:=fun {L w b} h=>Sep.ex.2 ⟨⟨some ⟨b,0,none⟩,1,1⟩,Sep.pur.2 ⟨rfl,Sep.pur.2 ⟨rfl,rowA.make (spare:= []) (n:=1) (c:=1) (m:=1) h rfl rfl (Nat.le_refl _)⟩⟩⟩
theorem ptrP.open {f:Nat ->Asn} {v:Value} (h:Sep E (ptrP f v::L) w):∃ b,v= .pointer (some ⟨b,0,none⟩)/\Sep E (f b::L) w:=by
 obtain ⟨b,h⟩:=Sep.ex.1 h
 obtain ⟨hv,h⟩:=Sep.pur.1 h
 exact ⟨b,hv,h⟩
theorem ajJ.open {s:Store} {v:Value} (h:Sep E (ajJ v s::L) w):∃ p b u,v= .agg #[.pointer (some ⟨p,0,none⟩),.pointer (some ⟨b,0,none⟩),.pointer (some ⟨u,0,none⟩)]/\Sep E (abb p s.pool::BSt b s.pool.length s.by_::cntA u s.used::L) w:=by
 obtain ⟨p,h⟩:=Sep.ex.1 h
 obtain ⟨b,h⟩:=Sep.ex.1 h
 obtain ⟨u,h⟩:=Sep.ex.1 h
 obtain ⟨hv,h⟩:=Sep.pur.1 h
 have h1:=Sep.star.1 h
 have h2:=Sep.star.1 (h1.fr 1 rfl)
 exact ⟨p,b,u,hv,h2.ro 3 [2,0,1] rfl⟩
theorem aFX {s s':Sl} (h:Value.slice s.p s.n s.c= .slice s'.p s'.n s'.c):s=s':=by
 obtain ⟨a,b,c⟩:=s;obtain ⟨d,e,f⟩:=s'
 injection h with h1 h2 h3
 simp only at h1 h2 h3
 rw [h1,h2,h3]
theorem afB {fr sl:Int} {sz:Sl} {l:List Int} {o:Array Obj} (hI:Ints E (tabA o::L) sz l) (hcap:sz.n<=sz.c) (h:Sep E (tabA o::L) w):Calls P abD #[.int .i64 fr,.int .i64 sl,.slice sz.p sz.n sz.c] w
  (Ret fun v w'=>∃ A:At,v= .pointer (some ⟨A.c,0,none⟩)/\A.o=o/\Sep E (aaa A (Kc.new fr sl l)++L) w'):=by
 refine use (aD7 (parts hI hcap) h) ?_
 rintro _ w1 ⟨b,t,a1,b1,c1,a2,b2,c2,f,g,lg,pg,m,gs,up,rfl,h1⟩
 have h1:Sep E (blk b (awT t a1 b1 c1 a2 b2 c2 f g lg pg m gs up)::ptrP (fun t=>aaq t Kt.new) (.pointer t)::ajJ (.agg #[.pointer a1,.pointer b1,.pointer c1]) (sNew fr)::ajJ (.agg #[.pointer a2,.pointer b2,.pointer c2]) (sNew sl)::
  ptrP (fun b=>acC b (fNew l)) (.pointer f)::ptrP (fun b=>Gp.Lst b []) (.pointer g)::ptrP (fun b=>logA b (List.replicate 64 0)) (.pointer lg)::ptrP (fun b=>Tp.Tab b TS.zero) (.pointer pg)::
  (exA fun m':Nat=>pur ((.map m:Value)= .map (some m')) (ajo m' (fun _=>none)))::(exA fun s:Sl=>pur ((.slice gs.p gs.n gs.c:Value)= .slice s.p s.n s.c) (acv s [⟨0,0,false⟩]))::(exA fun s:Sl=>pur ((.slice up.p up.n up.c:Value)= .slice s.p s.n s.c) (upA s Kt.new))::tabA o::L) w1:=h1
 obtain ⟨t',ht,h2⟩:=ptrP.open (h1.fr 1 rfl)
 obtain ⟨p1,q1,u1,e1,h3⟩:=ajJ.open (h2.fr 2 rfl)
 obtain ⟨p2,q2,u2,e2,h4⟩:=ajJ.open (h3.fr 5 rfl)
 obtain ⟨f',hf,h5⟩:=ptrP.open (h4.fr 8 rfl)
 obtain ⟨g',hg,h6⟩:=ptrP.open (h5.fr 9 rfl)
 obtain ⟨lg',hlg,h7⟩:=ptrP.open (h6.fr 10 rfl)
 obtain ⟨pg',hpg,h8⟩:=ptrP.open (h7.fr 11 rfl)
 obtain ⟨m',h9⟩:=Sep.ex.1 (h8.fr 12 rfl)
 obtain ⟨hm,h9⟩:=Sep.pur.1 h9
 obtain ⟨gs',h10⟩:=Sep.ex.1 (h9.fr 13 rfl)
 obtain ⟨hgs,h10⟩:=Sep.pur.1 h10
 obtain ⟨us',h11⟩:=Sep.ex.1 (h10.fr 14 rfl)
 obtain ⟨hus,h11⟩:=Sep.pur.1 h11
 have hgs:=aFX hgs
 have hus:=aFX hus
 cases ht;cases hf;cases hg;cases hlg;cases hpg;cases hm
 simp only [Value.agg.injEq,Array.mk.injEq,List.cons.injEq,Value.pointer.injEq,and_true] at e1 e2
 obtain ⟨rfl,rfl,rfl⟩:=e1
 obtain ⟨rfl,rfl,rfl⟩:=e2
 subst hgs hus
 refine ⟨_,rfl,⟨b,t',p1,q1,u1,p2,q2,u2,f',g',lg',pg',m',gs,up,o⟩,rfl,rfl,?_⟩
 have h11:Sep E (upA up Kt.new::acv gs [⟨0,0,false⟩]::ajo m' (fun _=>none)::Tp.Tab pg' TS.zero::logA lg' (List.replicate 64 0)::Gp.Lst g' []::acC f' (fNew l)::abb p2 (sNew sl).pool::BSt q2 (sNew sl).pool.length (sNew sl).by_::cntA u2 (sNew sl).used::
  abb p1 (sNew fr).pool::BSt q1 (sNew fr).pool.length (sNew fr).by_::cntA u1 (sNew fr).used::aaq t' Kt.new::blk b (awT (some ⟨t',0,none⟩) (some ⟨p1,0,none⟩) (some ⟨q1,0,none⟩) (some ⟨u1,0,none⟩) (some ⟨p2,0,none⟩) (some ⟨q2,0,none⟩) (some ⟨u2,0,none⟩) (some ⟨f',0,none⟩) (some ⟨g',0,none⟩) (some ⟨lg',0,none⟩) (some ⟨pg',0,none⟩) (some m') gs up)::tabA o::L) w1:=h11
 exact h11.ro 16 [14,13,10,11,12,7,8,9,6,5,4,3,2,1,0,15] rfl
end Go.Mp
end
section
set_option maxRecDepth 100000
namespace Go.Mp
open Go Go.Vc Go.Proofs
variable {K:Value ->World ->Prop} {w:World}
def amW:Ann:= {quiet:=fun d=> [15,19,45,48,52,56,60,65,69,73,78,83,88,89,94,95].contains d,join:=fun r=>(bif r==4 then some [] else none)}
def anT (K:Value ->World ->Prop) (w:World):Prop:=
 Calls P abD #[(Iv 1),(Iv 1),(.slice none 0 0)] w fun e2 w1=>∃ x3,e2= .returned (Pv x3)/\∃ J4:World ->Prop,(bif x3.isNone then (K (.bool false) w1) else (Calls P aci #[(Pv x3)] w1 fun e8 w7=>∃ x9,e8= .returned (Pv x9)/\bif x9.isNone then (K (.bool false) w7) else (J4 w7)))/\(∀ _u6:Nat ->Value,∀ w5:World,J4 w5 ->Calls P aa1 #[(Pv x3),(Iv 0)] w5 fun e11 w10=>∃ x12:Int,∃ x13:Int,∃ x14:Int,e11= .returned (.tuple #[(Iv x12),(Iv x13),(Iv x14)])/\Calls P aa1 #[(Pv x3),(Iv 0)] w10 fun e16 w15=>∃ x17:Int,∃ x18:Int,∃ x19:Int,e16= .returned (.tuple #[(Iv x17),(Iv x18),(Iv x19)])/\Calls P abt #[(Pv x3),(Iv 0)] w15 fun e21 w20=>∃ x22:Int,∃ x23:Int,∃ x24:Int,∃ x25:Int,∃ x26:Int,∃ x27:Int,∃ x28:Int,∃ x29:Bool,∃ x30:Bool,∃ x31:Int,e21= .returned (.tuple #[(.agg #[(Iv x22),(Iv x23),(Iv x24),(Iv x25),(Iv x26),(Iv x27),(Iv x28),(.bool x29),(.bool x30)]),(Iv x31)])/\Al (.cells #[(Iv 0),(Iv 0),(Iv 0),(Iv 0),(Iv 0),(Iv 0),(Iv 0),(.bool false),(.bool false)] 38) (fun p32 w33=>StN [(Iv x22),(Iv x23),(Iv x24),(Iv x25),(Iv x26),(Iv x27),(Iv x28),(.bool x29),(.bool x30)] p32 (fun w34=>Calls P aa1 #[(Pv x3),(Iv 0)] w34 fun e36 w35=>∃ x37:Int,∃ x38:Int,∃ x39:Int,e36= .returned (.tuple #[(Iv x37),(Iv x38),(Iv x39)])/\bif (x12==0) then (bif (x14==0) then (bif (x17==1) then (bif (x19==0) then (bif (x31==0) then (∃ x40,w35.cell? (p32.add 2)=some (Iv x40)/\bif (x40==2) then (bif (x38==0) then (bif (x39==12) then (Calls P aae #[(Pv x3),(Iv 0)] w35 fun e42 w41=>∃ x43,e42= .returned (Iv x43)/\bif (x43==1) then (Calls P aaQ #[(Pv x3),(Iv 0)] w41 fun e45 w44=>∃ x46,e45= .returned (Iv x46)/\bif (x46==1) then (Calls P ab4 #[(Pv x3)] w44 fun e48 w47=>∃ x49:Sl,e48= .returned (Sv x49)/\bif (((x49.n:Nat):Int)==2) then (Calls P ahx #[(Pv x3)] w47 fun e51 w50=>∃ x52:Sl,e51= .returned (Sv x52)/\K (.bool (((x52.n:Nat):Int)==1)) w50) else (K (.bool false) w47)) else (K (.bool false) w44)) else (K (.bool false) w41)) else (K (.bool false) w35)) else (K (.bool false) w35)) else (K (.bool false) w35)) else (K (.bool false) w35)) else (K (.bool false) w35)) else (K (.bool false) w35)) else (K (.bool false) w35)) else (K (.bool false) w35)) w33) w20)
theorem anQ (h:anT K w):Calls P aao #[] w (Ret K):=ofVc (A:=amW) Tryz.func15 (by kernel_rfl) (by kernel_rfl) h
def anB:Ann:= {quiet:=fun d=> [10,13,17,18,22,23].contains d}
def aiW (frames:Int) (slots:Int) (sizes:Sl) (l:Sl) (K:Value ->World ->Prop) (w:World):Prop:=
 bif (decide (frames>40)) then (K (.bool true) w) else (bif (decide (slots>40)) then (K (.bool true) w) else (bif (decide (((sizes.n:Nat):Int)>40)) then (K (.bool true) w) else (K (.bool (decide (((l.n:Nat):Int)>60))) w)))
theorem aoq (frames:Int) (slots:Int) (sizes:Sl) (l:Sl) (h:aiW frames slots sizes l K w):Calls P aaZ #[(Iv frames),(Iv slots),(Sv sizes),(Sv l)] w (Ret K):=ofVc (A:=anB) Tryz.func28 (by kernel_rfl) (by kernel_rfl) h
def ao0:Ann:= {quiet:=fun d=> [15,17,28,34,44,53,64,77,88,96,99,110,113,121].contains d}
def aqO (c:Option Addr) (a_0:Int) (a_1:Int) (a_2:Int) (a_3:Int) (a_4:Int) (a_5:Int) (K:Value ->World ->Prop) (w:World):Prop:=
 Al (.cells #[(Iv a_0),(Iv a_1),(Iv a_2),(Iv a_3),(Iv a_4),(Iv a_5)] 53) (fun p1 w2=>∃ x3,w2.cell? (p1.add 0)=some (Iv x3)/\(12:Int)≠0/\bif ((x3.tmod 12)==0) then (∃ x4,w2.cell? (p1.add 1)=some (Iv x4)/\Calls P abW #[(Pv c),(Iv x4)] w2 fun e6 w5=>∃ x7:Int,∃ x8:Int,e6= .returned (.tuple #[(Iv x7),(Iv x8)])/\K (.tuple #[(Iv x7),(Iv 0),(Iv x8)]) w5) else (bif ((x3.tmod 12)==1) then (∃ x9,w2.cell? (p1.add 1)=some (Iv x9)/\Calls P ae3 #[(Pv c),(Iv x9)] w2 fun e11 w10=>∃ x12,e11= .returned (Iv x12)/\K (.tuple #[(Iv 0),(Iv 0),(Iv x12)]) w10) else (bif ((x3.tmod 12)==2) then (∃ x13,w2.cell? (p1.add 1)=some (Iv x13)/\∃ x14,w2.cell? (p1.add 2)=some (Iv x14)/\∃ x15,w2.cell? (p1.add 3)=some (Iv x15)/\Calls P ad5 #[(Pv c),(Iv x13),(Iv x14),(Iv x15)] w2 fun e17 w16=>∃ x18,e17= .returned (Iv x18)/\K (.tuple #[(Iv 0),(Iv 0),(Iv x18)]) w16) else (bif ((x3.tmod 12)==3) then (∃ x19,w2.cell? (p1.add 1)=some (Iv x19)/\Calls P aa1 #[(Pv c),(Iv x19)] w2 fun e21 w20=>∃ x22:Int,∃ x23:Int,∃ x24:Int,e21= .returned (.tuple #[(Iv x22),(Iv x23),(Iv x24)])/\K (.tuple #[(Iv x22),(Iv x23),(Iv x24)]) w20) else (bif ((x3.tmod 12)==4) then (∃ x25:Int,w2.cell? ((p1.add 4).add 0)=some (Iv x25)/\∃ x26:Int,w2.cell? ((p1.add 4).add 1)=some (Iv x26)/\∃ x27,w2.cell? (p1.add 1)=some (Iv x27)/\Calls P afD #[(Pv c),(.agg #[(Iv x25),(Iv x26)]),(Iv x27)] w2 fun e29 w28=>∃ x30:Int,∃ x31:Int,∃ x32:Int,e29= .returned (.tuple #[(Iv x30),(Iv x31),(Iv x32)])/\K (.tuple #[(Iv x30),(Iv x31),(Iv x32)]) w28) else (bif ((x3.tmod 12)==5) then (∃ x33,w2.cell? (p1.add 2)=some (Iv x33)/\∃ x34,w2.cell? (p1.add 1)=some (Iv x34)/\Calls P ad4 #[(Pv c),(Iv x33),(Iv x34)] w2 fun e36 w35=>∃ x37:Int,∃ x38:Int,e36= .returned (.tuple #[(Iv x37),(Iv x38)])/\K (.tuple #[(Iv x37),(Iv 0),(Iv x38)]) w35) else (bif ((x3.tmod 12)==6) then (∃ x39,w2.cell? (p1.add 2)=some (Iv x39)/\∃ x40,w2.cell? (p1.add 1)=some (Iv x40)/\Calls P afC #[(Pv c),(Iv x39),(Iv x40)] w2 fun e42 w41=>∃ x43:Int,∃ x44:Int,∃ x45:Int,e42= .returned (.tuple #[(Iv x43),(Iv x44),(Iv x45)])/\K (.tuple #[(Iv x43),(Iv x44),(Iv x45)]) w41) else (bif ((x3.tmod 12)==7) then (∃ x46,w2.cell? (p1.add 2)=some (Iv x46)/\∃ x47,w2.cell? (p1.add 1)=some (Iv x47)/\∃ x48,w2.cell? (p1.add 3)=some (Iv x48)/\Calls P aeQ #[(Pv c),(Iv x46),(Iv x47),(.int .u8 (IntKind.u8.wrap x48))] w2 fun e50 w49=>∃ x51,e50= .returned (Iv x51)/\K (.tuple #[(Iv 0),(Iv 0),(Iv x51)]) w49) else (bif ((x3.tmod 12)==8) then (∃ x52,w2.cell? (p1.add 2)=some (Iv x52)/\∃ x53,w2.cell? (p1.add 1)=some (Iv x53)/\Calls P ac1 #[(Pv c),(Iv x52),(Iv x53)] w2 fun e55 w54=>∃ x56:Int,∃ x57:Int,e55= .returned (.tuple #[(.int .u8 x56),(Iv x57)])/\K (.tuple #[(Iv (IntKind.i64.wrap x56)),(Iv 0),(Iv x57)]) w54) else (bif ((x3.tmod 12)==9) then (∃ x58,w2.cell? (p1.add 2)=some (Iv x58)/\∃ x59,w2.cell? (p1.add 3)=some (Iv x59)/\Calls P ad6 #[(Pv c),(Iv x58),(Iv x59)] w2 fun e61 w60=>∃ x62,e61= .returned (Iv x62)/\K (.tuple #[(Iv 0),(Iv 0),(Iv x62)]) w60) else (bif ((x3.tmod 12)==10) then (∃ x63,w2.cell? (p1.add 1)=some (Iv x63)/\Calls P agy #[(Pv c),(Iv x63)] w2 fun e65 w64=>∃ x66,e65= .returned (Iv x66)/\K (.tuple #[(Iv x66),(Iv 0),(Iv 0)]) w64) else (∃ x67,w2.cell? (p1.add 1)=some (Iv x67)/\∃ x68,w2.cell? (p1.add 3)=some (Iv x68)/\Calls P acU #[(Pv c),(Iv x67),(Iv x68)] w2 fun e70 w69=>∃ x71,e70= .returned (Iv x71)/\K (.tuple #[(Iv x71),(Iv 0),(Iv 0)]) w69)))))))))))) w
theorem aqz (c:Option Addr) (a_0:Int) (a_1:Int) (a_2:Int) (a_3:Int) (a_4:Int) (a_5:Int) (h:aqO c a_0 a_1 a_2 a_3 a_4 a_5 K w):Calls P aag #[(Pv c),(.agg #[(Iv a_0),(Iv a_1),(Iv a_2),(Iv a_3),(Iv a_4),(Iv a_5)])] w (Ret K):=ofVc (A:=ao0) Tryz.func29 (by kernel_rfl) (by kernel_rfl) h
end Go.Mp
end
section
set_option maxRecDepth 100000
namespace Go.Mp
open Go Go.Vc Go.Sp Go.Proofs Go.Kc
variable {E:Env} {L:List Asn} {w:World} {A:At} {S:Cs}
theorem aGR (n:Int):IntKind.u8.wrap n=((u8I n).toNat:Int):=by
 rw [aCc,u8w]
theorem aFx (S:Cs) (id at_:Int):0<=(S.get id at_).2.1/\(S.get id at_).2.1<256:=by
 unfold Cs.get
 dsimp only
 split
 ·exact ⟨by simp,by simp⟩
 ·refine ⟨by simp only;omega,?_⟩
  have:=UInt8.toNat_lt (By.gt S.fr.pool.length S.fr.by_ (S.here id).1 at_).1
  simp only;omega
theorem c_Do {x:Kc.Act} (I:Kc.Inv S) (hn:S.pages.next<16777216) (h:Sep E (aaa A S++L) w):Calls P aag #[.pointer (some ⟨A.c,0,none⟩),.agg #[.int .i64 x.k,.int .i64 x.a,.int .i64 x.b,.int .i64 x.c,.int .i64 x.kf,.int .i64 x.ki]] w
  (Ret fun v w'=>v= .tuple #[.int .i64 (S.act x).2.1,.int .i64 (S.act x).2.2.1,.int .i64 (S.act x).2.2.2]/\∃ gs us:Sl,Sep E (aaa {A with gs:=gs,us:=us} (S.act x).1++L) w'):=by
 apply aqz
 refine Al.i h (fun b w1 h1=> ?_)
 have h1:Sep E (aaa A S++blk b [.int .i64 x.k,.int .i64 x.a,.int .i64 x.b,.int .i64 x.c,.int .i64 x.kf,.int .i64 x.ki]::L) w1:=Sep.inn h1
 refine ld h1 16 rfl rfl rfl ⟨by decide,?_⟩
 refine bEq (fun e0=> ?_) (fun n0=> ?_)
 ·have e:S.act x=((S.addGroup x.a).1,(S.addGroup x.a).2.1,0,(S.addGroup x.a).2.2):=by unfold Cs.act;dsimp only;rw [if_pos e0]
  rw [e]
  iterate 1 refine ld h1 16 rfl rfl rfl ?_
  refine use (ajb I h1) ?_
  rintro _ w2 ⟨rfl,gs,us,h2⟩
  exact ⟨_,_,rfl,rfl,gs,us,h2.cut⟩
 refine bEq (fun e1=> ?_) (fun n1=> ?_)
 ·have e:S.act x=((S.remove x.a).1,0,0,(S.remove x.a).2):=by unfold Cs.act;dsimp only;rw [if_neg n0,if_pos e1]
  rw [e]
  iterate 1 refine ld h1 16 rfl rfl rfl ?_
  refine use (ayI I h1) ?_
  rintro _ w2 ⟨rfl,h2⟩
  exact ⟨_,rfl,rfl,A.gs,A.us,h2.cut⟩
 refine bEq (fun e2=> ?_) (fun n2=> ?_)
 ·have e:S.act x=((S.limit x.a x.b x.c).1,0,0,(S.limit x.a x.b x.c).2):=by unfold Cs.act;dsimp only;rw [if_neg n0,if_neg n1,if_pos e2]
  rw [e]
  iterate 3 refine ld h1 16 rfl rfl rfl ?_
  refine use (auU I h1) ?_
  rintro _ w2 ⟨rfl,h2⟩
  exact ⟨_,rfl,rfl,A.gs,A.us,h2.cut⟩
 refine bEq (fun e3=> ?_) (fun n3=> ?_)
 ·have e:S.act x=S.fresh x.a:=by unfold Cs.act;dsimp only;rw [if_neg n0,if_neg n1,if_neg n2,if_pos e3]
  rw [e]
  iterate 1 refine ld h1 16 rfl rfl rfl ?_
  refine use (afO I h1) ?_
  rintro _ w2 ⟨rfl,h2⟩
  exact ⟨_,_,_,rfl,rfl,A.gs,A.us,h2.cut⟩
 refine bEq (fun e4=> ?_) (fun n4=> ?_)
 ·have e:S.act x=S.openF (x.kf,x.ki) x.a:=by unfold Cs.act;dsimp only;rw [if_neg n0,if_neg n1,if_neg n2,if_neg n3,if_pos e4]
  rw [e]
  iterate 3 refine ld h1 16 rfl rfl rfl ?_
  refine use (aE2 (k:=(x.kf,x.ki)) I hn h1) ?_
  rintro _ w2 ⟨rfl,h2⟩
  exact ⟨_,_,_,rfl,rfl,A.gs,A.us,h2.cut⟩
 refine bEq (fun e5=> ?_) (fun n5=> ?_)
 ·have e:S.act x=((S.bring x.b x.a).1,(S.bring x.b x.a).2.1,0,(S.bring x.b x.a).2.2):=by unfold Cs.act;dsimp only;rw [if_neg n0,if_neg n1,if_neg n2,if_neg n3,if_neg n4,if_pos e5]
  rw [e]
  iterate 2 refine ld h1 16 rfl rfl rfl ?_
  refine use (axN I h1) ?_
  rintro _ w2 ⟨rfl,h2⟩
  exact ⟨_,_,rfl,rfl,A.gs,A.us,h2.cut⟩
 refine bEq (fun e6=> ?_) (fun n6=> ?_)
 ·have e:S.act x=S.copy x.b x.a:=by unfold Cs.act;dsimp only;rw [if_neg n0,if_neg n1,if_neg n2,if_neg n3,if_neg n4,if_neg n5,if_pos e6]
  rw [e]
  iterate 2 refine ld h1 16 rfl rfl rfl ?_
  refine use (aEY I h1) ?_
  rintro _ w2 ⟨rfl,h2⟩
  exact ⟨_,_,_,rfl,rfl,A.gs,A.us,h2.cut⟩
 refine bEq (fun e7=> ?_) (fun n7=> ?_)
 ·have e:S.act x=((S.put x.b x.a (u8I x.c)).1,0,0,(S.put x.b x.a (u8I x.c)).2):=by unfold Cs.act;dsimp only;rw [if_neg n0,if_neg n1,if_neg n2,if_neg n3,if_neg n4,if_neg n5,if_neg n6,if_pos e7]
  rw [e]
  iterate 3 refine ld h1 16 rfl rfl rfl ?_
  rw [aGR]
  refine use (am1 I h1) ?_
  rintro _ w2 ⟨rfl,h2⟩
  exact ⟨_,rfl,rfl,A.gs,A.us,h2.cut⟩
 refine bEq (fun e8=> ?_) (fun n8=> ?_)
 ·have e:S.act x=((S.get x.b x.a).1,(S.get x.b x.a).2.1,0,(S.get x.b x.a).2.2):=by unfold Cs.act;dsimp only;rw [if_neg n0,if_neg n1,if_neg n2,if_neg n3,if_neg n4,if_neg n5,if_neg n6,if_neg n7,if_pos e8]
  rw [e]
  iterate 2 refine ld h1 16 rfl rfl rfl ?_
  refine use (ahW I h1) ?_
  rintro _ w2 ⟨rfl,h2⟩
  have hs:=aFx S x.b x.a
  refine ⟨_,_,rfl,?_,A.gs,A.us,h2.cut⟩
  rw [w64 (by omega) (by omega)]
 refine bEq (fun e9=> ?_) (fun n9=> ?_)
 ·have e:S.act x=((S.refer x.b x.c).1,0,0,(S.refer x.b x.c).2):=by unfold Cs.act;dsimp only;rw [if_neg n0,if_neg n1,if_neg n2,if_neg n3,if_neg n4,if_neg n5,if_neg n6,if_neg n7,if_neg n8,if_pos e9]
  rw [e]
  iterate 2 refine ld h1 16 rfl rfl rfl ?_
  refine use (auV I h1) ?_
  rintro _ w2 ⟨rfl,h2⟩
  exact ⟨_,rfl,rfl,A.gs,A.us,h2.cut⟩
 refine bEq (fun e10=> ?_) (fun n10=> ?_)
 ·have e:S.act x=((S.age x.a).1,(S.age x.a).2,0,0):=by unfold Cs.act;dsimp only;rw [if_neg n0,if_neg n1,if_neg n2,if_neg n3,if_neg n4,if_neg n5,if_neg n6,if_neg n7,if_neg n8,if_neg n9,if_pos e10]
  rw [e]
  iterate 1 refine ld h1 16 rfl rfl rfl ?_
  refine use (aEU I h1) ?_
  rintro _ w2 ⟨rfl,h2⟩
  exact ⟨_,rfl,rfl,A.gs,A.us,h2.cut⟩
 have e:S.act x=((S.shrink x.a x.c).1,(S.shrink x.a x.c).2,0,0):=by unfold Cs.act;dsimp only;rw [if_neg n0,if_neg n1,if_neg n2,if_neg n3,if_neg n4,if_neg n5,if_neg n6,if_neg n7,if_neg n8,if_neg n9,if_neg n10]
 rw [e]
 iterate 2 refine ld h1 16 rfl rfl rfl ?_
 refine use (apd I h1) ?_
 rintro _ w2 ⟨rfl,h2⟩
 exact ⟨_,rfl,rfl,A.gs,A.us,h2.cut⟩
theorem ame {T:TS} :T.all.Pairwise (· < ·):=by
 unfold TS.all
 rw [List.pairwise_map]
 exact (List.pairwise_lt_range.filter _).imp (fun {a b} h=>by show (a:Int)<(b:Int);omega)
theorem anX {T:TS} (hT:acp T) {x:Int} :x∈T.all↔(T.pg x).isSome=true:=by
 unfold TS.all
 rw [List.mem_map]
 constructor
 ·rintro ⟨i,hi,rfl⟩
  rw [List.mem_filter] at hi
  exact hi.2
 ·intro h
  obtain ⟨p,hp⟩:=Option.isSome_iff_exists.1 h
  have h1:=hT.ids _ _ hp
  refine ⟨x.toNat,List.mem_filter.2 ⟨List.mem_range.2 (by omega),?_⟩,by show ((x.toNat:Nat):Int)=x;omega⟩
  rw [show ((x.toNat:Nat):Int)=x by omega];exact h
theorem aBq (I:Kc.Inv S):Tp.few S.pages 16777216:=fun k hk=>by
 obtain ⟨p,hp⟩:=Option.isSome_iff_exists.1 hk
 have:=I.tab.ids _ _ hp
 have:=I.ids
 omega
theorem akh (I:Kc.Inv S) (h:Sep E (aaa A S++L) w):Calls P ab4 #[.pointer (some ⟨A.c,0,none⟩)] w
  (Ret fun v w'=>∃ s:Sl,v= .slice s.p s.n s.c/\s.n=S.pages.all.length/\Sep E (aaa A S++rowA s 1 (intL S.pages.all)::L) w'):=by
 apply arK
 refine ⟨_,rfl,ld h 0 rfl rfl rfl (use (Tp.aEV (aBq I) (by decide) (h.fr 11 rfl)) ?_)⟩
 rintro _ w1 ⟨s,l,rfl,hs,hl,h1⟩
 have e:l=S.pages.all:=Gp.aAB (r:=(· < · :Int ->Int ->Prop)) (fun x=>Int.lt_irrefl x) (fun x y z=>Int.lt_trans) hl.rise ame (fun k=>by rw [hl.mem,anX I.tab])
 subst e
 have h1:=h1.put1 (q:=11) rfl
 exact ⟨s,rfl,s,rfl,hs,Sep.inn (Q:=aaa A S) h1⟩
theorem aFR:slQ P 30=some (1,1,[.bool false]):=by kernel_rfl
theorem aER {s:Sl} {q:Nat} {l:List Bool} {x:Bool} (hn:s.n=l.length) (hb:l.length<1000000) (h:Sep E (blk q [.bool x]::rowA s 1 (aak l)::L) w) {G:Sl ->World ->Prop}
  (g:∀ s' w1,s'.n=l.length+1 ->Sep E (rowA s' 1 (aak (l++ [x]))::L) w1 ->G s' w1):
  ∃ x1:Sl,∃ w1,Sem.run P (Builtin.append_ #[30,30] 30 #[.slice s.p s.n s.c,.slice (some ⟨q,0,none⟩) 1 1]) w= .ok (.slice x1.p x1.n x1.c) w1/\G x1 w1:=by
 have hs:=Src.blk (n:=1) (c:=1) h (i:=0) rfl aFR rfl (fun u hu=>by simp at hu;rw [hu];rfl)
 have e:aak (l++ [x])=aak l++ [.bool x]:=by simp [aak]
 refine rowA.append h.swap aFR rfl hs (by omega) (by rw [hn];omega) (fun s' w1 hs' h1=> ?_)
 refine g s' w1 (by rw [hs',hn]) ?_
 rw [e]
 exact (h1.fr 0 rfl).ro 2 [0] rfl
theorem aHt (I:Kc.Inv S) (h:Sep E (aaa A S++L) w):Calls P ahx #[.pointer (some ⟨A.c,0,none⟩)] w
  (Ret fun v w'=>∃ s:Sl,v= .slice s.p s.n s.c/\s.n=S.guards.length/\Sep E (aaa A S++rowA s 1 (aak (S.guards.map aaz.whole))::L) w'):=by
 have hfew:S.guards.length<=64:=by rw [I.gl];exact I.wf.few
 apply arM
 unfold ala
 have hgn:=(acv.open (h.fr 13 rfl)).1
 refine ⟨_,rfl,A.gs,h.cellAt 0 rfl 12,?_⟩
 refine ⟨fun s i w'=>∃ k:Nat,i=k/\k<=S.guards.length/\s.n=k/\Sep E (aaa A S++rowA s 1 (aak ((S.guards.take k).map aaz.whole))::L) w',fun _ i _=>(S.guards.length - i).toNat,⟨0,rfl,Nat.zero_le _,rfl,Sep.inn (rowA.none_ h)⟩,?_⟩
 rintro _ s _ w1 ⟨k,rfl,hk,hsn,h1⟩
 refine bLt (fun hlt=> ?_) (fun hge=> ?_)
 ·have hkl:k<S.guards.length:=by omega
  obtain ⟨x,hx⟩:∃ x,S.guards[k]? =some x:=⟨_,List.getElem?_eq_getElem hkl⟩
  refine elC aaz.vs3 0 (acv.open (h1.fr 13 rfl)).2 rfl hgn rfl hx (fun b _ hc=>⟨x.min,by rw [aad];exact hc 0 _ rfl,x.low,by rw [aad];exact hc 1 _ rfl,x.whole,by rw [aad];exact hc 2 _ rfl,?_⟩)
  refine Al.i h1 (fun p13 w2 h2=>zst (vs:=aaz.vs x) _ h2 rfl (fun w3 h3=>ld h3 0 rfl rfl rfl (Al.i h3.tail (fun q w4 h4=> ?_))))
  have h4:Sep E (blk q [.bool x.whole]::rowA s 1 (aak ((S.guards.take k).map aaz.whole))::(aaa A S++L)) w4:=(h4.fr 17 rfl).swap
  refine aER (by simp;omega) (by simp;omega) h4 (fun s' w5 hs' h5=> ?_)
  have e:(S.guards.take (k+1)).map aaz.whole=(S.guards.take k).map aaz.whole++ [x.whole]:=by rw [aaj hx,List.map_append];rfl
  rw [aah (by omega)]
  refine ⟨⟨k+1,rfl,hkl,by rw [hs'];simp;omega,by rw [e];exact Sep.inn (Q:=aaa A S) h5⟩,?_⟩
  show (((S.guards.length:Nat):Int) - ((k+1:Nat):Int)).toNat<(((S.guards.length:Nat):Int) - (k:Int)).toNat
  omega
 ·have:k=S.guards.length:=by omega
  subst this
  rw [List.take_length] at h1
  exact ⟨s,rfl,hsn,h1⟩
end Go.Mp
end
section
set_option maxRecDepth 100000
namespace Go.Mp
open Go Go.Vc Go.Sp Go.Proofs Go.Kc
variable {E:Env} {L:List Asn} {w:World} {A:At} {S:Cs} {o:Array Obj}
theorem ac3 (h:Sep E (aaa A S++L) w):Sep E (tabA A.o::L) w:=h.ro 16 [15] rfl
def w0:Cs:=Kc.new 1 1 []
def w1':Cs:=(w0.fresh 0).1
def w2':Cs:=(w1'.fresh 0).1
def w3':Cs:=(w2'.fresh 0).1
theorem aCt:(w0.fresh 0).2=(0, -1,0):=by decide+kernel
theorem aCu:(w1'.fresh 0).2=(1, -1,0):=by decide+kernel
theorem aDS:(w2'.pages.get 0).2=0/\(w2'.pages.get 0).1.place=2:=by decide+kernel
theorem aCv:(w2'.fresh 0).2=(-1,0,12):=by decide+kernel
theorem as9:w3'.memory 0=1/\w3'.swap 0=1/\w3'.pages.all.length=2/\w3'.guards.length=1:=by decide+kernel
theorem ayA:w0.pages.next<16777216/\w1'.pages.next<16777216/\w2'.pages.next<16777216:=by decide+kernel
theorem inv0:Kc.Inv w0:=Inv.new 1 1 []
theorem inv1:Kc.Inv w1':=inv0.fresh ayA.1 0
theorem inv2:Kc.Inv w2':=inv1.fresh ayA.2.1 0
theorem inv3:Kc.Inv w3':=inv2.fresh ayA.2.2 0
theorem afP (h:Sep E (tabA o::L) w):Calls P aao #[] w (Ret fun v w'=>v= .bool true/\Sep E (tabA o::L) w'):=by
 apply anQ
 refine use (afB (sz:=⟨none,0,0⟩) (l:= []) ⟨rfl,fun _ _ i x hx=>(by simp at hx)⟩ (Nat.le_refl _) h) ?_
 rintro _ w1 ⟨A,rfl,rfl,h1⟩
 have h1:Sep E (aaa A w0++L) w1:=h1
 refine ⟨_,rfl,fun w'=>Sep E (aaa A w0++L) w',bF rfl (use (al8 h1) ?_),?_⟩
 ·rintro _ w2 ⟨rfl,h2⟩
  exact ⟨_,rfl,bF rfl h2⟩
 intro _ w2 h2
 refine use (afO inv0 h2) ?_
 rintro _ w3 ⟨rfl,h3⟩
 refine ⟨_,_,_,rfl,use (afO inv1 h3) ?_⟩
 rintro _ w4 ⟨rfl,h4⟩
 refine ⟨_,_,_,rfl,use (ahX 0 h4) ?_⟩
 rintro _ w5 ⟨rfl,h5⟩
 refine ⟨_,_,_,_,_,_,_,_,_,_,rfl,Al.i h5 (fun b w6 h6=>zst (vs:=((w1'.fresh 0).1.pages.get 0).1.vs) _ h6 rfl (fun w7 h7=> ?_))⟩
 have h7:Sep E (aaa A w2'++blk b (w2'.pages.get 0).1.vs::L) w7:=Sep.inn h7
 refine use (afO inv2 h7) ?_
 rintro _ w8 ⟨rfl,h8⟩
 have h8:Sep E (aaa A w3'++blk b (w2'.pages.get 0).1.vs::L) w8:=h8
 refine ⟨_,_,_,rfl,bT (by rw [aCt];rfl) (bT (by rw [aCt];rfl) (bT (by rw [aCu];rfl) (bT (by rw [aCu];rfl) (bT (by rw [show ((w1'.fresh 0).1.pages.get 0).2=0 from aDS.1];rfl) ?_))))⟩
 refine ld h8 16 rfl rfl rfl (bT (by rw [aDS.2];rfl) (bT (by rw [aCv];rfl) (bT (by rw [aCv];rfl) (use (abk 0 h8) ?_))))
 rintro _ w9 ⟨rfl,h9⟩
 refine ⟨_,rfl,bT (by rw [as9.1];rfl) (use (agU 0 h9) ?_)⟩
 rintro _ w10 ⟨rfl,h10⟩
 refine ⟨_,rfl,bT (by rw [as9.2.1];rfl) (use (akh inv3 h10) ?_)⟩
 rintro _ w11 ⟨s,rfl,hs,h11⟩
 refine ⟨s,rfl,bT (by rw [hs,as9.2.2.1];rfl) (use (aHt inv3 h11) ?_)⟩
 rintro _ w12 ⟨s2,rfl,hs2,h12⟩
 refine ⟨s2,rfl,by rw [hs2,as9.2.2.2];rfl,?_⟩
 exact ac3 h12.cut.cut.cut
theorem akK (frames slots:Int) (sizes l:Sl) (w:World):Calls P aaZ #[.int .i64 frames,.int .i64 slots,.slice sizes.p sizes.n sizes.c,.slice l.p l.n l.c] w
  (Ret fun v w'=>v= .bool (decide (frames>40)||decide (slots>40)||decide (sizes.n>40)||decide (l.n>60))/\w'=w):=by
 apply aoq
 unfold aiW
 refine bGt (fun h1=>⟨by rw [decide_eq_true h1];rfl,rfl⟩) (fun h1=>bGt (fun h2=>⟨by rw [decide_eq_true h2,Bool.or_true];rfl,rfl⟩) (fun h2=>bGt (fun h3=>⟨by rw [decide_eq_true (show sizes.n>40 by omega),Bool.or_true];rfl,rfl⟩) (fun h3=>⟨?_,rfl⟩)))
 rw [decide_eq_false (show ¬ frames>40 by omega),decide_eq_false (show ¬ slots>40 by omega),decide_eq_false (show ¬ sizes.n>40 by omega)]
 simp only [Bool.false_or]
 congr 1
 simp only [decide_eq_decide]
 omega
end Go.Mp
end
section
set_option maxRecDepth 100000
namespace Go.Mp
open Go Go.Vc Go.Sp Go.Proofs Go.Kc
variable {E:Env} {L:List Asn} {w:World} {A:At} {S:Cs}
def aeB (x:Kc.Act):List Value:= [.int .i64 x.k,.int .i64 x.a,.int .i64 x.b,.int .i64 x.c,.int .i64 x.kf,.int .i64 x.ki]
def acL (W:World) (l:Sl) (xs:List Kc.Act):Prop:=l.n=xs.length/\∀ (i:Nat) x,xs[i]? =some x ->∃ a,l.p=some a/\∀ (j:Nat) v,(aeB x)[j]? =some v ->W.cell? ((a.add (i*6)).add j)=some v
theorem oldT {W:World} {q:Nat} {a:Addr} {v:Value} (h:Sep E L w) (hq:L[q]? =some (tabA W.heap)) (hv:W.cell? a=some v):w.cell? a=some v:=
 (tabA.open (h.fr q hq)).2.oldCell (i:=0) rfl hv
end Go.Mp
end
section
set_option maxRecDepth 100000
namespace Go.Mp
open Go Go.Vc Go.Sp Go.Proofs Go.Kc
theorem ayp {α:Type} {n:Nat} {R:Nat ->α ->Prop} (h:∀ i,i<n ->∃ x,R i x):∃ l:List α,l.length=n/\∀ i x,l[i]? =some x ->R i x:=by
 induction n with
 | zero=>exact ⟨[],rfl,fun i x hx=>by simp at hx⟩
 | succ n ih=>
  obtain ⟨l,hl,hr⟩:=ih (fun i hi=>h i (by omega))
  obtain ⟨x,hx⟩:=h n (by omega)
  refine ⟨l++ [x],by simp [hl],fun i y hy=> ?_⟩
  rcases Nat.lt_or_ge i n with hi | hi
  ·rw [List.getElem?_append_left (by omega)] at hy;exact hr i y hy
  ·have hlt:=(List.getElem?_eq_some_iff.1 hy).1
   have:i=n:=by simp [hl] at hlt;omega
   subst this
   rw [List.getElem?_append_right (by omega),hl,Nat.sub_self] at hy
   rw [<- Option.some.inj hy];exact hx
theorem aCG {W:World} {v:Value} (h:Rd P W aff [v]):∃ (l:Sl) (xs:List Kc.Act),v= .slice l.p l.n l.c/\acL W l xs:=by
 obtain ⟨p,n,c,rfl,_,_,hi⟩:=h.slice1 (e:=ajK) (by kernel_rfl)
 have key:∀ i,i<n ->∃ x:Kc.Act,∃ a,p=some a/\∀ (j:Nat) v,(aeB x)[j]? =some v ->W.cell? ((a.add (i*6)).add j)=some v:=by
  intro i hlt
  obtain ⟨a,es,rfl,hl,hc,hr⟩:=hi i hlt
  have h5:P.cellsOf ajK=6:=by kernel_rfl
  rw [h5] at hc hl
  have hf:=hr.leaves 3 (ts:= [adJ,adJ,adJ,adJ,adJ,adJ]) (by kernel_rfl)
  match es,hl,hf with
  | [v0,v1,v2,v3,v4,v5],_,⟨r0,r1,r2,r3,r4,r5,_⟩=>
  obtain ⟨k,rfl,_⟩:=r0.int1 (k:= .i64) (by kernel_rfl)
  obtain ⟨x1,rfl,_⟩:=r1.int1 (k:= .i64) (by kernel_rfl)
  obtain ⟨x2,rfl,_⟩:=r2.int1 (k:= .i64) (by kernel_rfl)
  obtain ⟨x3,rfl,_⟩:=r3.int1 (k:= .i64) (by kernel_rfl)
  obtain ⟨x4,rfl,_⟩:=r4.int1 (k:= .i64) (by kernel_rfl)
  obtain ⟨x5,rfl,_⟩:=r5.int1 (k:= .i64) (by kernel_rfl)
  refine ⟨⟨k,x1,x2,x3,x4,x5⟩,a,rfl,fun j v hj=> ?_⟩
  have hj6:j<6:=(List.getElem?_eq_some_iff.1 hj).1
  rw [hc j hj6];exact hj
 obtain ⟨xs,hl,hx⟩:=ayp key
 exact ⟨⟨p,n,c⟩,xs,rfl,hl.symm,hx⟩
end Go.Mp
end
section
namespace Go.Sp
open Go Go.Vc Go.RowKit Go.ChangeShapes
section
variable {H:Type} {enc:TypeId×Value ->H}
theorem abO {C:Checked} {os:Os} {f:FuncId} {fn:Func} {s:ChangeSpec} {conds:List PathCond} {apart fresh handsOn:Bool} {tb:TypeId} {X:World ->Prop} (hX:∀ (w w':World),w.heap=w'.heap ->X w ->X w')
  (own:ownKnob C.prog.godebug=none) (started:os.Started) (noInit:C.prog.inits.idxOf? f=none) (hfn:C.prog.funcs[f]? =some fn)
  (witness:∃ (w:World) (tape:Tape) (i:Input),w.os=os/\(w.forCall tape i).Shaped C.prog/\i.vars= []/\Input.okWide C.prog (w.forCall tape i) .any w.heap.size f i/\
   ((s.pre enc C.prog fn conds apart (w.forCall tape i).memory i.args/\X (w.forCall tape i).memory)/\sizedMet enc C.prog fn (OpenSpec.ofChange s) apart (w.forCall tape i).memory i.args)/\Assume.holds {} C.prog (lone (Frame.enter C.prog f i.args .normal) [] (w.forCall tape i)))
  (hl:laidOutB C.prog=true) (hread:(fn.params.toList.all fun t=>C.prog.readableRec t&&Nat.blt t C.prog.types.size)=true) (hvars:varsRowed C.prog s.vars=true) (hres:fn.resultTypes.toList= [tb]) (htb:C.prog.underlying tb=some .bool)
  (hspec:∀ ds gs:List (DataW H),ds.length=fn.params.size ->gs.length=s.vars.length ->s.fn H (ds++gs)= {results:= [.lit (.bool true)],args:=ds,vars:=gs})
  (contract:∀ (W:World) (base:Nat) (args:Array Value),args.size=fn.params.size ->(∀ (j:Nat) t v,fn.params[j]? =some t ->args[j]? =some v ->Rd C.prog W t v.cells.toList/\Value.okWide C.prog W .any base t v) ->W.ShapedOpen C.prog ->X W ->
   Calls C.prog f args W (Ret fun v W'=>v= .bool true/\Below W.heap.size W W')):
  ReturnsInHanded {} C os f .any (fun w args=>(s.pre enc C.prog fn conds apart w args/\X w)/\sizedMet enc C.prog fn (OpenSpec.ofChange s) apart w args) (s.post enc C.prog fn apart fresh handsOn false):=by
 refine returnsInHanded_of_calls own started noInit witness ?_
 intro w tape i _ hsh _ hok hpre hholds
 obtain ⟨_,_,_,fn',hfn',_,_,_,_,hval⟩:=hok
 have e:fn'=fn:=Option.some.inj (hfn'.symm.trans hfn)
 subst e
 obtain ⟨⟨⟨ds,gs,before,hw,hc⟩,hx⟩,hz⟩:=hpre
 have hW:=DataW.Whole.of_heap (w':=w.forCall tape i) (by rfl) hw
 obtain ⟨p,q,hA,hV,hpq,hfz,hnd⟩:=id hW
 refine (contract (w.forCall tape i) w.heap.size i.args (by have:=(anV hA).1;simpa using this) (fun j t v ht hv=>⟨axz hA j t v (by simpa using ht) (by simpa using hv),hval j t v ht hv⟩) hsh (hX _ _ (by rfl) hx)).mono fun e W' ⟨v,he,hv,hb⟩=> ?_
 subst he
 subst hv
 exact ChangeSpec.post_blind (aGz hl hread hvars hres htb (hspec ds gs) hW hb)
end
end Go.Sp
end
section
namespace Go
def jfA (P:Program) (fn:Func) (s:ChangeSpec) (c:OpenClaim):Bool:=
 c.wf (OpenSpec.ofChange s)&&laidOutB P&&mapsRowed P&&fn.params.all (P.readableRec ·)&&namedTie P c.named s.vars
def jfB (P:Program) (f:FuncId) (c:OpenClaim):Bool:=
 (c.stops== [])&&(P.stops== [])&&(c.knobs== [])&&(P.stopKnobs== [])&&(c.inPlace==P.inPlace f)
def jfC (P:Program) (f:FuncId) (c:OpenClaim):Bool:=c.unfollowed==P.unfollowed f
def jfD (P:Program) (f:FuncId) (c:OpenClaim):Bool:=c.recurses==P.recurses f
def jfE (P:Program) (f:FuncId) (c:OpenClaim):Bool:=c.named==P.varsNamed f
def jfF (P:Program) (fn:Func) (s:ChangeSpec) (c:OpenClaim):Bool:=
 (c.maps==(fn.params.toList++s.plain.varTypes P).any (P.mapsRec ·))&&(c.ifaces==(fn.params.toList++s.plain.varTypes P).any (P.ifacesRec ·))&&(c.mapsOut==P.mapsAmong fn.resultTypes.toList)&&
 (c.loops==(fn.params.toList++s.plain.varTypes P).any (P.loopsFrom ·))&&(c.wideKeys==(fn.params.toList++s.plain.varTypes P++fn.resultTypes.toList).any (P.wideKeysFrom ·))
def jfG (P:Program) (fn:Func) (s:ChangeSpec) (c:OpenClaim):Bool:=
 s.vars.all (P.varReadable ·)&&fn.resultTypes.all (fun t=>P.readableRec t&&decide (t<P.types.size))&&(c.ifacesOut==fn.resultTypes.toList.any (P.ifacesRec ·))&&(c.loopsOut==fn.resultTypes.toList.any (P.loopsFrom ·))&&(c.plainKeys==P.plainKeys)&&c.shortTexts.isNone
def jfH (P:Program) (c:OpenClaim):Bool:=P.stopsHeard&&P.mayEnter&&(c.lifted==P.liftsFinal)&&(P.make==some c.make)
def jfI (P:Program) (fn:Func) (s:ChangeSpec) (c:OpenClaim):Bool:=
 (c.kinds==(if c.domain.isEmpty then [] else fn.params.toList.map fun t=>match P.underlying t with | some (.int k)=>some k | _=>none))&&(c.pinned==c.pinnedBy)&&
 (c.veiled==(fn.params.toList++s.plain.varTypes P++fn.resultTypes.toList).any (P.veiledRec ·))&&c.veiledFits P fn.params.toList (fn.params.toList++s.plain.varTypes P++fn.resultTypes.toList)
theorem aeh {P:Program} {f:FuncId} {fn:Func} {s:ChangeSpec} {c:OpenClaim} (hA:jfA P fn s c=true) (hB:jfB P f c=true) (hC:jfC P f c=true) (hD:jfD P f c=true) (hE:jfE P f c=true) (hF:jfF P fn s c=true) (hG:jfG P fn s c=true) (hH:jfH P c=true) (hI:jfI P fn s c=true):
  joinedFacts P f fn s c=true:=by
 unfold jfA at hA
 unfold jfB at hB
 unfold jfC at hC
 unfold jfD at hD
 unfold jfE at hE
 unfold jfF at hF
 unfold jfG at hG
 unfold jfH at hH
 unfold jfI at hI
 unfold joinedFacts
 simp only [Bool.and_eq_true] at hA hB hF hG hH hI ⊢
 obtain ⟨⟨⟨⟨a1,a2⟩,a3⟩,a4⟩,a5⟩:=hA
 obtain ⟨⟨⟨⟨b1,b2⟩,b3⟩,b4⟩,b5⟩:=hB
 obtain ⟨⟨⟨⟨f1,f2⟩,f3⟩,f4⟩,f5⟩:=hF
 obtain ⟨⟨⟨⟨⟨g1,g2⟩,g3⟩,g4⟩,g5⟩,g6⟩:=hG
 obtain ⟨⟨⟨h1,h2⟩,h3⟩,h4⟩:=hH
 obtain ⟨⟨⟨i1,i2⟩,i3⟩,i4⟩:=hI
 exact ⟨⟨⟨⟨⟨⟨⟨⟨⟨⟨⟨⟨⟨⟨⟨⟨⟨⟨⟨⟨⟨⟨⟨⟨⟨⟨⟨⟨⟨⟨⟨a1,a2⟩,a3⟩,a4⟩,a5⟩,b1⟩,b2⟩,b3⟩,b4⟩,b5⟩,hC⟩,hD⟩,hE⟩,f1⟩,f2⟩,f3⟩,f4⟩,f5⟩,g1⟩,g2⟩,g3⟩,g4⟩,g5⟩,g6⟩,h1⟩,h2⟩,h3⟩,h4⟩,i1⟩,i2⟩,i3⟩,i4⟩
end Go
end
section
set_option maxRecDepth 100000
namespace Go.Proofs.YtkjijachkcmelaaGreatDoor
open Go Go.Vc Go.Sp Go.Mp Go.RowKit Go.ChangeShapes
theorem own:ownKnob P.godebug=none:=by kernel_rfl
theorem laidOut:laidOutB P=true:=by kernel_rfl
theorem wf_i64 {n:Int} (h:(Lit.int .i64 n).wf=true): -9223372036854775808<=n/\n<=9223372036854775807:=by
 simpa [Lit.wf,IntKind.has,IntKind.min,IntKind.max,IntKind.signed,IntKind.bits] using h
theorem aa9 {W:World} {base:Nat} {v:Value} (h:Rd P W adJ v.cells.toList/\Value.okWide P W .any base adJ v):∃ n,v= .int .i64 n/\ -9223372036854775808<=n/\n<=9223372036854775807:=by
 obtain ⟨h1,h2⟩:=h
 rw [ahF h2 (by kernel_rfl)] at h1
 obtain ⟨n,h3,h4⟩:=h1.int1 (k:= .i64) (by kernel_rfl)
 exact ⟨n,h3,wf_i64 h4⟩
theorem ayr {t:TypeId} {W:World} {base:Nat} {v:Value} (ha:aggQ P t=some false) (h:Rd P W t v.cells.toList/\Value.okWide P W .any base t v):Rd P W t [v]:=by
 obtain ⟨h1,h2⟩:=h
 rw [ahF h2 ha] at h1
 exact h1
theorem agr {W:World} {base:Nat} {v:Value} (h:Rd P W aff v.cells.toList/\Value.okWide P W .any base aff v):∃ (l:Sl) (xs:List Kc.Act),v= .slice l.p l.n l.c/\acL W l xs:=
 aCG (ayr (by kernel_rfl) h)
abbrev aa3:List (String×DataW Unit):=Rows.coreRefersRow.laid
theorem aeP (os:Os) (args:Array Value):laidMetH P aa3 ((World.laidAll P os aa3).forCall (fun _ _=>0) ⟨#[],args,[]⟩).memory:=by
 rw [MakeChecks.laidMetH_plain _ _ _ (by kernel_rfl)]
 exact laidMet_laidAll _ (by kernel_rfl) (by kernel_rfl)
theorem aHb:P.globalNamed "math/bits.deBruijn64tab" =some 2:=by kernel_rfl
theorem aIm {W:World} (h:laidMetH P aa3 W):∃ o,W.heap[2]? =some o/\akF o:=by
 rw [MakeChecks.laidMetH_plain _ _ _ (by kernel_rfl)] at h
 have ht:Lib.TabIs P W "math/bits.deBruijn64tab" .u8 (Lib.deBruijn64tab.map fun n:Nat=>(n:Int)):=
  Lib.tabIs_of_head (t:=307) (e:=amS) (n:=64) aHb (by kernel_rfl) (by kernel_rfl) (by kernel_rfl) (by kernel_rfl) (by kernel_rfl) h
 unfold Lib.TabIs World.var? at ht
 rw [aHb,Option.bind_some] at ht
 split at ht
 ·next c t z hq=>
  refine ⟨_,hq,c,t,z,rfl,fun j hj=> ?_⟩
  cases ht
  have hl:Lib.deBruijn64tab.length=64:=by decide
  simp [List.getD_eq_getElem?_getD,hl,hj]
 ·cases ht
theorem aek {W:World} (h:laidMetH P aa3 W):Sep (World.env W) [tabA W.heap] W:=Sep.pur.2 ⟨aIm h,Sep.start W⟩
theorem af5 {W w':World} (h:Sep (World.env W) [tabA W.heap] w'):Below W.heap.size W w':=(Sep.pur.1 h).2.below (i:=0) rfl
end Go.Proofs.YtkjijachkcmelaaGreatDoor
end
