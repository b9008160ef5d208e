/- Part of a proof about the core: of its walks and plain laws. -/
import Derived.Test.YtkjijachkcmelaaGreatDoorC10
import Derived.Laws.IdiomRangeMap
set_option linter.all false
section
set_option maxRecDepth 100000
namespace Go.Mp
open Go Go.Vc Go.Sp Go.Stab
section
variable {E:Env} {L:List Asn} {w:World} {s:Sl} {cmp:Value} {lt:Int ->Int ->Bool} {R b:Int ->Int ->Prop}
def Crs (b:Int ->Int ->Prop) (X Y:List Int):Prop:=∀ x∈X,∀ y∈Y,b x y
theorem Crs.merge {Ps Qs:List (List Int)} {X Y Z:List Int} (h:(Ps++X::Y::Qs).Pairwise (Crs b)) (hZ:Z.Perm (X++Y)):(Ps++Z::Qs).Pairwise (Crs b):=by
 have hm:∀ z,z∈Z ->z∈X\/z∈Y:=fun z hz=>List.mem_append.1 (hZ.mem_iff.1 hz)
 rw [List.pairwise_append,List.pairwise_cons,List.pairwise_cons] at h
 rw [List.pairwise_append,List.pairwise_cons]
 obtain ⟨h1,⟨h2,h3,h4⟩,h5⟩:=h
 refine ⟨h1,⟨fun Q hQ z hz y hy=> ?_,h4⟩,fun P' hP Q hQ=> ?_⟩
 ·rcases hm z hz with hz | hz
  ·exact h2 Q (by simp [hQ]) z hz y hy
  ·exact h3 Q hQ z hz y hy
 ·rcases List.mem_cons.1 hQ with rfl | hQ
  ·intro x hx z hz
   rcases hm z hz with hz | hz
   ·exact h5 P' hP X (by simp) x hx z hz
   ·exact h5 P' hP Y (by simp) x hx z hz
  ·exact h5 P' hP Q (by simp [hQ])
theorem Crs.perm {Ps Qs:List (List Int)} {X Z:List Int} (h:(Ps++X::Qs).Pairwise (Crs b)) (hZ:Z.Perm X):(Ps++Z::Qs).Pairwise (Crs b):=by
 have hm:∀ z,z∈Z ->z∈X:=fun z hz=>hZ.mem_iff.1 hz
 rw [List.pairwise_append,List.pairwise_cons] at h ⊢
 obtain ⟨h1,⟨h2,h3⟩,h4⟩:=h
 refine ⟨h1,⟨fun Q hQ z hz y hy=>h2 Q hQ z (hm z hz) y hy,h3⟩,fun P' hP Q hQ=> ?_⟩
 rcases List.mem_cons.1 hQ with rfl | hQ
 ·intro x hx z hz;exact h4 P' hP X (by simp) x hx z (hm z hz)
 ·exact h4 P' hP Q (by simp [hQ])
theorem Crs.split {Ps:List (List Int)} {M1 M2:List Int} (h:(Ps++ [M1++M2]).Pairwise (Crs b)) (hM:(M1++M2).Pairwise b):(Ps++ [M1,M2]).Pairwise (Crs b):=by
 rw [List.pairwise_append] at h hM ⊢
 obtain ⟨h1,_,h3⟩:=h
 refine ⟨h1,by simpa [Crs] using hM.2.2,fun P' hP Q hQ x hx y hy=> ?_⟩
 have:=h3 P' hP (M1++M2) (by simp) x hx y
 simp only [List.mem_cons,List.not_mem_nil,or_false] at hQ
 rcases hQ with rfl | rfl
 ·exact this (by simp [hy])
 ·exact this (by simp [hy])
def Blks (R:Int ->Int ->Prop) (bs:Nat) (Fs:List (List Int)):Prop:=∀ F∈Fs,F.length=bs/\F.Pairwise R
theorem Blks.length {bs:Nat} :∀ {Fs:List (List Int)},Blks R bs Fs ->Fs.flatten.length=bs*Fs.length
 | [],_=>by simp
 | F::Fs,h=>by
  have h1:=(h F (by simp)).1
  have h2:Fs.flatten.length=bs*Fs.length:=Blks.length (fun G hG=>h G (by simp [hG]))
  rw [List.flatten_cons,List.length_append,h1,h2,List.length_cons,Nat.mul_add,Nat.mul_one,Nat.add_comm]
theorem Blks.snoc {bs:Nat} {Fs:List (List Int)} {F:List Int} (h:Blks R bs Fs) (h1:F.length=bs) (h2:F.Pairwise R):Blks R bs (Fs++ [F]):=by
 intro G hG
 rcases List.mem_append.1 hG with hG | hG
 ·exact h G hG
 ·rw [List.mem_singleton.1 hG];exact ⟨h1,h2⟩
theorem auZ {l:List Int} (K:agp R b lt) (hM:l.Pairwise b) (hn:s.n=l.length) (hbig:l.length<288230376151711744) (hc:Cmps E L s cmp lt l.length) (h:Sep E (rowA s 1 (intL l)::L) w):
  Calls P aec #[.slice s.p s.n s.c,.int .i64 (s.n:Nat),cmp] w (Ret fun v w'=>v= .tuple #[]/\∃ l',l'.Perm l/\l'.Pairwise R/\Sep E (rowA s 1 (intL l')::L) w'):=by
 apply akZ
 unfold agm
 rw [hn]
 refine ⟨fun a e w=>∃ Fs M,a=(20*Fs.length:Nat)/\e=(20*Fs.length+20:Nat)/\Blks R 20 Fs/\M.Pairwise b/\(Fs++ [M]).Pairwise (Crs b)/\(Fs.flatten++M).Perm l/\Sep E (rowA s 1 (intL (Fs.flatten++M))::L) w,fun a _ _=>(l.length - a).toNat,
  ⟨[],l,rfl,rfl,fun F hF=>(by cases hF),hM,by simp,by simp,by simpa using h⟩,?_⟩
 rintro _ a e w1 ⟨Fs,M,rfl,rfl,hF,hMb,hX,hP,h1⟩
 have hlen:=hP.length_eq
 have hFl:=hF.length
 rw [List.length_append,hFl] at hlen
 refine bLe (fun hle=> ?_) (fun hgt=> ?_)
 ·have e1:Fs.flatten++M=Fs.flatten++M.take 20++M.drop 20:=by rw [List.append_assoc,List.take_append_drop]
  have l1:(M.take 20).length=20:=by simp;omega
  have hMb':=hMb
  rw [<- List.take_append_drop 20 M] at hMb' hX
  have hX':=Crs.split hX hMb'
  rw [List.pairwise_append] at hMb'
  have lf:(Fs.flatten++M.take 20++M.drop 20).length=l.length:=by rw [<- e1];exact hP.length_eq
  rw [e1] at h1
  rw [<- hn]
  refine use (aio K hMb'.1 (by rw [lf];exact hn) (by omega) (by rw [lf];exact hc) h1 (by rw [hFl]) (by rw [hFl,l1];omega)) ?_
  rintro _ w2 ⟨rfl,M',hM',hMR,h2⟩
  rw [w64 (by omega) (by omega)]
  have l2:M'.length=20:=by rw [hM'.length_eq,l1]
  refine ⟨rfl,⟨Fs++ [M'],M.drop 20,by simp;omega,by simp;omega,hF.snoc l2 hMR,hMb'.2.1,?_,?_,?_⟩,by dsimp only;omega⟩
  ·have:=Crs.perm (Ps:=Fs) (Qs:= [M.drop 20]) hX' hM'
   simpa using this
  ·refine List.Perm.trans ?_ hP
   rw [e1]
   simp only [List.flatten_append,List.flatten_cons,List.flatten_nil,List.append_nil]
   exact (hM'.append_left _).append_right _
  ·simpa using h2
 ·have e1:Fs.flatten++M=Fs.flatten++M++ []:=by simp
  rw [e1] at h1
  rw [<- hn]
  refine use (aio K hMb (by rw [<- e1,hP.length_eq];exact hn) (by rw [<- e1,hP.length_eq];omega) (by rw [<- e1,hP.length_eq];exact hc) h1 (by rw [hFl]) (by rw [hFl];omega)) ?_
  rintro _ w2 ⟨rfl,T,hT,hTR,h2⟩
  rw [List.append_nil] at h2
  have lT:=hT.length_eq
  refine ⟨rfl,fun z w=>∃ (bs:Nat) (Fs:List (List Int)) (T:List Int),z=bs/\20<=bs/\Blks R bs Fs/\T.length<bs/\T.Pairwise R/\(Fs++ [T]).Pairwise (Crs b)/\(Fs.flatten++T).Perm l/\Sep E (rowA s 1 (intL (Fs.flatten++T))::L) w,fun z _=>(l.length - z).toNat,
   ⟨20,Fs,T,rfl,Nat.le_refl _,hF,by omega,hTR,Crs.perm hX hT,(hT.append_left _).trans hP,h2⟩,?_⟩
  rintro _ z w3 ⟨bs,Fs,T,rfl,hbs,hF,hTl,hTR,hX,hP,h3⟩
  have hlen:=hP.length_eq
  have hFl:=hF.length
  rw [List.length_append,hFl] at hlen
  refine bLt (fun hlt=> ?_) (fun hge=>⟨rfl,_,hP,?_,h3⟩)
  ·have hlt':bs<l.length:=by omega
   rw [w64 (n:=2*(bs:Int)) (by omega) (by omega)]
   refine ⟨fun a e w=>∃ Gs Fs T,a=(2*bs*Gs.length:Nat)/\e=(2*bs*Gs.length+2*bs:Nat)/\Blks R (2*bs) Gs/\Blks R bs Fs/\T.length<bs/\T.Pairwise R/\(Gs++(Fs++ [T])).Pairwise (Crs b)/\
     (Gs.flatten++(Fs.flatten++T)).Perm l/\Sep E (rowA s 1 (intL (Gs.flatten++(Fs.flatten++T)))::L) w,fun a _ _=>(l.length - a).toNat,
    ⟨[],Fs,T,by simp,by simp,fun F hF=>(by cases hF),hF,hTl,hTR,by simpa using hX,by simpa using hP,by simpa using h3⟩,?_⟩
   rintro _ a e w4 ⟨Gs,Fs,T,rfl,rfl,hG,hF,hTl,hTR,hX,hP,h4⟩
   have hlen:=hP.length_eq
   have hGl:=hG.length
   have hFl:=hF.length
   rw [List.length_append,List.length_append,hFl,hGl] at hlen
   have hmul:bs*Fs.length<=l.length:=by omega
   have hmul2:2*bs*Gs.length<=l.length:=by omega
   rw [w64 (n:=((2*bs*Gs.length:Nat):Int)+bs) (by omega) (by omega)]
   refine bLe (fun hle=> ?_) (fun hgt=> ?_)
   ·obtain ⟨F1,F2,Fs',rfl⟩:∃ F1 F2 Fs',Fs=F1::F2::Fs':=by
     match Fs,hlen with
     | [],hl=>simp at hl;omega
     | [F],hl=>simp at hl;omega
     | F1::F2::Fs',_=>exact ⟨F1,F2,Fs',rfl⟩
    have f1:=hF F1 (by simp)
    have f2:=hF F2 (by simp)
    have hX0:=hX
    rw [List.pairwise_append] at hX0
    have hcr:Crs b F1 F2:=(List.pairwise_cons.1 hX0.2.1).1 F2 (by simp)
    have e1:Gs.flatten++((F1::F2::Fs').flatten++T)=Gs.flatten++F1++F2++(Fs'.flatten++T):=by simp
    have lf:(Gs.flatten++F1++F2++(Fs'.flatten++T)).length=l.length:=by rw [<- e1];exact hP.length_eq
    rw [e1] at h4
    rw [<- hn]
    refine use (ajd K (by omega) hn hc _ (Nat.le_refl _) (by omega) (by omega) f1.2 f2.2 hcr lf h4 (by rw [hGl]) (by rw [hGl,f1.1]) (by rw [hGl,f1.1,f2.1];omega)) ?_
    rintro _ w5 ⟨rfl,Z,hZ,hZR,h5⟩
    have lz:Z.length=2*bs:=by rw [hZ.length_eq,List.length_append,f1.1,f2.1];omega
    rw [w64 (by omega) (by omega)]
    refine ⟨rfl,⟨Gs++ [Z],Fs',T,?_,?_,hG.snoc lz hZR,fun F hF'=>hF F (by simp [hF']),hTl,hTR,?_,?_,?_⟩,?_⟩
    ·rw [List.length_append,List.length_singleton,Nat.mul_add,Nat.mul_one]
    ·rw [List.length_append,List.length_singleton,Nat.mul_add,Nat.mul_one];omega
    ·have:=Crs.merge (Ps:=Gs) (Qs:=Fs'++ [T]) (by simpa using hX) hZ
     simpa using this
    ·refine List.Perm.trans ?_ hP
     rw [e1]
     simp only [List.flatten_append,List.flatten_cons,List.flatten_nil,List.append_nil]
     have:Gs.flatten++F1++F2++(Fs'.flatten++T)=Gs.flatten++(F1++F2)++(Fs'.flatten++T):=by simp
     rw [this]
     exact (hZ.append_left _).append_right _
    ·simpa using h5
    ·dsimp only;omega
   ·have fin:∀ {T':List Int} {w':World},T'.length<2*bs ->T'.Pairwise R ->T'.Perm (Fs.flatten++T) ->(Gs++ [T']).Pairwise (Crs b) ->Sep E (rowA s 1 (intL (Gs.flatten++T'))::L) w' ->
      ((∃ (bs':Nat) (Fs:List (List Int)) (T:List Int),IntKind.i64.wrap ((bs:Int)*2)=bs'/\20<=bs'/\Blks R bs' Fs/\T.length<bs'/\T.Pairwise R/\(Fs++ [T]).Pairwise (Crs b)/\(Fs.flatten++T).Perm l/\Sep E (rowA s 1 (intL (Fs.flatten++T))::L) w')/\
       (l.length - IntKind.i64.wrap ((bs:Int)*2)).toNat<(l.length - (bs:Int)).toNat):=by
     intro T' w' h1 h2 h3 h4 h5
     rw [w64 (by omega) (by omega)]
     exact ⟨⟨2*bs,Gs,T',by omega,by omega,hG,h1,h2,h4,(h3.append_left _).trans hP,h5⟩,by omega⟩
    rcases Fs with _ | ⟨F,_ | ⟨F2,Fs'⟩⟩
    ·refine bLt (fun hc'=> ?_) (fun _=> ?_)
     ·exfalso;simp at hlen;omega
     ·exact fin (T':=T) (by omega) hTR (by simp) (by simpa using hX) (by simpa using h4)
    ·have f1:=hF F (by simp)
     simp only [List.length_singleton,Nat.mul_one] at hlen
     refine bLt (fun hc'=> ?_) (fun hc'=> ?_)
     ·have hX0:=hX
      rw [List.pairwise_append] at hX0
      have hcr:Crs b F T:=(List.pairwise_cons.1 hX0.2.1).1 T (by simp)
      have e1:Gs.flatten++([F].flatten++T)=Gs.flatten++F++T++ []:=by simp
      have lf:(Gs.flatten++F++T++ []).length=l.length:=by rw [<- e1];exact hP.length_eq
      rw [e1] at h4
      rw [<- hn]
      refine use (ajd K (by omega) hn hc _ (Nat.le_refl _) (by omega) (by omega) f1.2 hTR hcr lf h4 (by rw [hGl]) (by rw [hGl,f1.1]) (by rw [hGl,f1.1];omega)) ?_
      rintro _ w5 ⟨rfl,Z,hZ,hZR,h5⟩
      refine ⟨rfl,?_⟩
      rw [hn]
      refine fin (T':=Z) (by rw [hZ.length_eq,List.length_append,f1.1];omega) hZR (by simpa using hZ) ?_ (by simpa using h5)
      exact Crs.merge (Ps:=Gs) (Qs:= []) (by simpa using hX) hZ
     ·have hT0:T= []:=by
       have:T.length=0:=by omega
       exact List.length_eq_zero_iff.1 this
      subst hT0
      refine fin (T':=F) (by omega) f1.2 (by simp) ?_ (by simpa using h4)
      have:(Gs++F:: []:: []).Pairwise (Crs b):=by simpa using hX
      exact Crs.merge (Ps:=Gs) (Qs:= []) this (by simp)
    ·exfalso
     simp only [List.length_cons,Nat.mul_add,Nat.mul_one] at hlen
     omega
  ·have hge':l.length<=bs:=by omega
   match Fs,hF,hFl,hlen,hX with
   | [],_,_,_,_=>simpa using hTR
   | [F],hF,_,hlen,_=>
    have f1:=hF F (by simp)
    have hT0:T= []:=by
     have:T.length=0:=by simp at hlen;omega
     exact List.length_eq_zero_iff.1 this
    subst hT0
    simpa using f1.2
   | F1::F2::Fs',_,_,hlen,_=>
    exfalso
    simp only [List.length_cons,Nat.mul_add,Nat.mul_one] at hlen
    omega
theorem ami {l:List Int} (K:agp R b lt) (hM:l.Pairwise b) (hn:s.n=l.length) (hbig:l.length<288230376151711744) (hc:Cmps E L s cmp lt l.length) (h:Sep E (rowA s 1 (intL l)::L) w):
  Calls P ac2 #[.slice s.p s.n s.c,cmp] w (Ret fun v w'=>v= .tuple #[]/\∃ l',l'.Perm l/\l'.Pairwise R/\Sep E (rowA s 1 (intL l')::L) w'):=by
 apply aiI
 unfold aeZ
 refine use (auZ K hM hn hbig hc h) ?_
 rintro _ w1 ⟨rfl,h1⟩
 exact ⟨rfl,rfl,h1⟩
end
end Go.Mp
end
section
namespace Go.Sp
open Go Go.Vc
theorem Sep.weak {E:Env} {A A':Asn} {L:List Asn} {w:World} (h:Sep E (A::L) w) (hw:∀ F,A.holds w.heap F ->∃ F',A'.holds w.heap F'/\∀ x,F' x ->F x):Sep E (A'::L) w:=by
 obtain ⟨he,F,h1,h2,h3⟩:=h
 obtain ⟨F',h4,h5⟩:=hw F h1
 exact ⟨he,F',h4,fun b hb=>h2 b (h5 b hb),h3.weaken (fun b hb=>hb.imp id (h5 b))⟩
theorem aGF {P:Program} (w:World) (ty:TypeId) (it bm ck:Nat) (seen:Array Nat) (es:Array MapEntry) (hb:w.heap[bm]? =some (.map es ck)) (hi:w.heap[it]? =some (.mapIter (some bm) ck seen ck)) (hold:∀ x∈es.toList,x.born<ck):
  ((leftOf es seen).size=0/\(Instr.next (.pointer (some ⟨it,0,none⟩)) false ty).run P w= .ok (.tuple #[.bool false]) w)\/
  ∃ e∈(leftOf es seen).toList,∃ w1:World,World.env w1=World.env w/\w1.heap=w.heap.setIfInBounds it (.mapIter (some bm) ck (seen.push e.born) ck)/\(Instr.next (.pointer (some ⟨it,0,none⟩)) false ty).run P w= .ok (.tuple #[.bool true,e.key,e.val]) w1:=by
 simp only [Instr.next,getObj,Sem.run_bind,Sem.run,hi,hb,Result.andThen,next_test_false seen es ck ck hold (Nat.le_refl _),Bool.false_eq_true,if_false]
 unfold leftOf
 have hmem:∀ x∈(Array.filter (fun e=> !seen.contains e.born) es).toList,x.born<ck:=fun x hx=>hold x (by simp at hx ⊢;exact hx.1)
 generalize Array.filter (fun e=> !seen.contains e.born) es=L at hmem ⊢
 have e1:L.filter (fun x=>decide (x.born<ck))=L:=Array.filter_eq_self.2 (fun x hx=>by simpa using hmem x (by simpa using hx))
 have e2:L.filter (fun x=>decide (x.born≥ck))= #[]:=by
  rw [Array.filter_eq_empty_iff]
  intro x hx
  have:=hmem x (by simpa using hx)
  simp
  omega
 simp only [e1,e2,Array.append_empty]
 by_cases h0:L.size=0
 ·left
  have:L= #[]:=Array.eq_empty_of_size_eq_zero h0
  subst this
  refine ⟨rfl,?_⟩
  simp [choose,Sem.run,Question.forced]
 ·right
  have hne:L.isEmpty=false:=by simp [Array.isEmpty,h0]
  simp only [hne,Bool.false_eq_true,if_false,Array.empty_append,Array.size_map]
  have hch:∃ (j:Nat) (w1:World),j<L.size/\World.env w1=World.env w/\w1.heap=w.heap/\(choose (Question.mapNext L.size)).run P w= .ok j w1:=by
   by_cases hf:L.size<=1
   ·exact ⟨0,w,by omega,rfl,rfl,by simp [choose,Sem.run,Question.forced,hf]⟩
   ·exact ⟨_,w.drew,Nat.mod_lt _ (by omega),rfl,rfl,by
     simp only [choose,Sem.run,Question.forced,decide_eq_true_eq,hf,if_false,Question.cut]
     rfl⟩
  obtain ⟨j,w1,hj,hal,hhe,hrun⟩:=hch
  have hi1:w1.heap[it]? =some (.mapIter (some bm) ck seen ck):=by rw [hhe];exact hi
  have hset:∀ (o':Obj),(setObj it o').run P w1= .ok () {w1 with heap:=w1.heap.setIfInBounds it o'} :=fun o'=>by
   simp only [setObj,Sem.run,hi1]
  refine ⟨L[j],by simp, {w1 with heap:=w1.heap.setIfInBounds it (.mapIter (some bm) ck (seen.push L[j].born) ck)},hal,by rw [<- hhe],?_⟩
  simp only [hrun,Array.getElem?_map,Array.getElem?_eq_getElem hj,Option.map_some,Sem.run_bind,hset,Result.andThen]
  rfl
theorem aFr {P:Program} (w:World) (it bm ck:Nat) (seen:Array Nat) (es:Array MapEntry) (e:MapEntry) (hb:w.heap[bm]? =some (.map es ck)) (hi:w.heap[it]? =some (.mapIter (some bm) ck seen ck)) (hs:seen.back? =some e.born)
  (he:e∈es.toList) (hn:(es.toList.map (·.born)).Nodup):(Instr.entry (.pointer (some ⟨it,0,none⟩))).run P w= .ok (.tuple #[e.key,e.val]) w:=by
 have hf:es.find? (·.born==e.born)=some e:=by rw [<- Array.find?_toList];exact find_born e es.toList hn he
 simp only [Instr.entry,getObj,Sem.run_bind,Sem.run,hi,hb,Result.andThen,hs,bne_self_eq_false,Bool.false_eq_true,if_false,hf]
 rfl
section
variable {E:Env} {L:List Asn} {w:World} {P:Program} {κ:Type} [DecidableEq κ] {enc:κ ->Value} {f:κ ->Option Value} {done:κ ->Prop} {cur:Option κ} {it b n:Nat}
structure ItOk {κ:Type} (enc:κ ->Value) (f:κ ->Option Value) (done:κ ->Prop) (cur:Option κ) (n:Nat) (es:List MapEntry) (ck:Nat) (seen:Array Nat):Prop where
 ok:ac9 enc f es ck
 dn:∀ e∈es,∀ k,e.key=enc k ->(seen.contains e.born=true↔done k)
 cu:∀ k,cur=some k ->∃ e∈es,e.key=enc k/\seen.back? =some e.born
 len:(leftOf es.toArray seen).size=n
def aba {κ:Type} (it b:Nat) (enc:κ ->Value) (f:κ ->Option Value) (done:κ ->Prop) (cur:Option κ) (n:Nat):Asn:=
 ⟨fun h F=>(∃ es ck seen,h[b]? =some (.map es.toArray ck)/\h[it]? =some (.mapIter (some b) ck seen ck)/\ItOk enc f done cur n es ck seen)/\∀ x,F x↔x=b\/x=it,
  fun hh hl=>⟨by rw [hl b ((hh.2 b).2 (.inl rfl)),hl it ((hh.2 it).2 (.inr rfl))];exact hh.1,hh.2⟩⟩
omit [DecidableEq κ] in
theorem aba.start {t kt:TypeId} {z:Value} (h:Sep E (mapF b enc f::L) w) (hq:mQ P t=some (kt,z)) {G:Option Addr ->World ->Prop} (g:∀ it w1 n,Sep E (aba it b enc f (fun _=>False) none n::L) w1 ->G (some ⟨it,0,none⟩) w1):
  ∃ x:Option Addr,∃ w1,Sem.run P (Instr.range t (.map (some b))) w= .ok (.pointer x) w1/\G x w1:=by
 obtain ⟨e,ht,_⟩:=aw1 hq
 obtain ⟨es,ck,hb,M⟩:=mapF.at_ (i:=0) h rfl
 have hlt:b<w.heap.size:=(Array.getElem?_eq_some_iff.1 hb).1
 refine ⟨_,_,run_range_map w t kt e b es.toArray ck ht hb,g w.heap.size _ (leftOf es.toArray #[]).size ?_⟩
 refine h.change (A':=aba w.heap.size b enc f (fun _=>False) none _) rfl (by rw [size_alloc];omega) (fun F hF hl=>⟨fun x hx _=>(Grow.alloc w _).heap x hx,fun x=>x=b\/x=w.heap.size,⟨⟨es,ck, #[],?_,?_,M,?_,?_,rfl⟩,fun _=>Iff.rfl⟩,fun x hx=>⟨?_,?_⟩⟩)
 ·rw [(Grow.alloc w _).heap b hlt];exact hb
 ·exact heap_alloc w _
 ·intro e _ k _;simp
 ·intro k hk;cases hk
 ·rw [size_alloc];rcases hx with rfl | rfl<;>omega
 ·rcases hx with rfl | rfl
  ·exact .inl ((hF.2 _).2 rfl)
  ·exact .inr (Nat.le_refl _)
omit [DecidableEq κ] in
theorem aba.over (h:Sep E (aba it b enc f done cur n::L) w):Sep E (mapF b enc f::L) w:=
 h.weak (fun F ⟨⟨es,ck,_,h1,_,h3⟩,hF⟩=>⟨fun x=>x=b,⟨⟨es,ck,h1,h3.ok⟩,fun _=>Iff.rfl⟩,fun x hx=>(hF x).2 (.inl hx)⟩)
omit [DecidableEq κ] in
theorem aba.get (h:Sep E (aba it b enc f done cur n::L) w):∃ es ck seen,w.heap[b]? =some (.map es.toArray ck)/\w.heap[it]? =some (.mapIter (some b) ck seen ck)/\ItOk enc f done cur n es ck seen:=by
 obtain ⟨_,F,⟨h1,_⟩,_⟩:=h;exact h1
def aw0 (w:World) (it b:Nat):Nat:=match w.heap[b]?,w.heap[it]? with
 | some (.map es _),some (.mapIter _ _ seen _)=>(leftOf es seen).size
 | _,_=>0
omit [DecidableEq κ] in
theorem aba.left (h:Sep E (aba it b enc f done cur n::L) w):aw0 w it b=n:=by
 obtain ⟨es,ck,seen,hb,hi,I⟩:=aba.get h
 unfold aw0
 rw [hb,hi];exact I.len
omit [DecidableEq κ] in
theorem aba.next {ty:TypeId} (hinj:∀ a b,enc a=enc b ->a=b) (h:Sep E (aba it b enc f done cur n::L) w) {A:World ->Prop} {B:Value ->Value ->World ->Prop}
  (k1:(∀ k v,f k=some v ->done k) ->∀ w',Sep E (aba it b enc f done cur n::L) w' ->A w')
  (k2:∀ k v n',f k=some v ->¬ done k ->n=n'+1 ->∀ w',Sep E (aba it b enc f (fun x=>done x\/x=k) (some k) n'::L) w' ->B (enc k) v w'):
  (∃ w',Sem.run P (Instr.next (.pointer (some ⟨it,0,none⟩)) false ty) w= .ok (.tuple #[.bool false]) w'/\A w')\/
  (∃ k v:Value,∃ w',Sem.run P (Instr.next (.pointer (some ⟨it,0,none⟩)) false ty) w= .ok (.tuple #[.bool true,k,v]) w'/\B k v w'):=by
 obtain ⟨es,ck,seen,hb,hi,I⟩:=aba.get h
 have M:=I.ok
 have hmemL:∀ e,e∈(leftOf es.toArray seen).toList↔e∈es/\seen.contains e.born=false:=by
  intro e;unfold leftOf;simp
 rcases aGF (P:=P) w ty it b ck seen es.toArray hb hi (fun x hx=>M.born x (by simpa using hx)) with ⟨h0,hr⟩ | ⟨e,he,w1,henv,hheap,hr⟩
 ·refine .inl ⟨w,hr,k1 (fun k v hk=> ?_) w h⟩
  obtain ⟨e,he,hek,_⟩:=M.has k v hk
  refine (I.dn e he k hek).1 ?_
  cases hc:seen.contains e.born with
  | true=>rfl
  | false=>
   have:e∈(leftOf es.toArray seen).toList:=(hmemL e).2 ⟨he,hc⟩
   have:=List.length_pos_of_mem this
   rw [Array.length_toList] at this;omega
 ·obtain ⟨he1,he2⟩:=(hmemL e).1 he
  obtain ⟨k,hek,hfk⟩:=M.key e he1
  have hnd:¬ done k:=fun hd=>by rw [(I.dn e he1 k hek).2 hd] at he2;cases he2
  have hsz:=left_shrinks es.toArray seen e he
  refine .inr ⟨e.key,e.val,w1,hr,?_⟩
  rw [hek]
  have hone:(leftOf es.toArray (seen.push e.born)).size+1=(leftOf es.toArray seen).size:=by
   have go:∀ (c:Nat ->Bool) (l:List MapEntry),c e.born=false ->l.Pairwise (fun a b=>a.born≠b.born) ->e∈l ->(l.filter fun x=> !(c x.born||x.born==e.born)).length+1=(l.filter fun x=> !c x.born).length:=by
    intro c l hc
    induction l with
    | nil=>intro _ h;cases h
    | cons x l ih=>
     intro hp hm
     obtain ⟨hp1,hp2⟩:=List.pairwise_cons.1 hp
     rcases List.mem_cons.1 hm with rfl | hm
     ·have hrest:l.filter (fun x=> !(c x.born||x.born==e.born))=l.filter (fun x=> !c x.born):=by
       apply List.filter_congr
       intro y hy
       have:(y.born==e.born)=false:=by simpa using (hp1 y hy).symm
       rw [this,Bool.or_false]
      rw [List.filter_cons,List.filter_cons,hc,hrest]
      simp
     ·have:=ih hp2 hm
      have hx:(x.born==e.born)=false:=by simpa using hp1 e hm
      rw [List.filter_cons,List.filter_cons,hx,Bool.or_false]
      cases c x.born
      ·simp only [Bool.not_false,if_true,List.length_cons];omega
      ·simpa using this
   have hg:=go (fun y=>seen.contains y) es he2 M.bone he1
   have e1:(leftOf es.toArray (seen.push e.born)).size=(es.filter fun x=> !(seen.contains x.born||x.born==e.born)).length:=by
    unfold leftOf
    rw [<- Array.length_toList,Array.toList_filter]
    congr 2
    funext x
    rw [contains_push]
   have e2:(leftOf es.toArray seen).size=(es.filter fun x=> !seen.contains x.born).length:=by
    unfold leftOf
    rw [<- Array.length_toList,Array.toList_filter]
   rw [e1,e2];exact hg
  refine k2 k e.val (leftOf es.toArray (seen.push e.born)).size hfk hnd (by rw [hone];exact I.len.symm) w1 ?_
  have hit:it<w.heap.size:=(Array.getElem?_eq_some_iff.1 hi).1
  refine h.change (A':=aba it b enc f (fun x=>done x\/x=k) (some k) _) henv (by rw [hheap];simp) (fun F hF hl=>⟨fun x hx hFx=> ?_,F,⟨⟨es,ck,seen.push e.born,?_,?_,M,?_,?_,rfl⟩,hF.2⟩,fun x hx=>⟨?_,.inl hx⟩⟩)
  ·have:it≠x:=fun e=>hFx ((hF.2 x).2 (.inr e.symm))
   rw [hheap,Array.getElem?_setIfInBounds,if_neg this]
  ·have:it≠b:=by
    intro e;rw [e] at hi;rw [hi] at hb;cases hb
   rw [hheap,Array.getElem?_setIfInBounds,if_neg this];exact hb
  ·rw [hheap,Array.getElem?_setIfInBounds,if_pos rfl,if_pos hit]
  ·intro e' he' k' hek'
   rw [contains_push,Bool.or_eq_true,I.dn e' he' k' hek']
   refine or_congr Iff.rfl ⟨fun hbe=> ?_,fun hk=> ?_⟩
   ·have hbe:=beq_iff_eq.1 hbe
    by_cases hee:e'=e
    ·subst hee;exact hinj _ _ (hek'.symm.trans hek)
    ·exfalso
     have:e'.born≠e.born:=by
      have hp:=M.bone
      obtain ⟨i,hi1,rfl⟩:=List.mem_iff_getElem.1 he'
      obtain ⟨j,hj1,rfl⟩:=List.mem_iff_getElem.1 he1
      rcases Nat.lt_trichotomy i j with hlt | rfl | hlt
      ·exact List.pairwise_iff_getElem.1 hp i j hi1 hj1 hlt
      ·exact absurd rfl hee
      ·exact (List.pairwise_iff_getElem.1 hp j i hj1 hi1 hlt).symm
     exact this hbe
   ·have hkk:e'.key=e.key:=by rw [hek',hek,hk]
    have:e'=e:=by
     refine Classical.byContradiction fun hee=> ?_
     have hp:=M.one
     obtain ⟨i,hi1,rfl⟩:=List.mem_iff_getElem.1 he'
     obtain ⟨j,hj1,rfl⟩:=List.mem_iff_getElem.1 he1
     rcases Nat.lt_trichotomy i j with hlt | rfl | hlt
     ·exact List.pairwise_iff_getElem.1 hp i j hi1 hj1 hlt hkk
     ·exact hee rfl
     ·exact List.pairwise_iff_getElem.1 hp j i hj1 hi1 hlt hkk.symm
    rw [this];simp
  ·intro k' hk'
   cases hk'
   exact ⟨e,he1,hek,by simp⟩
  ·rw [hheap];simpa using hl x hx
omit [DecidableEq κ] in
theorem aba.entry {k:κ} {v:Value} (h:Sep E (aba it b enc f done (some k) n::L) w) (hinj:∀ a b,enc a=enc b ->a=b) (hf:f k=some v):Sem.run P (Instr.entry (.pointer (some ⟨it,0,none⟩))) w= .ok (.tuple #[enc k,v]) w:=by
 obtain ⟨es,ck,seen,hb,hi,I⟩:=aba.get h
 obtain ⟨e,he,hek,hs⟩:=I.cu k rfl
 obtain ⟨k',hk',hfk⟩:=I.ok.key e he
 have:k'=k:=hinj _ _ (hk'.symm.trans hek)
 subst this
 rw [hf] at hfk
 have hv:e.val=v:=(Option.some.inj hfk).symm
 rw [<- hek,<- hv]
 refine aFr w it b ck seen es.toArray e hb hi hs (by simpa using he) ?_
 show (es.map (·.born)).Nodup
 rw [List.nodup_iff_pairwise_ne,List.pairwise_map]
 exact I.ok.bone
theorem aba.update {t kt:TypeId} {z v0:Value} (h:Sep E (aba it b enc f done cur n::L) w) (K:acM P kt enc) (hq:mQ P t=some (kt,z)) (k:κ) (v:Value) (hf:f k=some v0) {G:World ->Prop}
  (g:∀ w1,Sep E (aba it b enc (upd f k (some v)) done cur n::L) w1 ->G w1):∃ w1,Sem.run P (Instr.mapUpdate t (.map (some b)) (enc k) v) w= .ok () w1/\G w1:=by
 obtain ⟨e,ht,hz⟩:=aw1 hq
 obtain ⟨es,ck,seen,hb,hi,I⟩:=aba.get h
 have M:=I.ok
 obtain ⟨j,x,hj,hk,hv,hfind⟩:=M.find_some K hf w
 obtain ⟨hlt,hge⟩:=List.getElem?_eq_some_iff.1 hj
 have hm:es.modify j (fun e=> {e with key:=enc k,val:=v})=es.set j {x with key:=enc k,val:=v} :=by
  apply List.ext_getElem?
  intro q
  simp only [List.getElem?_modify,List.getElem?_set]
  by_cases hq:j=q
  ·subst hq;simp [hlt,hge]
  ·simp [hq]
 have hbl:b<w.heap.size:=(Array.getElem?_eq_some_iff.1 hb).1
 have hxe:({x with key:=enc k,val:=v} :MapEntry).born=x.born:=rfl
 have hxm:x∈es:=List.mem_of_getElem? hj
 have old:∀ e∈es.set j ({x with key:=enc k,val:=v} :MapEntry),∃ e0∈es,e.key=e0.key/\e.born=e0.born:=by
  intro e he
  obtain ⟨i,hi,rfl⟩:=List.mem_iff_getElem.1 he
  rw [List.getElem_set]
  split
  ·exact ⟨x,hxm,hk.symm,rfl⟩
  ·exact ⟨_,List.getElem_mem _,rfl,rfl⟩
 have new:∀ e0∈es,∃ e∈es.set j ({x with key:=enc k,val:=v} :MapEntry),e.key=e0.key/\e.born=e0.born:=by
  intro e0 he
  obtain ⟨i,hi,rfl⟩:=List.mem_iff_getElem.1 he
  refine ⟨(es.set j ({x with key:=enc k,val:=v} :MapEntry))[i]'(by simpa using hi),List.getElem_mem _,?_⟩
  rw [List.getElem_set]
  split
  ·next hji=>subst hji;rw [hge];exact ⟨hk.symm,rfl⟩
  ·exact ⟨rfl,rfl⟩
 refine ⟨{w with heap:=w.heap.setIfInBounds b (.map (es.set j ({x with key:=enc k,val:=v} :MapEntry)).toArray ck)},?_,g _ ?_⟩
 ·simp [Instr.mapUpdate,run_underlying ht,MapKept.run_getObj_map hb,K.chk,hfind,Instr.keyThatStays,hj,hk,K.stay,hm,MapKept.run_setObj_map _ hb]
 ·refine h.change (A':=aba it b enc (upd f k (some v)) done cur n) rfl (by simp) (fun F hF hl=>⟨fun y hy hFy=> ?_,F,⟨⟨_,ck,seen,?_,?_,M.put K hj hk v,?_,?_,?_⟩,hF.2⟩,fun y hy=>⟨?_,.inl hy⟩⟩)
  ·have:b≠y:=fun e=>hFy ((hF.2 y).2 (.inl e.symm))
   show (w.heap.setIfInBounds b _)[y]? =_
   rw [Array.getElem?_setIfInBounds,if_neg this]
  ·show (w.heap.setIfInBounds b _)[b]? =_
   rw [Array.getElem?_setIfInBounds,if_pos rfl,if_pos hbl]
  ·have:b≠it:=by
    intro e;rw [e] at hb;rw [hi] at hb;cases hb
   show (w.heap.setIfInBounds b _)[it]? =_
   rw [Array.getElem?_setIfInBounds,if_neg this];exact hi
  ·intro e he k' hek
   obtain ⟨e0,he0,h1,h2⟩:=old e he
   rw [h2];exact I.dn e0 he0 k' (h1.symm.trans hek)
  ·intro k' hk'
   obtain ⟨e0,he0,h1,h2⟩:=I.cu k' hk'
   obtain ⟨e,he,h3,h4⟩:=new e0 he0
   exact ⟨e,he,h3.trans h1,by rw [h4];exact h2⟩
  ·rw [<- I.len]
   unfold leftOf
   have go:∀ (c:Nat ->Bool) (l:List MapEntry) (j:Nat) (x y:MapEntry),l[j]? =some x ->y.born=x.born ->((l.set j y).filter fun e=> !c e.born).length=(l.filter fun e=> !c e.born).length:=by
    intro c l
    induction l with
    | nil=>intro j x y h;simp at h
    | cons a l ih=>
     intro j x y h1 h2
     cases j with
     | zero=>
      simp only [List.getElem?_cons_zero,Option.some.injEq] at h1
      subst h1
      rw [List.set_cons_zero,List.filter_cons,List.filter_cons,h2]
      cases c a.born<;>simp
     | succ j=>
      rw [List.set_cons_succ,List.filter_cons,List.filter_cons]
      have:=ih j x y (by simpa using h1) h2
      cases c a.born
      ·simp only [Bool.not_false,if_true,List.length_cons];omega
      ·simpa using this
   have hg:=go (fun y=>seen.contains y) es j x {x with key:=enc k,val:=v} hj rfl
   rw [<- Array.length_toList,Array.toList_filter,<- Array.length_toList,Array.toList_filter]
   exact hg
  ·simpa using hl y hy
end
end Go.Sp
end
section
set_option maxRecDepth 100000
namespace Go.Mp.Gp
open Go Go.Vc Go.Sp Go.Kc Go.Mp
abbrev encI:Int ->Value:=Value.int .i64
def oneV (g a:Int):Value:= .agg #[.int .i64 g,.int .i64 a]
def gm (R:List Ent):Int ->Option Value:=fun k=>(fnd R k).map fun e=>oneV e.group e.age
theorem apf (a b:Int) (h:encI a=encI b):a=b:=by simpa using h
theorem ahR:acM P adJ encI:=acM.int (by kernel_rfl)
variable {R R':List Ent}
def Lst (l:Nat) (R:List Ent):Asn:=exA fun m:Nat=>star (blk l [.map (some m)]) (mapF m encI (gm R))
variable {E:Env} {L:List Asn} {w:World} {l:Nat}
theorem Lst.open (h:Sep E (Lst l R::L) w):∃ m,Sep E (blk l [.map (some m)]::mapF m encI (gm R)::L) w:=by
 obtain ⟨m,h⟩:=Sep.ex.1 h
 exact ⟨m,Sep.star.1 h⟩
theorem Lst.shut {m:Nat} (h:Sep E (blk l [.map (some m)]::mapF m encI (gm R)::L) w):Sep E (Lst l R::L) w:=Sep.ex.2 ⟨m,Sep.star.2 h⟩
theorem mq:mQ P ahf=some (adJ,oneV 0 0):=by kernel_rfl
theorem afB (h:Sep E L w):Calls P aky #[] w (Ret fun v w'=>∃ l,v= .pointer (some ⟨l,0,none⟩)/\Sep E (Lst l []::L) w'):=by
 apply aC6
 unfold auB
 exact mapF.new (enc:=encI) h (fun m w1 h1=>Al.i h1 (fun p w2 h2=>⟨p,rfl,Lst.shut h2⟩))
theorem look {m i:Nat} (h:Sep E L w) (hi:L[i]? =some (mapF m encI (gm R))) (k:Int):
  aca P ahf (.map (some m)) (.int .i64 k) true w (.tuple #[oneV ((fnd R k).elim 0 (·.group)) ((fnd R k).elim 0 (·.age)),.bool (fnd R k).isSome]):=by
 have:=aca.i true i h hi ahR mq k
 unfold gm at this
 cases hf:fnd R k<;>simpa [hf] using this
theorem aEn {m i:Nat} (h:Sep E L w) (hi:L[i]? =some (mapF m encI (gm R))) (k:Int):
  aca P ahf (.map (some m)) (.int .i64 k) false w (oneV ((fnd R k).elim 0 (·.group)) ((fnd R k).elim 0 (·.age))):=by
 have:=aca.i false i h hi ahR mq k
 unfold gm at this
 cases hf:fnd R k<;>simpa [hf] using this
theorem aIa (G:Kc.Good R) {x:Ent} (hn:∀ e∈R,e.id≠x.id) (G':Kc.Good (insR R x)):upd (gm R) x.id (some (oneV x.group x.age))=gm (insR R x):=by
 funext k
 unfold upd gm
 by_cases hk:k=x.id
 ·rw [if_pos hk,(adt G'.rise).2 ⟨(apk hn).2 (.inl rfl),hk.symm⟩];rfl
 ·rw [if_neg hk,ary G.rise G'.rise (fun e he=> ?_)]
  rw [apk hn]
  exact ⟨fun h=>h.resolve_left (fun e'=>hk (by rw [<- he,e'])),.inr⟩
theorem aD2 (G:Kc.Good R) (id g:Int) (old:Bool) (h:Sep E (Lst l R::L) w):Calls P aie #[.pointer (some ⟨l,0,none⟩),.int .i64 id,.int .i64 g,.bool old] w (Ret fun v w'=>v= .int .i64 (gAdd R id g old).2/\Sep E (Lst l (gAdd R id g old).1::L) w'):=by
 apply atP
 unfold alI
 unfold gAdd
 have bad:gBad id g ->(Value.int .i64 1= .int .i64 (if gBad id g then (R,(1:Int)) else if (fnd R id).isSome then (R,4) else (insR R ⟨id,g,if old then 1 else 0⟩,0)).2/\Sep E (Lst l (if gBad id g then (R,(1:Int)) else if (fnd R id).isSome then (R,4) else (insR R ⟨id,g,if old then 1 else 0⟩,0)).1::L) w):=by
  intro hb;rw [if_pos hb];exact ⟨rfl,h⟩
 refine ⟨fun w=>¬ gBad id g/\Sep E (Lst l R::L) w,?_,?_⟩
 ·refine bLt (fun c=>bad (.inl c)) (fun c1=>bGt (fun c=>bad (.inr (.inl c))) (fun c2=>bLt (fun c=>bad (.inr (.inr (.inl c)))) (fun c3=>bGt (fun c=>bad (.inr (.inr (.inr c)))) (fun c4=>⟨?_,h⟩))))
  unfold gBad;omega
 rintro _ w1 ⟨hb,h1⟩
 rw [if_neg hb]
 obtain ⟨m,h2⟩:=Lst.open h1
 refine ⟨_,rfl,ld h2 0 rfl rfl rfl ⟨_,_,_,look (i:=1) h2 rfl id,Al.i h2 (fun p w3 h3=>zst _ (vs:= [.int .i64 _,.int .i64 _]) h3 rfl (fun w4 h4=> ?_))⟩⟩
 cases hf:fnd R id with
 | some e=>exact bifT ⟨rfl,Lst.shut h4.tail⟩
 | none=>
  refine bifF (Al.i h4 (fun q w5 h5=>zst _ (vs:= [.int .i64 g,.int .i64 0]) h5 rfl (fun w6 h6=> ?_)))
  refine ⟨fun w=>Sep E (blk q [.int .i64 g,.int .i64 (if old then 1 else 0)]::blk l [.map (some m)]::mapF m encI (gm R)::L) w,?_,?_⟩
  ·refine bifI (fun ho=> ?_) (fun ho=> ?_)
   ·refine ld h6 0 rfl rfl rfl (St.i h6 (show 0+1<2 by decide) (fun w7 h7=> ?_))
    rw [w64 (n:=0+1) (by decide) (by decide)] at h7
    rw [if_pos ho];exact (h7.fr 1 rfl).tail.fr 0 rfl |> fun x=>(h7.ro 4 [0,2,3] rfl)
   ·rw [if_neg (by simp [ho])];exact h6.ro 4 [0,2,3] rfl
  ·rintro _ w7 h7
   refine Dr.i h7 (fun w8 h8=>⟨_,rfl,ld h8 1 rfl rfl rfl (ld h8 0 rfl rfl rfl (ld h8 0 rfl rfl rfl ?_))⟩)
   refine mapUpdate.i (h8.ro 3 [2,0,1] rfl) ahR mq id _ (fun w9 h9=>⟨rfl,?_⟩)
   have hn:=(akm G.rise).1 hf
   have hb':¬ (id<0\/16777216<id\/g<0\/16777216<g):=hb
   have G':Kc.Good (insR R ⟨id,g,if old then 1 else 0⟩):=G.ins (x:=⟨id,g,if old then 1 else 0⟩) hn ⟨⟨by simp only;omega,by simp only;omega⟩,⟨by simp only;omega,by simp only;omega⟩,by simp only;split<;>omega⟩
   have e:=aIa G (x:=⟨id,g,if old then 1 else 0⟩) hn G'
   have h9':Sep E (mapF m encI (upd (gm R) id (some (oneV g (if old then 1 else 0))))::blk q [.int .i64 g,.int .i64 (if old then 1 else 0)]::blk l [.map (some m)]::L) w9:=h9
   rw [show upd (gm R) id (some (oneV g (if old then 1 else 0)))=gm (insR R ⟨id,g,if old then 1 else 0⟩) from e] at h9'
   exact Lst.shut (h9'.ro 3 [2,0] rfl)
theorem axO (G:Kc.Good R) (id:Int) (h:Sep E (Lst l R::L) w):Calls P adI #[.pointer (some ⟨l,0,none⟩),.int .i64 id] w (Ret fun v w'=>v= .int .i64 (abZ R id).2/\Sep E (Lst l (abZ R id).1::L) w'):=by
 apply aqy
 unfold ajY
 obtain ⟨m,h2⟩:=Lst.open h
 refine ⟨_,rfl,ld h2 0 rfl rfl rfl ⟨_,_,_,look (i:=1) h2 rfl id,Al.i h2 (fun p w3 h3=>zst _ (vs:= [.int .i64 _,.int .i64 _]) h3 rfl (fun w4 h4=> ?_))⟩⟩
 have G0:=G.touch id
 unfold abZ at G0 ⊢
 cases hf:fnd R id with
 | none=>exact bifT ⟨rfl,Lst.shut h4.tail⟩
 | some e=>
  rw [hf] at h4 G0
  have G':Kc.Good (R.map (fun e=>if e.id=id then {e with age:=0} else e)):=G0
  refine bifF (Dr.i h4 (fun w5 h5=>⟨_,rfl,ld h5 1 rfl rfl rfl (ld h5 0 rfl rfl rfl ?_)⟩))
  refine mapUpdate.i (h5.ro 3 [2,0,1] rfl) ahR mq id _ (fun w6 h6=>⟨rfl,?_⟩)
  have he:=(adt G.rise).1 hf
  have e1:upd (gm R) id (some (oneV e.group 0))=gm (R.map (fun e=>if e.id=id then {e with age:=0} else e)):=by
   funext k
   unfold upd gm
   by_cases hk:k=id
   ·rw [if_pos hk,(adt G'.rise (e:= {e with age:=0})).2 ⟨List.mem_map.2 ⟨e,he.1,if_pos he.2⟩,by simp only;omega⟩];rfl
   ·rw [if_neg hk,ary G.rise G'.rise (fun x hx=> ?_)]
    simp only [if_true,Option.isSome_some,List.mem_map]
    constructor
    ·rintro ⟨y,hy,rfl⟩
     by_cases hyid:y.id=id
     ·rw [if_pos hyid] at hx;simp only at hx;omega
     ·rw [if_neg hyid];exact hy
    ·intro hx';exact ⟨x,hx',if_neg (by omega)⟩
  have h6':Sep E (mapF m encI (upd (gm R) id (some (oneV e.group 0)))::blk p _::blk l [.map (some m)]::L) w6:=h6
  rw [e1] at h6'
  exact Lst.shut (h6'.ro 3 [2,0] rfl)
theorem ark (G:Kc.Good R) (id:Int) (h:Sep E (Lst l R::L) w):Calls P afm #[.pointer (some ⟨l,0,none⟩),.int .i64 id] w (Ret fun v w'=>v= .int .i64 (adX R id).2/\Sep E (Lst l (adX R id).1::L) w'):=by
 apply arS
 unfold ald
 obtain ⟨m,h2⟩:=Lst.open h
 refine ⟨_,rfl,ld h2 0 rfl rfl rfl ⟨_,_,_,look (i:=1) h2 rfl id,Al.i h2 (fun p w3 h3=>zst _ (vs:= [.int .i64 _,.int .i64 _]) h3 rfl (fun w4 h4=> ?_))⟩⟩
 have G0:=G.drop id
 unfold adX at G0 ⊢
 cases hf:fnd R id with
 | none=>exact bifT ⟨rfl,Lst.shut h4.tail⟩
 | some e=>
  rw [hf] at G0
  have G':Kc.Good (R.filter (fun e=>e.id !=id)):=G0
  refine bifF ⟨_,rfl,ld h4 1 rfl rfl rfl ?_⟩
  refine mapDelete.i (h4.ro 3 [2,0,1] rfl) ahR mq id (fun w6 h6=>⟨rfl,?_⟩)
  have e1:upd (gm R) id none=gm (R.filter (fun e=>e.id !=id)):=by
   funext k
   unfold upd gm
   by_cases hk:k=id
   ·have:fnd (R.filter (fun e=>e.id !=id)) k=none:=(akm G'.rise).2 (fun e he=>by have:=(List.mem_filter.1 he).2;simp at this;omega)
    rw [if_pos hk,this];rfl
   ·rw [if_neg hk,ary G.rise G'.rise (fun x hx=> ?_)]
    simp only [if_true,Option.isSome_some,List.mem_filter]
    exact ⟨fun h=>h.1,fun h=>⟨h,by simp;omega⟩⟩
  rw [e1] at h6
  exact Lst.shut (h6.ro 3 [2,0] rfl)
end Go.Mp.Gp
end
section
set_option maxRecDepth 100000
namespace Go.Mp.Gp
open Go Go.Vc Go.Sp Go.Kc Go.Mp
variable {R:List Ent} {E:Env} {L:List Asn} {w:World} {l:Nat}
def cntD (R:List Ent) (d:Int ->Bool) (p:Ent ->Bool):Nat:=(R.filter (fun e=>d e.id&&p e)).length
def plus (d:Int ->Bool) (k:Int):Int ->Bool:=fun x=>d x||x==k
theorem aA1 (p:Ent ->Bool):cntD R (fun _=>false) p=0:=by unfold cntD;simp
theorem aoe {d:Int ->Bool} (p:Ent ->Bool) (h:∀ e∈R,d e.id=true):cntD R d p=(R.filter p).length:=by
 unfold cntD
 congr 1
 apply List.filter_congr
 intro e he;rw [h e he,Bool.true_and]
theorem aFm (d:Int ->Bool) (p:Ent ->Bool):cntD R d p<=R.length:=List.length_filter_le _ _
theorem aA2 (G:R.Pairwise (fun a b:Ent=>a.id<b.id)) {d:Int ->Bool} (p:Ent ->Bool) {k:Int} {e:Ent} (he:fnd R k=some e) (hd:d k=false):cntD R (plus d k) p=cntD R d p+(if p e then 1 else 0):=by
 obtain ⟨h1,h2⟩:=(adt G).1 he
 clear he
 unfold cntD plus
 induction R with
 | nil=>cases h1
 | cons x R ih=>
  obtain ⟨g1,g2⟩:=List.pairwise_cons.1 G
  rw [List.filter_cons,List.filter_cons]
  rcases List.mem_cons.1 h1 with rfl | h1
  ·have hrest:R.filter (fun y=>(d y.id||y.id==k)&&p y)=R.filter (fun y=>d y.id&&p y):=by
    apply List.filter_congr
    intro y hy
    have:(y.id==k)=false:=by have:=g1 y hy;simp;omega
    rw [this,Bool.or_false]
   rw [hrest,h2,hd]
   cases p e<;>simp
  ·have:=ih g2 h1
   have hx:(x.id==k)=false:=by have:=g1 e h1;simp;omega
   rw [hx,Bool.or_false]
   cases (d x.id&&p x)
   ·simpa using this
   ·simp only [if_true,List.length_cons];omega
def gd (R:List Ent) (d:Int ->Bool) (F:Ent ->Ent):Int ->Option Value:=fun k=>(fnd R k).map fun e=>if d k then oneV (F e).group (F e).age else oneV e.group e.age
theorem aHz (F:Ent ->Ent):gd R (fun _=>false) F=gm R:=by
 funext k;unfold gd gm;cases fnd R k<;>simp
theorem aHy (F:Ent ->Ent) (hF:∀ e,(F e).id=e.id) (k:Int):fnd (R.map F) k=(fnd R k).map F:=by
 unfold fnd
 rw [List.find?_map]
 congr 2
 funext e;simp [hF]
theorem aH8 (G:R.Pairwise (fun a b:Ent=>a.id<b.id)) {d:Int ->Bool} {F:Ent ->Ent} (hF:∀ e,(F e).id=e.id) (h:∀ e∈R,d e.id=true):gd R d F=gm (R.map F):=by
 funext k;unfold gd gm
 rw [aHy F hF]
 cases hf:fnd R k with
 | none=>rfl
 | some e=>
  obtain ⟨h1,h2⟩:=(adt G).1 hf
  have:=h e h1
  rw [h2] at this
  simp [this]
theorem aHA {d:Int ->Bool} {F:Ent ->Ent} {k:Int} {e:Ent} (he:fnd R k=some e) (hs:F e=e):gd R (plus d k) F=gd R d F:=by
 funext x;unfold gd plus
 by_cases hx:x=k
 ·subst hx;rw [he];simp [hs]
 ·have:(x==k)=false:=by simpa using hx
  rw [this,Bool.or_false]
theorem aH9 {d:Int ->Bool} {F:Ent ->Ent} {k:Int} {e:Ent} (he:fnd R k=some e):upd (gd R d F) k (some (oneV (F e).group (F e).age))=gd R (plus d k) F:=by
 funext x;unfold upd gd plus
 by_cases hx:x=k
 ·subst hx;rw [if_pos rfl,he];simp
 ·have:(x==k)=false:=by simpa using hx
  rw [if_neg hx,this,Bool.or_false]
theorem ay1 (d:Int ->Bool) (k:Int):(fun x=>d x=true\/x=k)=fun x=>plus d k x=true:=by
 funext x;unfold plus;simp
theorem aHl (G:Kc.Good R) (g:Int) (hb:R.length<4611686018427387904) (h:Sep E (Lst l R::L) w):Calls P ahb #[.pointer (some ⟨l,0,none⟩),.int .i64 g] w (Ret fun v w'=>v= .int .i64 (ajm R g)/\Sep E (Lst l R::L) w'):=by
 apply aqw
 unfold ajW
 obtain ⟨m,h2⟩:=Lst.open h
 refine ⟨_,rfl,ld h2 0 rfl rfl rfl (aba.start h2.swap mq (fun it w1 n h1=> ?_))⟩
 refine ⟨fun c w=>∃ d cur n,c=cntD R d (fun e=>e.group==g)/\Sep E (aba it m encI (gm R) (fun x=>d x=true) cur n::blk l [.map (some m)]::L) w,fun _ w=>aw0 w it m,⟨fun _=>false,none,n,by rw [aA1];rfl,?_⟩,?_⟩
 ·have e:(fun x:Int=>((fun _=>false:Int ->Bool) x)=true)=fun _=>False:=by funext x;simp
  rw [e];exact h1
 rintro _ c w2 ⟨d,cur,n,rfl,h3⟩
 have hle:=aFm (R:=R) d (fun e=>e.group==g)
 refine aba.next apf h3 (fun hall w3 h4=> ?_) (fun k v n' hk hnd hn w3 h4=> ?_)
 ·refine ⟨?_,Lst.shut (aba.over h4).swap⟩
  unfold ajm
  rw [aoe]
  intro e he
  exact hall e.id (oneV e.group e.age) (by unfold gm;rw [(adt G.rise).2 ⟨he,rfl⟩];rfl)
 ·have hent:=aba.entry (P:=P) h4 apf hk
  obtain ⟨e,he,hv⟩:∃ e,fnd R k=some e/\oneV e.group e.age=v:=by
   unfold gm at hk
   cases hf:fnd R k with
   | none=>rw [hf] at hk;cases hk
   | some e=>rw [hf] at hk;exact ⟨e,rfl,by simpa using hk⟩
  subst hv
  rw [ay1] at h4
  have hl0:=aba.left h3
  refine ⟨_,_,_,_,hent,Al.i h4 (fun p w4 h5=>zst _ (vs:= [.int .i64 e.group,.int .i64 e.age]) h5 rfl (fun w5 h6=> ?_))⟩
  have hl1:=aba.left h6.tail
  have hst:=aA2 G.rise (fun e=>e.group==g) he (Bool.eq_false_iff.2 hnd)
  refine ld h6 0 rfl rfl rfl (bEq (fun hg=> ?_) (fun hg=> ?_))
  ·rw [w64 (by omega) (by omega)]
   refine ⟨⟨plus d k,_,_,?_,h6.tail⟩,by dsimp only;omega⟩
   rw [hst];simp [hg]
  ·refine ⟨⟨plus d k,_,_,?_,h6.tail⟩,by dsimp only;omega⟩
   rw [hst];simp [hg]
theorem aHG (a b:Int×Int):∃ q,EqV P .neq akC (oneV a.1 a.2) (oneV b.1 b.2) q/\(q=false↔a=b):=by
 have ht:∀ p:Int×Int,Typed P akC [.int .i64,.int .i64] (oneV p.1 p.2):=fun p=>by
  unfold Typed;rw [show aggQ P akC=some true by kernel_rfl]
  exact ⟨_,rfl,⟨_,rfl⟩,⟨_,rfl⟩,trivial⟩
 obtain ⟨q,h1,h2⟩:=EqV.neq (d:=4) (by kernel_rfl:eqT P 4 akC=_) (by decide) (by kernel_rfl) (by kernel_rfl) (ht a) (ht b)
 refine ⟨q,h1,h2.trans ⟨fun e=> ?_,fun e=>by rw [e]⟩⟩
 simp [oneV] at e
 exact Prod.ext e.1 e.2
theorem aE7 (G:Kc.Good R) (g:Int) (ch:Int ->Int ->Int×Int) {change:Value}
  (hch:∀ (A:Asn) (x a:Int) (w:World),Sep E (A::L) w ->abo P change #[oneV x a] w fun e w'=>e= .returned (oneV (ch x a).1 (ch x a).2)/\Sep E (A::L) w') (hb:R.length<4611686018427387904)
  (h:Sep E (Lst l R::L) w):Calls P afn #[.pointer (some ⟨l,0,none⟩),.int .i64 g,change] w (Ret fun v w'=>v= .int .i64 (adc R g ch).2/\Sep E (Lst l (adc R g ch).1::L) w'):=by
 apply arU
 unfold alf
 obtain ⟨m,h2⟩:=Lst.open h
 refine ⟨_,rfl,ld h2 0 rfl rfl rfl (aba.start h2.swap mq (fun it w1 n h1=> ?_))⟩
 refine ⟨fun c w=>∃ d cur n,c=cntD R d (akA g ch)/\Sep E (aba it m encI (gd R d (chg g ch)) (fun x=>d x=true) cur n::blk l [.map (some m)]::L) w,fun _ w=>aw0 w it m,⟨fun _=>false,none,n,by rw [aA1];rfl,?_⟩,?_⟩
 ·have e:(fun x:Int=>((fun _=>false:Int ->Bool) x)=true)=fun _=>False:=by funext x;simp
  rw [e,aHz];exact h1
 rintro _ c w2 ⟨d,cur,n,rfl,h3⟩
 have hle:=aFm (R:=R) d (akA g ch)
 refine aba.next apf h3 (fun hall w3 h4=> ?_) (fun k v n' hk hnd hn w3 h4=> ?_)
 ·have hall':∀ e∈R,d e.id=true:=fun e he=>by
   have hf:=(adt G.rise).2 ⟨he,rfl⟩
   exact hall e.id _ (by unfold gd;rw [hf];rfl)
  refine ⟨by unfold adc;rw [aoe _ hall'],?_⟩
  rw [aH8 G.rise (aod g ch) hall'] at h4
  exact Lst.shut (aba.over h4).swap
 ·have hent:=aba.entry (P:=P) h4 apf hk
  have hdf:=Bool.eq_false_iff.2 hnd
  obtain ⟨e,he,hv⟩:∃ e,fnd R k=some e/\oneV e.group e.age=v:=by
   unfold gd at hk
   cases hf:fnd R k with
   | none=>rw [hf] at hk;cases hk
   | some e=>rw [hf] at hk;exact ⟨e,rfl,by simpa [hdf] using hk⟩
  subst hv
  rw [ay1] at h4
  have hl0:=aba.left h3
  have hst:=aA2 G.rise (akA g ch) he hdf
  refine ⟨_,_,_,_,hent,Al.i h4 (fun p w4 h5=>zst _ (vs:= [.int .i64 e.group,.int .i64 e.age]) h5 rfl (fun w5 h6=> ?_))⟩
  refine ld h6 0 rfl rfl rfl (ld h6 0 rfl rfl rfl ?_)
  have h7:Sep E (starL [blk p [.int .i64 e.group,.int .i64 e.age],aba it m encI (gd R d (chg g ch)) (fun x=>plus d k x=true) (some k) n',blk l [.map (some m)]]::L) w5:=Sep.starL.2 h6
  refine abo.use (hch _ e.group e.age w5 h7) ?_
  rintro _ w6 ⟨rfl,h8⟩
  have h8:Sep E (blk p [.int .i64 e.group,.int .i64 e.age]::aba it m encI (gd R d (chg g ch)) (fun x=>plus d k x=true) (some k) n'::blk l [.map (some m)]::L) w6:=Sep.starL.1 h8
  refine ⟨_,_,rfl,Al.i h8 (fun q w7 h9=>zst _ (vs:= [.int .i64 (ch e.group e.age).1,.int .i64 (ch e.group e.age).2]) h9 rfl (fun w8 h10=> ?_))⟩
  refine ⟨fun c w=>c=akA g ch e/\Sep E (blk q [.int .i64 (ch e.group e.age).1,.int .i64 (ch e.group e.age).2]::blk p [.int .i64 e.group,.int .i64 e.age]::aba it m encI (gd R d (chg g ch)) (fun x=>plus d k x=true) (some k) n'::blk l [.map (some m)]::L) w,?_,?_⟩
  ·refine ld h10 1 rfl rfl rfl (bEq (fun hg=> ?_) (fun hg=>⟨by unfold akA;simp [hg],h10⟩))
   refine ld h10 1 rfl rfl rfl (ld h10 1 rfl rfl rfl (ld h10 0 rfl rfl rfl (ld h10 0 rfl rfl rfl ?_)))
   obtain ⟨r,hr1,hr2⟩:=aHG (e.group,e.age) (ch e.group e.age)
   refine ⟨r,hr1,?_,h10⟩
   unfold akA
   cases r with
   | false=>
    have e1:=hr2.1 rfl
    rw [<- e1];simp
   | true=>
    have e1:¬ ch e.group e.age=(e.group,e.age):=fun e'=>by have:=hr2.2 e'.symm;cases this
    have e2:(ch e.group e.age==(e.group,e.age))=false:=by simpa using e1
    rw [e2];simp [hg]
  rintro _ c w9 ⟨rfl,h11⟩
  refine bifI (fun hc=> ?_) (fun hc=> ?_)
  ·have hc':e.group=g/\ch e.group e.age≠(e.group,e.age):=by unfold akA at hc;simpa using hc
   have hF:chg g ch e=⟨e.id,(ch e.group e.age).1,(ch e.group e.age).2⟩:=by unfold chg;rw [if_pos hc'.1]
   refine Dr.i h11 (fun w10 h12=>⟨_,rfl,ld h12 3 rfl rfl rfl (ld h12 0 rfl rfl rfl (ld h12 0 rfl rfl rfl ?_))⟩)
   refine aba.update (h12.ro 4 [2,0,1,3] rfl) ahR mq k _ hk (fun w11 h13=> ?_)
   have e2:=aH9 (d:=d) (F:=chg g ch) he
   rw [hF] at e2
   have h13':Sep E (aba it m encI (upd (gd R d (chg g ch)) k (some (oneV (ch e.group e.age).1 (ch e.group e.age).2))) (fun x=>plus d k x=true) (some k) n'::blk q _::blk p _::blk l [.map (some m)]::L) w11:=h13
   rw [e2] at h13'
   have hl1:=aba.left h13'
   rw [w64 (by omega) (by omega)]
   refine ⟨⟨plus d k,_,_,?_,h13'.ro 4 [0,3] rfl⟩,by dsimp only;omega⟩
   rw [hst,if_pos hc];simp
  ·have hF:chg g ch e=e:=by
    unfold akA at hc
    unfold chg
    by_cases hg:e.group=g
    ·have hce:ch e.group e.age=(e.group,e.age):=by simpa [hg] using hc
     rw [if_pos hg,hce]
    ·rw [if_neg hg]
   have h12:Sep E (aba it m encI (gd R d (chg g ch)) (fun x=>plus d k x=true) (some k) n'::blk l [.map (some m)]::L) w9:=h11.tail.tail
   rw [<- aHA (d:=d) he hF] at h12
   have hl1:=aba.left h12
   refine ⟨⟨plus d k,_,_,?_,h12⟩,by dsimp only;omega⟩
   rw [hst,if_neg (by simp [hc])];simp
theorem aIx (G:Kc.Good R) (g:Int) (hb:R.length<4611686018427387904) (h:Sep E (Lst l R::L) w):Calls P aif #[.pointer (some ⟨l,0,none⟩),.int .i64 g] w (Ret fun v w'=>v= .int .i64 (adc R g adV).2/\Sep E (Lst l (adc R g adV).1::L) w'):=by
 apply atQ
 unfold alJ
 refine use (aE7 G g adV (fun A x a w1 h1=>⟨aha,_,rfl,by kernel_rfl,?_⟩) hb h) ?_
 ·refine use (K:=fun v w'=>v=oneV (adV x a).1 (adV x a).2/\Sep E (A::L) w') (aqv x a ?_) (fun v w' ⟨hv,hs⟩=>⟨by rw [hv],hs⟩)
  unfold ajV
  refine Al.i h1 (fun p w2 h2=>Al.i h2 (fun q w3 h3=>ld h3 1 rfl rfl rfl (ld h3 1 rfl rfl rfl (zst _ (vs:= [.int .i64 x,.int .i64 _]) h3 rfl (fun w4 h4=> ?_)))))
  exact ld h4 0 rfl rfl rfl (ld h4 0 rfl rfl rfl ⟨rfl,h4.tail.tail⟩)
 ·rintro _ w1 ⟨rfl,h1⟩
  exact ⟨_,rfl,rfl,h1⟩
theorem aH2 (G:Kc.Good R) (f t:Int) (hb:R.length<4611686018427387904) (h:Sep E (Lst l R::L) w):Calls P ahy #[.pointer (some ⟨l,0,none⟩),.int .i64 f,.int .i64 t] w (Ret fun v w'=>v= .int .i64 (ah2 R f t).2/\Sep E (Lst l (ah2 R f t).1::L) w'):=by
 apply arT
 unfold ale
 unfold ah2
 have bad:∀ {w1:World} {p1:Nat},(t<0\/16777216<t) ->Sep E (blk p1 [.int .i64 t]::Lst l R::L) w1 ->(Value.int .i64 0= .int .i64 (if t<0\/16777216<t then (R,(0:Int)) else adc R f (fun _ a=>(t,a))).2/\Sep E (Lst l (if t<0\/16777216<t then (R,(0:Int)) else adc R f (fun _ a=>(t,a))).1::L) w1):=by
  intro w1 p1 hb h;rw [if_pos hb];exact ⟨rfl,h.tail⟩
 refine Al.i h (fun p w1 h1=>⟨fun w=>¬ (t<0\/16777216<t)/\Sep E (blk p [.int .i64 t]::Lst l R::L) w,?_,?_⟩)
 ·exact ld h1 0 rfl rfl rfl (bLt (fun c=>bad (.inl c) h1) (fun c1=>ld h1 0 rfl rfl rfl (bGt (fun c=>bad (.inr c) h1) (fun c2=>⟨by omega,h1⟩))))
 rintro _ w2 ⟨hb2,h2⟩
 rw [if_neg hb2]
 refine use (aE7 (L:=blk p [.int .i64 t]::L) G f (fun _ a=>(t,a)) (fun A x a w1 h1=>⟨agC,_,rfl,by kernel_rfl,?_⟩) hb h2.swap) ?_
 ·refine use (K:=fun v w'=>v=oneV t a/\Sep E (A::blk p [.int .i64 t]::L) w') (apt x a ⟨p,0,none⟩ ?_) (fun v w' ⟨hv,hs⟩=>⟨by rw [hv],hs⟩)
  unfold ajB
  refine Al.i h1 (fun p1 w2 h2=>Al.i h2 (fun q w3 h3=>ld h3 3 rfl rfl rfl (ld h3 1 rfl rfl rfl (zst _ (vs:= [.int .i64 t,.int .i64 a]) h3 rfl (fun w4 h4=> ?_)))))
  exact ld h4 0 rfl rfl rfl (ld h4 0 rfl rfl rfl ⟨rfl,h4.tail.tail⟩)
 ·rintro _ w3 ⟨rfl,h3⟩
  exact ⟨_,rfl,rfl,(h3.fr 1 rfl).tail⟩
end Go.Mp.Gp
end
section
set_option maxRecDepth 100000
namespace Go.Kt
open Go
def G.vs (g:G):List Value:= [.int .i64 g.up,.bool g.live]
theorem G.vs2 (g:G):g.vs.length=2:=rfl
end Go.Kt
namespace Go.Mp
open Go Go.Vc Go.Sp Go.Proofs Go.Kt
variable {E:Env} {L:List Asn} {w W:World}
def aaq (b:Nat) (l:List G):Asn:=exA fun s:Sl=>pur (s.n=l.length) (star (blk b [.slice s.p s.n s.c]) (rowA s 2 (recs G.vs l)))
theorem aaq.get {b:Nat} {l:List G} (h:Sep E (aaq b l::L) w):∃ s:Sl,s.n=l.length/\Sep E (blk b [.slice s.p s.n s.c]::rowA s 2 (recs G.vs l)::L) w:=by
 obtain ⟨s,h⟩:=Sep.ex.1 h
 obtain ⟨hn,h⟩:=Sep.pur.1 h
 exact ⟨s,hn,Sep.star.1 h⟩
theorem aaq.mk {b:Nat} {l:List G} {s:Sl} (hn:s.n=l.length) (h:Sep E (blk b [.slice s.p s.n s.c]::rowA s 2 (recs G.vs l)::L) w):Sep E (aaq b l::L) w:=
 Sep.ex.2 ⟨s,Sep.pur.2 ⟨hn,Sep.star.2 h⟩⟩
theorem gEl {s:Sl} {l:List G} {i:Int} {f:Addr ->Prop} (q:Nat) (h:Sep E L w) (hq:L[q]? =some (rowA s 2 (recs G.vs l))) (hn:s.n=l.length) {k:Nat} (hi:i=k) {x:G} (hx:l[k]? =some x)
  (kk:∀ b,s.p=some ⟨b,0,none⟩ ->(∀ j,j<2 ->w.cell? ⟨b,k*2+j,none⟩=(x.vs)[j]?) ->f ⟨b,k*2,none⟩):elAt s.p s.n i 2 f:=by
 have hlt:=(List.getElem?_eq_some_iff.1 hx).1
 subst hi
 refine rowA.el q h hq (by omega) (by omega) (fun b hp hc=> ?_)
 rw [Int.toNat_natCast] at hc ⊢
 exact kk b hp (fun j hj=>by rw [hc j hj,aov G.vs2 hx j hj])
theorem adG {b:Nat} {l:List G} {g:Int} {q:Nat} (h:Sep E L w) (hq:L[q]? =some (aaq b l)):Calls P aam #[.pointer (some ⟨b,0,none⟩),.int .i64 g] w (Ret fun v w'=>v= .bool (aaf l g)/\w'=w):=by
 apply atZ
 unfold alR
 obtain ⟨s,hn,h1⟩:=aaq.get (h.fr q hq)
 refine bLe (fun h0=> ?_) (fun h0=> ?_)
 ·refine ⟨_,rfl,s,h1.cell 0,?_⟩
  refine bLt (fun hlt=> ?_) (fun hge=> ?_)
  ·obtain ⟨n,rfl⟩:∃ n:Nat,g=n:=⟨g.toNat,by omega⟩
   obtain ⟨x,hx⟩:∃ x,l[n]? =some x:=⟨_,List.getElem?_eq_getElem (by omega)⟩
   refine ⟨_,rfl,s,h1.cell 0,gEl 1 h1 rfl hn rfl hx (fun b' _ hc=>⟨x.live,?_,?_,rfl⟩)⟩
   ·rw [aad];exact hc 1 (by decide)
   ·unfold aaf
    rw [Int.toNat_natCast,hx,decide_eq_true (by omega)];rfl
  ·refine ⟨?_,rfl⟩
   unfold aaf
   rw [List.getElem?_eq_none (by omega)]
   simp
 ·refine ⟨?_,rfl⟩
  unfold aaf
  rw [decide_eq_false (by omega)];rfl
theorem aAS {b:Nat} {l:List G} {g:Int} {q:Nat} (h:Sep E L w) (hq:L[q]? =some (aaq b l)):Calls P ae9 #[.pointer (some ⟨b,0,none⟩),.int .i64 g] w (Ret fun v w'=>v= .int .i64 (ab9 l g)/\w'=w):=by
 apply aqG
 unfold aj3
 refine use (adG h hq) ?_
 rintro _ w1 ⟨rfl,rfl⟩
 refine ⟨_,rfl,bifI (fun hh=>⟨?_,rfl⟩) (fun hh=> ?_)⟩
 ·have:aaf l g=false:=by simpa using hh
  unfold ab9;rw [this];rfl
 ·have hl:aaf l g=true:=by simpa using hh
  obtain ⟨n,rfl,x,hx,hxl⟩:=aa7.1 hl
  obtain ⟨s,hn,h1⟩:=aaq.get (h.fr q hq)
  refine ⟨_,rfl,s,h1.cell 0,gEl 1 h1 rfl hn rfl hx (fun b' _ hc=>⟨x.up,?_,?_,rfl⟩)⟩
  ·rw [aad];exact hc 0 (by decide)
  ·unfold ab9
   rw [if_pos hl,Int.toNat_natCast,hx];rfl
theorem aws {l:List G} {g:Nat} (hl:aaf l g=true):aac l g=(chain l g).map Int.ofNat:=by unfold aac;rw [if_pos hl,Int.toNat_natCast]
theorem aG9 {b p1 p3:Nat} {l:List G} {g:Int} (hw:WF l):axI P E ads #[.pointer (some ⟨p1,0,none⟩),.pointer (some ⟨p3,0,none⟩)]
  (star (blk p1 [.pointer (some ⟨b,0,none⟩)]) (star (blk p3 [.int .i64 g]) (aaq b l))) (star (blk p1 [.pointer (some ⟨b,0,none⟩)]) (star (exA fun x:Int=>blk p3 [.int .i64 x]) (aaq b l))) ((aac l g).map (Value.int .i64)):=by
 intro lp J X hY L W h
 refine Calls.mono (R:=Ret fun v W'=>v= .tuple #[]/\(Sep E (J ((aac l g).map (Value.int .i64)).length::star (blk p1 [.pointer (some ⟨b,0,none⟩)]) (star (exA fun x:Int=>blk p3 [.int .i64 x]) (aaq b l))::L) W'\/
  ∃ k,k<((aac l g).map (Value.int .i64)).length/\Sep E (X k::star (blk p1 [.pointer (some ⟨b,0,none⟩)]) (star (exA fun x:Int=>blk p3 [.int .i64 x]) (aaq b l))::L) W')) ?_ (fun e W' he=> ?_)
 rotate_left
 ·obtain ⟨v,rfl,rfl,he⟩:=he
  exact ⟨⟨_,rfl⟩,he⟩
 have pack:∀ {A:Asn} {x:Int} {W':World},Sep E (A::blk p1 [.pointer (some ⟨b,0,none⟩)]::blk p3 [.int .i64 x]::aaq b l::L) W' ->
   Sep E (A::star (blk p1 [.pointer (some ⟨b,0,none⟩)]) (star (exA fun x:Int=>blk p3 [.int .i64 x]) (aaq b l))::L) W':=by
  intro A x W' hh
  have h1:Sep E (exA (fun x:Int=>blk p3 [.int .i64 x])::aaq b l::A::blk p1 [.pointer (some ⟨b,0,none⟩)]::L) W':=Sep.ex.2 ⟨x,hh.ro 4 [2,3,0,1] rfl⟩
  have h2:=(Sep.star.2 h1).ro 3 [2,0,1] rfl
  exact (Sep.star.2 h2).swap
 have h1:Sep E (blk p1 [.pointer (some ⟨b,0,none⟩)]::blk p3 [.int .i64 g]::aaq b l::J 0::L) W:=by
  have h2:=Sep.star.1 h.swap
  have h3:=(Sep.star.1 (h2.swap))
  exact h3.ro 4 [2,0,1,3] rfl
 show Calls P ads #[.func (.yield lp) #[] #[],.pointer (some ⟨p1,0,none⟩),.pointer (some ⟨p3,0,none⟩)] W _
 apply at0
 unfold ail
 refine ⟨_,h1.cell 0,_,h1.cellAt 1 rfl 0,?_⟩
 refine use (adG (q:=2) h1 rfl) ?_
 rintro _ w1 ⟨rfl,rfl⟩
 refine ⟨_,rfl,?_⟩
 rw [List.length_map]
 cases hl:aaf l g with
 | false=>
  refine ⟨fun w'=>w'=w1,fun _=>0,rfl,?_⟩
  rintro _ w2 rfl
  refine bifF ⟨rfl,.inl ?_⟩
  have:aac l g= []:=by unfold aac;rw [hl];rfl
  rw [this]
  exact pack (h1.ro 4 [3,0,1,2] rfl)
 | true=>
  obtain ⟨n,rfl,x,hx,hxl⟩:=aa7.1 hl
  have hlt:=(List.getElem?_eq_some_iff.1 hx).1
  rw [aws hl]
  rw [List.length_map]
  rw [aws hl] at hY
  refine ⟨fun w'=>∃ (k:Nat) (x:Int),((x= -1/\k=(chain l n).length)\/∃ m:Nat,x=m/\m<l.length/\(chain l n).drop k=chain l m)/\Sep E (blk p1 [.pointer (some ⟨b,0,none⟩)]::blk p3 [.int .i64 x]::aaq b l::J k::L) w',
   fun w'=>match w'.cell? ⟨p3,0,none⟩ with | some (.int _ x)=>(x+1).toNat | _=>0,⟨0,n,.inr ⟨n,rfl,hlt,rfl⟩,h1⟩,?_⟩
  rintro _ w2 ⟨k,x,hst,h2⟩
  refine bifT ⟨x,h2.cellAt 1 rfl 0,?_⟩
  rcases hst with ⟨rfl,rfl⟩ | ⟨m,rfl,hm,hd⟩
  ·refine bGe (fun hh=>absurd hh (by decide)) (fun _=>⟨rfl,.inl (pack (h2.ro 4 [3,0,1,2] rfl))⟩)
  ·refine bGe (fun _=> ?_) (fun hh=>absurd hh (by omega))
   refine ⟨_,h2.cellAt 1 rfl 0,lp,rfl,?_⟩
   obtain ⟨r,hr⟩:=awu l m
   have hk:(chain l n)[k]? =some m:=by
    have:((chain l n).drop k)[0]? =some m:=by rw [hd,hr];rfl
    rwa [List.getElem?_drop,Nat.add_zero] at this
   have hk':(((chain l n).map Int.ofNat).map (Value.int .i64))[k]? =some (.int .i64 (m:Int)):=by
    rw [List.getElem?_map,List.getElem?_map,hk];rfl
   obtain ⟨fn,tmps,asg,body,hrun,hround⟩:=hY _ k _ _ hk' (h2.ro 4 [3,0,1,2] rfl)
   refine ⟨fn,tmps,asg,body,hrun,hround.mono fun e w3 he=> ?_⟩
   rcases he with ⟨rfl,h3⟩ | ⟨rfl,h3⟩
   ·refine ⟨true,rfl,bifF ?_⟩
    have h3:Sep E (blk p1 [.pointer (some ⟨b,0,none⟩)]::blk p3 [.int .i64 (m:Int)]::aaq b l::J (k+1)::L) w3:=h3.ro 4 [1,2,3,0] rfl
    refine Dr.i h3 (fun w4 h4=> ?_)
    obtain ⟨s,hn,h5⟩:=aaq.get (h4.fr 2 rfl)
    obtain ⟨y,hy⟩:∃ y,l[m]? =some y:=⟨_,List.getElem?_eq_getElem hm⟩
    have fin:∀ {w':World},w'=w4 ->St ⟨p3,0,none⟩ (.int .i64 y.up) (fun w22=>(([]:List Nat)= []/\((∃ (k:Nat) (x:Int),((x= -1/\k=(chain l n).length)\/∃ m:Nat,x=m/\m<l.length/\(chain l n).drop k=chain l m)/\Sep E (blk p1 [.pointer (some ⟨b,0,none⟩)]::blk p3 [.int .i64 x]::aaq b l::J k::L) w22)/\
      (match w22.cell? ⟨p3,0,none⟩ with | some (.int _ x)=>(x+1).toNat | _=>0)<(match w2.cell? ⟨p3,0,none⟩ with | some (.int _ x)=>(x+1).toNat | _=>0)))) w':=by
     rintro _ rfl
     refine St.i (h4.fr 1 rfl) (by show 0<1;decide) (fun w5 h6=> ?_)
     have h6:Sep E (blk p3 [.int .i64 y.up]::blk p1 [.pointer (some ⟨b,0,none⟩)]::aaq b l::J (k+1)::L) w5:=h6
     have c1:w5.cell? ⟨p3,0,none⟩=some (.int .i64 y.up):=h6.cell 0
     have c2:w2.cell? ⟨p3,0,none⟩=some (.int .i64 (m:Int)):=h2.cellAt 1 rfl 0
     rw [c1,c2]
     have hcl:(chain l n).drop (k+1)=r:=by rw [<- List.drop_drop,hd,hr];rfl
     refine ⟨rfl,⟨k+1,y.up,?_,h6.swap⟩,?_⟩
     ·rcases Nat.eq_zero_or_pos m with h0 | h0
      ·subst h0
       rw [hw.root] at hy
       have:=Option.some.inj hy
       subst this
       rw [aje] at hr hd
       refine .inl ⟨rfl,?_⟩
       have:=congrArg List.length hd
       rw [List.length_drop] at this
       simp at this;omega
      ·have hu:=hw.up m y hy h0
       have hs:=ahY hw hy h0
       refine .inr ⟨y.up.toNat,by omega,by omega,?_⟩
       rw [hcl]
       rw [hr] at hs
       exact (List.cons.inj hs).2
     ·rcases Nat.eq_zero_or_pos m with h0 | h0
      ·subst h0
       rw [hw.root] at hy
       have:=Option.some.inj hy
       subst this
       decide
      ·have hu:=hw.up m y hy h0
       show (y.up+1).toNat<((m:Int)+1).toNat
       omega
    have a1:w4.cell? ⟨p1,0,none⟩=some (.pointer (some ⟨b,0,none⟩)):=h4.cell 0
    have a3:w4.cell? ⟨p3,0,none⟩=some (.int .i64 (m:Int)):=h4.cellAt 1 rfl 0
    have ab:w4.cell? (Addr.add ⟨b,0,none⟩ 0)=some (.slice s.p s.n s.c):=by rw [aad];exact h5.cell 0
    have el:∀ {f:Addr ->Prop},(∀ a,w4.cell? (a.add 0)=some (.int .i64 y.up) ->f a) ->elAt s.p s.n (m:Int) 2 f:=fun kk=>gEl 1 h5 rfl hn rfl hy (fun b' _ hc=>kk _ (by rw [aad];exact hc 0 (by decide)))
    repeat' first
     | exact trivial
     | exact fin rfl
     | exact ⟨_,a1,?_⟩
     | refine ⟨_,a1,?_⟩
     | refine ⟨_,a3,?_⟩
     | refine ⟨s,ab,?_⟩
     | refine ⟨_,rfl,?_⟩
     | refine el (fun a ha=> ?_)
     | refine ⟨_,ha,?_⟩
     | refine And.intro ?_ ?_
   ·refine ⟨false,rfl,bifT ⟨rfl,.inr ⟨k,?_,?_⟩⟩⟩
    ·exact (List.getElem?_eq_some_iff.1 hk).1
    ·exact pack h3
end Go.Mp
end
section
set_option maxRecDepth 100000
namespace Go.Mp
open Go Go.Vc Go.Sp Go.Proofs Go.Kt
variable {E:Env} {L:List Asn} {w W:World}
theorem aHe:slQ P adv=some (8,1,[.int .i64 0]):=by kernel_rfl
theorem amv {s:Sl} {q:Nat} {l:List Int} {x:Int} (hn:s.n=l.length) (hb:l.length<100000000) (h:Sep E (blk q [.int .i64 x]::rowA s 1 (intL l)::L) w) {G:Sl ->World ->Prop}
  (g:∀ s' w1,s'.n=(l++ [x]).length ->Sep E (rowA s' 1 (intL (l++ [x]))::L) w1 ->G s' w1):
  ∃ x1:Sl,∃ w1,Sem.run P (Builtin.append_ #[adv,adv] adv #[.slice s.p s.n s.c,.slice (some ⟨q,0,none⟩) 1 1]) w= .ok (.slice x1.p x1.n x1.c) w1/\G x1 w1:=by
 have hs:=Src.blk (n:=1) (c:=1) h (i:=0) rfl aHe rfl (fun u hu=>by simp at hu;rw [hu];rfl)
 have e:intL (l++ [x])=intL l++ [.int .i64 x]:=by simp [intL]
 refine rowA.append h.swap aHe rfl hs (by omega) (by rw [hn];omega) (fun s' w1 hs' h1=> ?_)
 refine g s' w1 (by rw [hs',hn];simp) ?_
 rw [e]
 exact (h1.fr 0 rfl).ro 2 [0] rfl
theorem aEW {f:FuncId} {ca:Array Value} {A A':Asn} {xs:List Int} (hf:aju P f=true) (hs:axI P E f ca A A' (xs.map (Value.int .i64))) (hb:xs.length<1000000) (h:Sep E (A::L) w):
  Calls P afW #[.func (.func f) #[] ca] w (Ret fun v w'=>∃ s:Sl,v= .slice s.p s.n s.c/\s.n=xs.length/\Sep E (rowA s 1 (intL xs)::A'::L) w'):=by
 apply aos
 unfold aiY
 refine use (K:=fun v w'=>∃ s:Sl,v= .slice s.p s.n s.c/\s.n=xs.length/\Sep E (rowA s 1 (intL xs)::A'::L) w') ?_ ?_
 rotate_left
 ·rintro _ w1 ⟨s,rfl,hn,h1⟩
  exact ⟨s,rfl,s,rfl,hn,h1⟩
 apply akW ⟨none,0,0⟩
 unfold aei
 refine Al.i h (fun p w1 h1=> ?_)
 have h1:Sep E (exA (fun s:Sl=>pur (s.n=0) (star (blk p [.slice s.p s.n s.c]) (rowA s 1 (intL []))))::A::L) w1:=
  Sep.ex.2 ⟨⟨none,0,0⟩,Sep.pur.2 ⟨rfl,Sep.star.2 (rowA.none_ (m:=1) h1).swap⟩⟩
 refine af6.i (τ:=tau) (ρ:=rho) (pan:=pan) (An:=abw) (yl:=ael) mixed (by decide) (by decide) akt hf hs
  (fun k=>exA fun s:Sl=>pur (s.n=(xs.take k).length) (star (blk p [.slice s.p s.n s.c]) (rowA s 1 (intL (xs.take k))))) (fun _=>pur False emp) ?_ h1 ?_ ?_
 ·intro l r L' k x W R hr1 hr2 hx hW hgo _
  obtain ⟨y,hy,rfl⟩:∃ y,xs[k]? =some y/\x= .int .i64 y:=by
   rw [List.getElem?_map] at hx
   cases hk:xs[k]? with
   | none=>rw [hk] at hx;cases hx
   | some y=>rw [hk] at hx;exact ⟨y,rfl,(Option.some.inj hx).symm⟩
  have hlt:=(List.getElem?_eq_some_iff.1 hy).1
  refine (aku ⟨none,0,0⟩ _ ⟨p,0,none⟩ y l W R).mpr ?_
  unfold agc
  refine ahn.i hW hr1 (fun w2 h2=> ?_)
  obtain ⟨s,h2⟩:=Sep.ex.1 h2.swap
  obtain ⟨hn,h2⟩:=Sep.pur.1 h2
  have h2:=Sep.star.1 h2
  refine ⟨s,h2.cell 0,Al.i h2 (fun q w3 h3=> ?_)⟩
  have h4:Sep E (blk q [.int .i64 y]::rowA s 1 (intL (xs.take k))::blk p [.slice s.p s.n s.c]::objB l (.loop {r with state:= .busy})::L') w3:=h3.ro 4 [0,2,1,3] rfl
  refine amv hn (by rw [List.length_take];omega) h4 (fun s' w4 hn' h5=> ?_)
  refine St.i h5.swap (by show 0<1;decide) (fun w5 h6=> ?_)
  have h6:Sep E (blk p [.slice s'.p s'.n s'.c]::rowA s' 1 (intL (xs.take k++ [y]))::objB l (.loop {r with state:= .busy})::L') w5:=h6
  refine EndR.i (h6.ro 3 [2,0,1] rfl) (fun w6 h7=> ?_)
  have e:({ {r with state:= .busy} with state:=if (none:Option Code).isNone then .ready else .done,pending:=none} :Loop)=r:=by
   cases r;simp only at hr1 hr2;subst hr1 hr2;rfl
  rw [e] at h7
  refine hgo w6 (Sep.swap (Sep.ex.2 ⟨s',Sep.pur.2 ⟨?_,?_⟩⟩))
  ·rw [hn',List.take_add_one,hy];rfl
  ·rw [List.take_add_one,hy]
   exact Sep.star.2 (h7.ro 3 [1,2,0] rfl)
 ·intro b W hW
  obtain ⟨s,h2⟩:=Sep.ex.1 hW.swap
  obtain ⟨hn,h2⟩:=Sep.pur.1 h2
  have h2:=Sep.star.1 h2
  rw [List.length_map,List.take_length] at hn h2
  have h3:Sep E (objB b (.deferred (some []))::rowA s 1 (intL xs)::blk p [.slice s.p s.n s.c]::A'::L) W:=h2.ro 3 [2,1,0] rfl
  have h4:=(h3.putObj (o':= .deferred none)).tail
  exact ⟨s,h2.cell 0,h3.objBlock,s,rfl,hn,h4.ro 2 [0] rfl⟩
 ·intro b k W _ hW
  exact (Sep.pur.1 hW.swap).1.elim
theorem okUp:aju P ads=true:=by kernel_rfl
theorem c_up {b:Nat} {g:Int} (h:Sep E L w):Calls P ahi #[.pointer (some ⟨b,0,none⟩),.int .i64 g] w (Ret fun v w'=>∃ p1 p3,v= .func (.func ads) #[] #[.pointer (some ⟨p1,0,none⟩),.pointer (some ⟨p3,0,none⟩)]/\
  Sep E (blk p1 [.pointer (some ⟨b,0,none⟩)]::blk p3 [.int .i64 g]::L) w'):=by
 apply axf
 unfold anm
 exact Al.i h (fun p1 w1 h1=>Al.i h1 (fun p3 w2 h2=>⟨p1,p3,rfl,h2.swap⟩))
theorem agt {l:List G} (hw:WF l) (g:Int):(aac l g).length<=64:=by
 unfold aac
 split
 ·next h=>
  obtain ⟨n,rfl,x,hx,_⟩:=aa7.1 h
  have hlt:=(List.getElem?_eq_some_iff.1 hx).1
  rw [List.length_map,Int.toNat_natCast]
  have:=(au0 hw n hlt).2
  have:=hw.few
  omega
 ·simp
theorem akg {b:Nat} {l:List G} {g:Int} (hw:WF l) (h:Sep E (aaq b l::L) w):Calls P abN #[.pointer (some ⟨b,0,none⟩),.int .i64 g] w (Ret fun v w'=>∃ s:Sl,v= .slice s.p s.n s.c/\s.n=(aac l g).length/\
  Sep E (rowA s 1 (intL (aac l g))::aaq b l::L) w'):=by
 apply ar4
 unfold alr
 refine use (c_up h) ?_
 rintro _ w1 ⟨p1,p3,rfl,h1⟩
 refine ⟨_,rfl,?_⟩
 have h2:Sep E (star (blk p1 [.pointer (some ⟨b,0,none⟩)]) (star (blk p3 [.int .i64 g]) (aaq b l))::L) w1:=by
  have h3:=Sep.star.2 (h1.ro 3 [1,2,0] rfl)
  exact Sep.star.2 h3.swap
 refine use (aEW okUp (aG9 hw) (by have:=agt hw g;omega) h2) ?_
 rintro _ w2 ⟨s,rfl,hn,h3⟩
 refine ⟨s,rfl,s,rfl,hn,?_⟩
 have h4:=Sep.star.1 h3.swap
 have h5:=Sep.star.1 h4.swap
 exact h5.ro 4 [3,1] rfl
theorem aHm {b:Nat} {l:List G} {g:Int} (hw:WF l) (h:Sep E (aaq b l::L) w):Calls P ahC #[.pointer (some ⟨b,0,none⟩),.int .i64 g] w (Ret fun v w'=>v= .int .i64 (aFp l g)/\Sep E (aaq b l::L) w'):=by
 apply ar5
 unfold ahO
 refine Al.i h (fun p w1 h1=> ?_)
 refine St.i h1 (by show 0<1;decide) (fun w2 h2=> ?_)
 have h2:Sep E (blk p [.int .i64 (-1)]::aaq b l::L) w2:=h2
 refine use (c_up h2) ?_
 rintro _ w3 ⟨p1,p3,rfl,h3⟩
 refine ⟨_,rfl,?_⟩
 have hlen:=agt hw g
 have h4:Sep E (blk p [.int .i64 (((0:Nat):Int) - 1)]::star (blk p1 [.pointer (some ⟨b,0,none⟩)]) (star (blk p3 [.int .i64 g]) (aaq b l))::L) w3:=by
  have h5:=Sep.star.2 (h3.ro 4 [1,3,0,2] rfl)
  exact (Sep.star.2 h5.swap).swap
 refine af6.i (τ:=tau) (ρ:=rho) (pan:=pan) (An:=acT) (yl:=ahQ) mixed (by decide) (by decide) aqI okUp (aG9 hw)
  (fun k=>blk p [.int .i64 ((k:Int) - 1)]) (fun _=>pur False emp) ?_ h4 ?_ ?_
 ·intro lp r L' k x W R hr1 hr2 hx hW hgo _
  have hk:k<(aac l g).length:=by have:=(List.getElem?_eq_some_iff.1 hx).1;rwa [List.length_map] at this
  obtain ⟨y,rfl⟩:∃ y,x= .int .i64 y:=by
   rw [List.getElem?_map] at hx
   cases hk:(aac l g)[k]? with
   | none=>rw [hk] at hx;cases hx
   | some y=>rw [hk] at hx;exact ⟨y,(Option.some.inj hx).symm⟩
  refine (aqJ _ g ⟨p,0,none⟩ _ y lp W R).mpr ?_
  unfold ak5
  refine ahn.i hW hr1 (fun w4 h5=> ?_)
  refine ⟨_,h5.cellAt 1 rfl 0,?_⟩
  refine St.i h5.swap (by show 0<1;decide) (fun w5 h6=> ?_)
  have e2:IntKind.i64.wrap ((k:Int) - 1+1)=((k+1:Nat):Int) - 1:=by rw [w64 (by omega) (by omega)];omega
  rw [e2] at h6
  refine EndR.i h6.swap (fun w6 h7=> ?_)
  have e:({ {r with state:= .busy} with state:=if (none:Option Code).isNone then .ready else .done,pending:=none} :Loop)=r:=by
   cases r;simp only at hr1 hr2;subst hr1 hr2;rfl
  rw [e] at h7
  exact hgo w6 h7
 ·intro b' W hW
  rw [List.length_map] at hW
  have h5:=(hW.putObj (o':= .deferred none)).tail
  refine ⟨_,hW.cellAt 1 rfl 0,hW.objBlock,rfl,?_⟩
  have h6:=Sep.star.1 h5.tail
  have h7:=Sep.star.1 h6.swap
  exact h7.ro 3 [1] rfl
 ·intro b' k W _ hW
  exact (Sep.pur.1 hW.swap).1.elim
end Go.Mp
end
section
set_option maxRecDepth 100000
namespace Go.Sp
open Go Go.Vc
structure Intz (w:World) (s:Sl) (l:List Int):Prop where
 n:s.n=l.length
 rd:∀ (i:Nat) x,l[i]? =some x ->∃ a,s.p=some a/\w.cell? (a.add i)=some (.int .i64 x)
variable {E:Env} {L:List Asn} {w W:World} {P:Program}
theorem Intz.grow {s:Sl} {l:List Int} (h:Intz W s l) (g:Grow W w):Intz w s l:=⟨h.n,fun i x hx=>let ⟨a,h1,h2⟩:=h.rd i x hx;⟨a,h1,g.cell h2⟩⟩
theorem Intz.el {s:Sl} {l:List Int} {i:Int} {F:Int ->Prop} (h:Intz w s l) (k:Nat) (hi:i=k) {x:Int} (hx:l[k]? =some x) (f:F x):elAt s.p s.n i 1 fun a=>∃ v:Int,w.cell? a=some (.int .i64 v)/\F v:=by
 have hlt:=(List.getElem?_eq_some_iff.1 hx).1
 obtain ⟨a,hp,ha⟩:=h.rd k x hx
 have:=h.n
 refine ⟨a,hp,⟨by omega,by omega⟩,x,?_,f⟩
 have e:i.toNat=k:=by omega
 rw [e,Nat.mul_one];exact ha
theorem Intz.row {s:Sl} {l:List Int} {q:Nat} (h:Sep E L w) (hq:L[q]? =some (rowA s 1 (intL l))) (hn:s.n=l.length):Intz w s l:=by
 refine ⟨hn,fun i x hx=> ?_⟩
 have hlt:=(List.getElem?_eq_some_iff.1 hx).1
 have h1:=h.fr q hq
 obtain ⟨b,spare,hp,g1,g2,g3,h2⟩:=rowA.get_ h1 (by omega)
 refine ⟨_,hp,?_⟩
 rw [aad,Nat.zero_add,rowA.cell h2 (by rw [aC2];exact hlt),api,hx];rfl
theorem Intz.nil:Intz w ⟨none,0,0⟩ []:=⟨rfl,fun i x h=>by simp at h⟩
theorem useD {g:Value} {args:Array Value} {K:Value ->World ->Prop} {R:Ending ->World ->Prop} (h:abo P g args w (Ret K)) (k:∀ v w',K v w' ->R (.returned v) w'):abo P g args w R:=by
 obtain ⟨f,ca,hg,ho,hc⟩:=h
 exact ⟨f,ca,hg,ho,hc.mono fun e w' he=>by obtain ⟨v,rfl,hv⟩:=he;exact k v w' hv⟩
end Go.Sp
namespace Go.Mp
open Go Go.Vc Go.Sp Go.Proofs Go.Kt
variable {E:Env} {L:List Asn} {w W:World}
theorem apc {s:Sl} {l:List Int} (hI:Intz w s l) (hb:l.length<4611686018427387904) (v:Int):Calls P acd #[.slice s.p s.n s.c,.int .i64 v] w (Ret fun r w'=>r= .bool (l.contains v)/\w'=w):=by
 apply agW
 unfold aet
 have key:Calls P adC #[.slice s.p s.n s.c,.int .i64 v] w (Ret fun r w'=>(∃ x:Int,r= .int .i64 x/\decide (x≥0)=l.contains v)/\w'=w):=by
  apply aia
  unfold afe
  have hn:=hI.n
  refine ⟨fun i w'=>w'=w/\∃ k:Nat,i=k/\k<=l.length/\(l.take k).contains v=false,fun i _=>(l.length - i).toNat,⟨rfl,0,rfl,Nat.zero_le _,by simp⟩,?_⟩
  rintro _ i w1 ⟨rfl,k,rfl,hk,hno⟩
  refine bLt (fun hlt=> ?_) (fun hge=> ?_)
  ·obtain ⟨x,hx⟩:∃ x,l[k]? =some x:=⟨_,List.getElem?_eq_getElem (by omega)⟩
   refine hI.el k rfl hx ?_
   refine bEq (fun e=> ?_) (fun hne=> ?_)
   ·subst e
    refine ⟨⟨_,rfl,?_⟩,rfl⟩
    rw [decide_eq_true (by omega)]
    exact (List.contains_iff_mem.2 (List.mem_of_getElem? hx)).symm
   ·refine ⟨⟨rfl,k+1,aah (by omega),by omega,?_⟩,by rw [aah (by omega)];dsimp only;omega⟩
    rw [aaj hx,List.contains_eq_any_beq,List.any_append,<- List.contains_eq_any_beq,hno]
    simpa using hne
  ·refine ⟨⟨_,rfl,?_⟩,rfl⟩
   have:k=l.length:=by omega
   subst this
   rw [List.take_length] at hno
   rw [hno];rfl
 refine use key ?_
 rintro _ w1 ⟨⟨x,rfl,hx⟩,rfl⟩
 refine ⟨x,rfl,?_,rfl⟩
 rw [hx]
theorem aDv {b:Nat} {l:List G} {A:Asn} {is:Value} {isB:Nat ->Bool} (hw:WF l) (hIs:∀ i x,l[i]? =some x ->∀ L w,Sep E (aaq b l::A::L) w ->abo P is #[.int .i64 (i:Nat)] w (Ret fun v w'=>v= .bool (isB i)/\Sep E (aaq b l::A::L) w'))
  (h:Sep E (aaq b l::A::L) w):Calls P afr #[.pointer (some ⟨b,0,none⟩),is] w (Ret fun v w'=>∃ s:Sl,v= .slice s.p s.n s.c/\s.n=(ahP l isB).length/\Sep E (rowA s 1 (intL (ahP l isB))::aaq b l::A::L) w'):=by
 apply ar6
 unfold als
 obtain ⟨s0,hn0,h0⟩:=aaq.get h
 refine ⟨_,rfl,s0,h0.cell 0,?_⟩
 let part:Nat ->List Int:=fun k=>((List.range k).filter fun i:Nat=>aaf l (i:Int)&&isB i).map Int.ofNat
 have hfew:=hw.few
 have hpl:∀ k,k<=l.length ->(part k).length<=64:=fun k hk=>by
  have:=List.length_filter_le (fun i:Nat=>aaf l (i:Int)&&isB i) (List.range k)
  simp only [part,List.length_map]
  rw [List.length_range] at this;omega
 refine ⟨fun s i w'=>∃ k:Nat,i=k/\k<=l.length/\s.n=(part k).length/\Sep E (rowA s 1 (intL (part k))::aaq b l::A::L) w',fun _ i _=>(l.length - i).toNat,⟨0,rfl,Nat.zero_le _,rfl,rowA.none_ h⟩,?_⟩
 rintro _ s i w1 ⟨k,rfl,hk,hn,h1⟩
 have hps:part (k+1)=part k++(if (aaf l (k:Int)&&isB k)=true then [Int.ofNat k] else []):=by
  simp only [part]
  rw [List.range_succ,List.filter_append,List.map_append]
  congr 1
  rw [List.filter_cons]
  split<;>rfl
 refine bLt (fun hlt=> ?_) (fun hge=> ?_)
 ·have hlt':k<l.length:=by omega
  obtain ⟨x,hx⟩:∃ x,l[k]? =some x:=⟨_,List.getElem?_eq_getElem hlt'⟩
  have hlive:aaf l (k:Int)=x.live:=by unfold aaf;rw [Int.toNat_natCast,hx,decide_eq_true (by omega)];rfl
  refine ⟨fun y w'=>y=(aaf l (k:Int)&&isB k)/\Sep E (rowA s 1 (intL (part k))::aaq b l::A::L) w',?_,?_⟩
  ·obtain ⟨s1,hn1,h2⟩:=aaq.get (h1.fr 1 rfl)
   refine ⟨_,rfl,s1,h2.cell 0,gEl 1 h2 rfl hn1 rfl hx (fun b' _ hc=>⟨x.live,?_,?_⟩)⟩
   ·rw [aad];exact hc 1 (by decide)
   ·refine bifI (fun hxl=> ?_) (fun hxl=> ?_)
    ·refine useD (hIs k x hx (rowA s 1 (intL (part k))::L) w1 (h1.ro 3 [1,2,0] rfl)) ?_
     rintro _ w2 ⟨rfl,h3⟩
     refine ⟨_,rfl,?_,h3.ro 3 [2,0,1] rfl⟩
     rw [hlive,hxl];rfl
    ·refine ⟨?_,h1⟩
     rw [hlive,hxl];rfl
  ·rintro _ y w2 ⟨hy,h2⟩
   refine bifI (fun ht=> ?_) (fun hf=> ?_)
   ·rw [ht] at hy
    refine Al.i h2 (fun q w3 h3=> ?_)
    refine amv hn (by have:=hpl k hk;omega) h3 (fun s' w4 hn' h4=> ?_)
    have e:part (k+1)=part k++ [(k:Int)]:=by rw [hps,if_pos hy.symm];rfl
    rw [<- e] at hn' h4
    exact ⟨⟨k+1,aah (by omega),hlt',hn',h4⟩,by rw [aah (by omega)];dsimp only;omega⟩
   ·rw [hf] at hy
    have e:part (k+1)=part k:=by rw [hps,if_neg (by rw [<- hy];decide),List.append_nil]
    rw [<- e] at hn h2
    exact ⟨⟨k+1,aah (by omega),hlt',hn,h2⟩,by rw [aah (by omega)];dsimp only;omega⟩
 ·have:k=l.length:=by omega
  subst this
  exact ⟨s,rfl,hn,h1⟩
theorem asS {b:Nat} {l:List G} {g:Int} (hw:WF l) (h:Sep E (aaq b l::L) w):Calls P ac6 #[.pointer (some ⟨b,0,none⟩),.int .i64 g] w (Ret fun v w'=>∃ s:Sl,v= .slice s.p s.n s.c/\s.n=(abe l g).length/\
  Sep E (rowA s 1 (intL (abe l g))::aaq b l::L) w'):=by
 apply ar3
 unfold alq
 refine Al.i h (fun p1 w1 h1=>Al.i h1 (fun p3 w2 h2=> ?_))
 refine ⟨_,h2.cellAt 1 rfl 0,_,h2.cell 0,?_⟩
 refine use (adG (q:=2) h2 rfl) ?_
 rintro _ w3 ⟨rfl,rfl⟩
 refine ⟨_,rfl,bifI (fun hh=> ?_) (fun hh=> ?_)⟩
 ·have:aaf l g=false:=by simpa using hh
  have e:abe l g= []:=by unfold abe;rw [this];rfl
  rw [e]
  exact ⟨⟨none,0,0⟩,rfl,rfl,rowA.none_ (h2.ro 3 [2] rfl)⟩
 ·have hl:aaf l g=true:=by simpa using hh
  refine ⟨_,h2.cellAt 1 rfl 0,?_⟩
  have h3:Sep E (aaq b l::star (blk p1 [.pointer (some ⟨b,0,none⟩)]) (blk p3 [.int .i64 g])::L) w3:=(Sep.star.2 (h2.ro 3 [1,0,2] rfl)).swap
  refine use (aDv (isB:=fun i=>(aac l i).contains g) hw ?_ h3) ?_
  ·intro i x hx L' w4 h4
   refine ⟨aeH,_,rfl,by kernel_rfl,?_⟩
   show Calls P aeH #[.int .i64 (i:Nat),.pointer (some ⟨p1,0,none⟩),.pointer (some ⟨p3,0,none⟩)] w4 _
   apply apy
   unfold ajI
   have h5:Sep E (blk p1 [.pointer (some ⟨b,0,none⟩)]::blk p3 [.int .i64 g]::aaq b l::L') w4:=Sep.star.1 h4.swap
   refine Dr.i h5 (fun w5 h6=> ?_)
   refine ⟨_,h6.cell 0,_,h6.cellAt 1 rfl 0,?_⟩
   refine use (akg hw (h6.fr 2 rfl)) ?_
   rintro _ w6 ⟨s,rfl,hn,h7⟩
   refine ⟨s,rfl,_,h7.cellAt 3 rfl 0,rfl,?_⟩
   refine use (apc (Intz.row (q:=0) h7 rfl hn) (by have:=agt hw i;omega) g) ?_
   rintro _ w7 ⟨rfl,rfl⟩
   refine ⟨_,rfl,rfl,?_⟩
   exact (Sep.star.2 (h7.ro 4 [2,3,1] rfl)).swap
  ·rintro _ w4 ⟨s,rfl,hn,h4⟩
   have e:abe l g=ahP l (fun i=>(aac l i).contains g):=by unfold abe;rw [if_pos hl]
   rw [e]
   exact ⟨s,rfl,s,rfl,hn,h4.ro 3 [0,1] rfl⟩
theorem aEZ {b:Nat} {l:List G} {g:Int} (hw:WF l) (h:Sep E (aaq b l::L) w):Calls P afK #[.pointer (some ⟨b,0,none⟩),.int .i64 g] w (Ret fun v w'=>∃ s:Sl,v= .slice s.p s.n s.c/\s.n=(acR l g).length/\
  Sep E (rowA s 1 (intL (acR l g))::aaq b l::L) w'):=by
 apply atY
 unfold alQ
 refine Al.i h (fun p1 w1 h1=>Al.i h1 (fun p3 w2 h2=> ?_))
 refine ⟨_,h2.cellAt 1 rfl 0,_,h2.cell 0,?_⟩
 refine use (adG (q:=2) h2 rfl) ?_
 rintro _ w3 ⟨rfl,rfl⟩
 refine ⟨_,rfl,bifI (fun hh=> ?_) (fun hh=> ?_)⟩
 ·have:aaf l g=false:=by simpa using hh
  have e:acR l g= []:=by unfold acR;rw [this];rfl
  rw [e]
  exact ⟨⟨none,0,0⟩,rfl,rfl,rowA.none_ (h2.ro 3 [2] rfl)⟩
 ·have hl:aaf l g=true:=by simpa using hh
  refine ⟨_,h2.cellAt 1 rfl 0,?_⟩
  have h3:Sep E (aaq b l::star (blk p1 [.pointer (some ⟨b,0,none⟩)]) (blk p3 [.int .i64 g])::L) w3:=(Sep.star.2 (h2.ro 3 [1,0,2] rfl)).swap
  refine use (aDv (isB:=fun i=>((l[i]?).map G.up).getD (-1)==g) hw ?_ h3) ?_
  ·intro i x hx L' w4 h4
   refine ⟨ae8,_,rfl,by kernel_rfl,?_⟩
   show Calls P ae8 #[.int .i64 (i:Nat),.pointer (some ⟨p1,0,none⟩),.pointer (some ⟨p3,0,none⟩)] w4 _
   apply aqF
   unfold aj2
   have h5:Sep E (blk p1 [.pointer (some ⟨b,0,none⟩)]::blk p3 [.int .i64 g]::aaq b l::L') w4:=Sep.star.1 h4.swap
   refine Dr.i h5 (fun w5 h6=> ?_)
   obtain ⟨s1,hn1,h7⟩:=aaq.get (h6.fr 2 rfl)
   refine ⟨_,h6.cell 0,⟨_,rfl,s1,h7.cell 0,gEl 1 h7 rfl hn1 rfl hx (fun b' _ hc=>⟨x.up,?_,_,h6.cellAt 1 rfl 0,?_,?_⟩)⟩⟩
   ·rw [aad];exact hc 0 (by decide)
   ·rw [hx];rfl
   ·exact (Sep.star.2 h6).swap
  ·rintro _ w4 ⟨s,rfl,hn,h4⟩
   have e:acR l g=ahP l (fun i=>((l[i]?).map G.up).getD (-1)==g):=by unfold acR;rw [if_pos hl]
   rw [e]
   exact ⟨s,rfl,s,rfl,hn,h4.ro 3 [0,1] rfl⟩
theorem aDM:slQ P avZ=some (16,2,[.int .i64 0,.bool false]):=by kernel_rfl
theorem aD2 {b:Nat} {l:List G} {p:Int} (hw:WF l) (h:Sep E (aaq b l::L) w):Calls P aiG #[.pointer (some ⟨b,0,none⟩),.int .i64 p] w (Ret fun v w'=>v= .tuple #[.int .i64 (addI l p).2.1,.int .i64 (addI l p).2.2]/\Sep E (aaq b (addI l p).1::L) w'):=by
 apply avF
 unfold amN
 have hfew:=hw.few
 refine use (adG (q:=0) h rfl) ?_
 rintro _ w1 ⟨rfl,rfl⟩
 refine ⟨_,rfl,bifI (fun hh=> ?_) (fun hh=> ?_)⟩
 ·have:aaf l p=false:=by simpa using hh
  unfold addI;rw [if_pos this];exact ⟨rfl,h⟩
 have hl:¬ aaf l p=false:=by simpa using hh
 refine use (aHm hw h) ?_
 rintro _ w2 ⟨rfl,h2⟩
 refine ⟨_,rfl,bGe (fun hge=> ?_) (fun hlt=> ?_)⟩
 ·unfold addI;rw [if_neg hl,if_pos hge];exact ⟨rfl,h2⟩
 obtain ⟨s,hn,h3⟩:=aaq.get h2
 refine ⟨_,rfl,s,h3.cell 0,bGe (fun hge=> ?_) (fun hlt2=> ?_)⟩
 ·unfold addI;rw [if_neg hl,if_neg (by omega),if_pos (by omega)];exact ⟨rfl,h2⟩
 refine ⟨_,rfl,s,h3.cell 0,Al.i h3 (fun q w3 h4=> ?_)⟩
 have hs:=Src.blk (n:=1) (c:=1) h4 (i:=0) rfl aDM rfl (fun u hu=>by simp at hu;rcases hu with rfl | rfl<;>rfl)
 refine rowA.append (h4.ro 3 [2,0,1] rfl) aDM rfl hs (by omega) (by omega) (fun s' w4 hs' h5=> ?_)
 have h6:Sep E (blk b [.slice s.p s.n s.c]::rowA s' 2 (recs G.vs (l++ [⟨p,true⟩]))::L) w4:=by
  have e:recs G.vs (l++ [⟨p,true⟩])=recs G.vs l++ [.int .i64 p,.bool true]:=by rw [akB,apB];rfl
  rw [e]
  exact h5.ro 3 [2,0] rfl
 refine ⟨_,rfl,St.i h6 (by show 0<1;decide) (fun w5 h7=> ?_)⟩
 have h7:Sep E (blk b [.slice s'.p s'.n s'.c]::rowA s' 2 (recs G.vs (l++ [⟨p,true⟩]))::L) w5:=h7
 refine ⟨_,rfl,s',h7.cell 0,?_⟩
 have e2:addI l p=(l++ [⟨p,true⟩],(l.length:Int),0):=by unfold addI;rw [if_neg hl,if_neg (by omega),if_neg (by omega)]
 rw [e2]
 refine ⟨?_,aaq.mk (by rw [hs',hn];simp) h7⟩
 have e3:IntKind.i64.wrap (((s'.n:Nat):Int) - 1)=(l.length:Int):=by rw [hs',hn,w64 (by omega) (by omega)];omega
 rw [e3]
theorem c_Remove {b:Nat} {l:List G} {g:Int} (hw:WF l) (h:Sep E (aaq b l::L) w):Calls P ahe #[.pointer (some ⟨b,0,none⟩),.int .i64 g] w (Ret fun v w'=>v= .int .i64 (aby l g).2/\Sep E (aaq b (aby l g).1::L) w'):=by
 apply aqH
 unfold aj4
 refine bEq (fun h0=> ?_) (fun h0=> ?_)
 ·unfold aby;rw [if_pos h0];exact ⟨rfl,h⟩
 refine use (adG (q:=0) h rfl) ?_
 rintro _ w1 ⟨rfl,rfl⟩
 refine ⟨_,rfl,bifI (fun hh=> ?_) (fun hh=> ?_)⟩
 ·have:aaf l g=false:=by simpa using hh
  unfold aby;rw [if_neg h0,if_pos this];exact ⟨rfl,h⟩
 have hl:aaf l g=true:=by simpa using hh
 have hl':¬ aaf l g=false:=by rw [hl];decide
 refine use (aEZ hw h) ?_
 rintro _ w2 ⟨s,rfl,hn,h2⟩
 refine ⟨s,rfl,bGt (fun hgt=> ?_) (fun hle=> ?_)⟩
 ·have:acR l g≠ []:=fun e=>by rw [e] at hn;simp at hn;omega
  unfold aby;rw [if_neg h0,if_neg hl',if_pos this];exact ⟨rfl,h2.tail⟩
 have hk:¬ acR l g≠ []:=fun hne=>hne (List.eq_nil_of_length_eq_zero (by omega))
 obtain ⟨n,rfl,x,hx,hxl⟩:=aa7.1 hl
 obtain ⟨s1,hn1,h3⟩:=aaq.get h2.tail
 have e2:aby l (n:Int)=(l.set n ⟨x.up,false⟩,0):=by
  unfold aby;rw [if_neg h0,if_neg hl',if_neg hk,Int.toNat_natCast,hx];rfl
 rw [e2]
 refine ⟨_,rfl,s1,h3.cell 0,gEl 1 h3 rfl hn1 rfl hx (fun b' hb' _=> ?_)⟩
 have h4:=h3.swap
 rw [aad]
 refine stC G.vs2 (a':=⟨x.up,false⟩) h4 hb' hx (by decide) rfl (fun w3 h5=>⟨rfl,aaq.mk ?_ h5.swap⟩)
 rw [List.length_set];exact hn1
end Go.Mp
end
section
set_option maxRecDepth 100000
namespace Go.Sp
open Go
variable {E:Env} {L:List Asn} {w:World}
theorem Sep.put {A A':Asn} {q:Nat} (hq:L[q]? =some A) (h:Sep E (A'::L.eraseIdx q) w):Sep E (L.set q A') w:=by
 refine h.perm ?_
 obtain ⟨hl,_⟩:=List.getElem?_eq_some_iff.1 hq
 rw [List.eraseIdx_eq_take_drop_succ,List.set_eq_take_append_cons_drop,if_pos hl]
 exact List.perm_middle.symm
theorem Sep.put1 {A A' B:Asn} {q:Nat} (hq:L[q]? =some A) (h:Sep E (B::A'::L.eraseIdx q) w):Sep E (B::L.set q A') w:=by
 refine h.perm (List.Perm.cons _ ?_)
 obtain ⟨hl,_⟩:=List.getElem?_eq_some_iff.1 hq
 rw [List.eraseIdx_eq_take_drop_succ,List.set_eq_take_append_cons_drop,if_pos hl]
 exact List.perm_middle.symm
end Go.Sp
namespace Go.Mp
open Go Go.Vc Go.Sp Go.Proofs Go.Kc
variable {E:Env} {L:List Asn} {w:World}
structure At where
 c:Nat
 t:Nat
 fp:Nat
 fb:Nat
 fu:Nat
 sp:Nat
 sb:Nat
 su:Nat
 fi:Nat
 ge:Nat
 lg:Nat
 pg:Nat
 m:Nat
 gs:Sl
 us:Sl
 o:Array Obj
def aaz.vs (x:aaz):List Value:= [.int .i64 x.min,.int .i64 x.low,.bool x.whole]
theorem aaz.vs3 (x:aaz):(aaz.vs x).length=3:=rfl
def At.row (A:At):List Value:= [.pointer (some ⟨A.t,0,none⟩),.pointer (some ⟨A.fp,0,none⟩),.pointer (some ⟨A.fb,0,none⟩),.pointer (some ⟨A.fu,0,none⟩),.pointer (some ⟨A.sp,0,none⟩),.pointer (some ⟨A.sb,0,none⟩),.pointer (some ⟨A.su,0,none⟩),
 .pointer (some ⟨A.fi,0,none⟩),.pointer (some ⟨A.ge,0,none⟩),.pointer (some ⟨A.lg,0,none⟩),.pointer (some ⟨A.pg,0,none⟩),.map (some A.m),.slice A.gs.p A.gs.n A.gs.c,.slice A.us.p A.us.n A.us.c]
def ajo (m:Nat) (f:Int ->Option Int):Asn:=pur (∀ k x,f k=some x ->0<=x/\x<18446744073709551616) (mapF m (Value.int .i64) (fun k=>(f k).map (Value.int .u64)))
def acv (s:Sl) (l:List aaz):Asn:=pur (s.n=l.length) (rowA s 3 (recs aaz.vs l))
def upA (s:Sl) (l:List Kt.G):Asn:=pur (s.n=l.length) (rowA s 1 (intL (l.map Kt.G.up)))
def tabA (H:Array Obj):Asn:=pur (∃ o,H[2]? =some o/\akF o) (old H)
def aaa (A:At) (S:Cs):List Asn:=
 [blk A.c A.row,aaq A.t S.tree,abb A.fp S.fr.pool,BSt A.fb S.fr.pool.length S.fr.by_,cntA A.fu S.fr.used,abb A.sp S.sl.pool,BSt A.sb S.sl.pool.length S.sl.by_,cntA A.su S.sl.used,
  acC A.fi S.files,Gp.Lst A.ge S.gens,logA A.lg S.log,Tp.Tab A.pg S.pages,ajo A.m S.kept,acv A.gs S.guards,upA A.us S.tree,tabA A.o]
variable {A:At} {S:Cs}
theorem abk (g:Int) (h:Sep E (aaa A S++L) w):Calls P aae #[.pointer (some ⟨A.c,0,none⟩),.int .i64 g] w (Ret fun v w'=>v= .int .i64 (S.memory g)/\Sep E (aaa A S++L) w'):=by
 apply aqp
 refine ⟨_,rfl,ld h 0 rfl rfl rfl (use (aAw h (q:=4) rfl g) ?_)⟩
 rintro _ w1 ⟨rfl,h1⟩
 exact ⟨_,rfl,rfl,h1⟩
theorem agU (g:Int) (h:Sep E (aaa A S++L) w):Calls P aaQ #[.pointer (some ⟨A.c,0,none⟩),.int .i64 g] w (Ret fun v w'=>v= .int .i64 (S.swap g)/\Sep E (aaa A S++L) w'):=by
 apply atG
 refine ⟨_,rfl,ld h 0 rfl rfl rfl (use (aAw h (q:=7) rfl g) ?_)⟩
 rintro _ w1 ⟨rfl,h1⟩
 exact ⟨_,rfl,rfl,h1⟩
theorem awr (p:Pg) (h:Sep E (aaa A S++L) w):Calls P adq #[.pointer (some ⟨A.c,0,none⟩),.agg p.vs.toArray] w (Ret fun v w'=>v=strV (S.text p)/\Sep E (aaa A S++L) w'):=by
 apply atM
 refine Al.i h (fun b w1 h1=> ?_)
 have h1:Sep E (blk b p.vs::(aaa A S++L)) w1:=h1
 refine ld h1 0 rfl rfl rfl (bEq (fun e1=> ?_) (fun n1=>bEq (fun e2=> ?_) (fun n2=> ?_)))
 ·refine Dr.i h1 (fun w2 h2=>⟨_,rfl,ld h2 1 rfl rfl rfl (ld h2 0 rfl rfl rfl (use (arl p.at_ (h2.fr 4 rfl)) ?_))⟩)
  rintro _ _ ⟨rfl,rfl⟩
  refine ⟨_,_,rfl,?_,h2.tail⟩
  unfold Cs.text;rw [if_pos e1];rfl
 ·refine Dr.i h1 (fun w2 h2=>⟨_,rfl,ld h2 1 rfl rfl rfl (ld h2 0 rfl rfl rfl (use (arl p.at_ (h2.fr 7 rfl)) ?_))⟩)
  rintro _ _ ⟨rfl,rfl⟩
  refine ⟨_,_,rfl,?_,h2.tail⟩
  unfold Cs.text;rw [if_neg (by omega),if_pos e2];rfl
 ·refine Dr.i h1 (fun w2 h2=>⟨_,rfl,ld h2 1 rfl rfl rfl (ld h2 0 rfl rfl rfl (ld h2 0 rfl rfl rfl (use (aum (p.kf,p.ki) (h2.fr 9 rfl)) ?_)))⟩)
  rintro _ w3 ⟨rfl,h3⟩
  have h3:Sep E (blk b p.vs::(aaa A S++L)) w3:=h3.put (q:=9) rfl
  refine ⟨_,_,rfl,?_,h3.tail⟩
  unfold Cs.text;rw [if_neg n1,if_neg n2];rfl
theorem aE8 {p b u:Nat} {s:Store} {ch:Sl} {l:List Int} (at_:Int) (hI:Ints E L ch l) (hb:l.length<=64) (h:Sep E (abb p s.pool::BSt b s.pool.length s.by_::cntA u s.used::L) w):
  Calls P ab5 #[.agg #[.pointer (some ⟨p,0,none⟩),.pointer (some ⟨b,0,none⟩),.pointer (some ⟨u,0,none⟩)],.int .i64 at_,.slice ch.p ch.n ch.c] w
  (Ret fun v w'=>v= .tuple #[]/\Sep E (abb p (s.give at_ l).pool::BSt b (s.give at_ l).pool.length (s.give at_ l).by_::cntA u (s.give at_ l).used::L) w'):=by
 apply arQ
 refine Al.i h (fun q w1 h1=> ?_)
 have h1:Sep E (blk q [.pointer (some ⟨p,0,none⟩),.pointer (some ⟨b,0,none⟩),.pointer (some ⟨u,0,none⟩)]::abb p s.pool::BSt b s.pool.length s.by_::cntA u s.used::L) w1:=h1
 refine ld h1 0 rfl rfl rfl (use (azh at_ (h1.fr 2 rfl)) ?_)
 rintro _ w2 ⟨rfl,h2⟩
 have h2:Sep E (blk q [.pointer (some ⟨p,0,none⟩),.pointer (some ⟨b,0,none⟩),.pointer (some ⟨u,0,none⟩)]::abb p s.pool::BSt b s.pool.length (By.cl s.pool.length s.by_ at_).1::cntA u s.used::L) w2:=h2.put (q:=2) rfl
 refine ⟨_,rfl,ld h2 0 rfl rfl rfl (use (aD9 (h2.fr 1 rfl) at_) ?_)⟩
 rintro _ w3 ⟨rfl,h3⟩
 have h3:Sep E (blk q [.pointer (some ⟨p,0,none⟩),.pointer (some ⟨b,0,none⟩),.pointer (some ⟨u,0,none⟩)]::abb p (afa s.pool at_).1::BSt b s.pool.length (By.cl s.pool.length s.by_ at_).1::cntA u s.used::L) w3:=h3.put (q:=1) rfl
 refine ⟨_,rfl,ld h3 0 rfl rfl rfl (use (awl hI.cons.cons.cons (by omega) 1 (h3.fr 3 rfl)) ?_)⟩
 rintro _ w4 ⟨rfl,h4⟩
 have h4:Sep E (blk q [.pointer (some ⟨p,0,none⟩),.pointer (some ⟨b,0,none⟩),.pointer (some ⟨u,0,none⟩)]::abb p (afa s.pool at_).1::BSt b s.pool.length (By.cl s.pool.length s.by_ at_).1::cntA u (aaC s.used l 1).1::L) w4:=h4.ro 4 [1,2,3,0] rfl
 refine ⟨_,rfl,rfl,?_⟩
 have e:(s.give at_ l).pool.length=s.pool.length:=aal _ _
 rw [e]
 exact h4.tail
end Go.Mp
end
section
set_option maxRecDepth 100000
namespace Go.Sp
open Go
variable {E:Env} {L Q:List Asn} {X:Asn} {w:World}
theorem Sep.inn (h:Sep E (X::(Q++L)) w):Sep E (Q++X::L) w:=h.perm List.perm_middle.symm
theorem Sep.outt (h:Sep E (Q++X::L) w):Sep E (X::(Q++L)) w:=h.perm List.perm_middle
theorem Sep.cut (h:Sep E (Q++X::L) w):Sep E (Q++L) w:=h.outt.tail
theorem Sep.right (h:Sep E (Q++L) w):Sep E L w:=(h.perm List.perm_append_comm).left
end Go.Sp
namespace Go.Mp
open Go Go.Vc Go.Sp Go.Proofs Go.Kc
variable {E:Env} {L:List Asn} {w:World} {A:At} {S:Cs}
theorem _root_.Go.Sp.Ints.er {s:Sl} {gs:List Int} {q:Nat} (hI:Ints E L s gs) (hq:q<16):Ints E ((aaa A S++L).eraseIdx q) s gs:=
 hI.of (fun _ h=>by
  rw [List.eraseIdx_append_of_lt_length (show q<(aaa A S).length from hq)] at h
  exact h.right)
theorem _root_.Go.Sp.Ints.pre {s:Sl} {gs:List Int} (hI:Ints E L s gs):Ints E (aaa A S++L) s gs:=hI.of (fun _ h=>h.right)
theorem aDn (id:Int) (p:Pg) (h:Sep E (aaa A S++L) w):Calls P afj #[.pointer (some ⟨A.c,0,none⟩),.int .i64 id,.agg p.vs.toArray] w (Ret fun v w'=>v= .tuple #[]/\Sep E (aaa A (S.clean id p)++L) w'):=by
 apply arN
 refine Al.i h (fun b w1 h1=> ?_)
 have h1:Sep E (aaa A S++blk b p.vs::L) w1:=Sep.inn h1
 have hno:(0<=p.kf/\p.dirty=true)=False ->∀ w',Sep E (aaa A S++blk b p.vs::L) w' ->Sep E (aaa A (S.clean id p)++L) w':=by
  intro hf w' h'
  have:S.clean id p=S:=by unfold Cs.clean;rw [if_neg (by rw [hf];exact not_false)]
  rw [this];exact h'.cut
 refine ⟨fun x w'=>(x=true↔(0<=p.kf/\p.dirty=true))/\Sep E (aaa A S++blk b p.vs::L) w',ld h1 16 rfl rfl rfl (bGe (fun hge=>ld h1 16 rfl rfl rfl ⟨⟨fun hd=>⟨hge,hd⟩,fun hd=>hd.2⟩,h1⟩) (fun hlt=>⟨⟨fun hd=>(by cases hd),fun hd=>(by omega)⟩,h1⟩)),?_⟩
 rintro _ x w2 ⟨hx,h2⟩
 refine bifI (fun hxt=> ?_) (fun hxf=>⟨rfl,hno (by rw [<- hx,hxf];simp) _ h2⟩)
 have hy:=hx.1 hxt
 refine Dr.i h2 (fun w3 h3=>⟨_,rfl,ld h3 0 rfl rfl rfl ?_⟩)
 iterate 11 refine ld h3 16 rfl rfl rfl ?_
 refine use (awr p h3) ?_
 rintro _ w4 ⟨rfl,h4⟩
 refine ⟨_,rfl,ld h4 16 rfl rfl rfl (ld h4 16 rfl rfl rfl ⟨rfl,ld h4 0 rfl rfl rfl ⟨rfl,use (aAW (p.kf,p.ki) (S.text p) (h4.fr 8 rfl)) ?_⟩⟩)⟩
 rintro _ w5 ⟨rfl,h5⟩
 have h5:=h5.put (q:=8) rfl
 have h5:Sep E (aaa A {S with files:=(aht S.files (p.kf,p.ki) (S.text p)).1} ++blk b p.vs::L) w5:=h5
 refine ⟨_,rfl,_,rfl,ld h5 0 rfl rfl rfl (use (Tp.aE1 id false (h5.fr 11 rfl)) ?_)⟩
 rintro _ w6 ⟨rfl,h6⟩
 have h6:=h6.put (q:=11) rfl
 have h6:Sep E (aaa A {S with files:=(aht S.files (p.kf,p.ki) (S.text p)).1,pages:=(S.pages.mark id false).1} ++blk b p.vs::L) w6:=h6
 refine ⟨_,rfl,rfl,?_⟩
 have:S.clean id p= {S with files:=(aht S.files (p.kf,p.ki) (S.text p)).1,pages:=(S.pages.mark id false).1} :=by unfold Cs.clean;rw [if_pos hy]
 rw [this];exact h6.cut
theorem tabA.open {H:Array Obj} (h:Sep E (tabA H::L) w):(∃ o,w.heap[2]? =some o/\akF o)/\Sep E (old H::L) w:=by
 obtain ⟨⟨o,ho,ht⟩,h⟩:=Sep.pur.1 h
 exact ⟨⟨o,by rw [h.oldBlock 2 (Array.getElem?_eq_some_iff.1 ho).1];exact ho,ht⟩,h⟩
theorem aDk {p:Nat} {T:List Bool} {H:Array Obj} {M:List Asn} {q:Nat} (hq:M[q]? =some (tabA H)) (h:Sep E (abb p T::M) w):Calls P acG #[.pointer (some ⟨p,0,none⟩)] w
  (Ret fun v w'=>v= .tuple #[.int .i64 (abq T).2.1,.int .i64 (abq T).2.2]/\Sep E (abb p (abq T).1::M) w'):=by
 obtain ⟨⟨o,ho,ht⟩,_⟩:=tabA.open (h.fr (q+1) (by simpa using hq))
 exact aEa ht h ho
theorem aH5 (id:Int) (p:Pg) {ch:Sl} {l:List Int} (hI:Ints E L ch l) (hb:l.length<=64) (h:Sep E (aaa A S++L) w):Calls P aid #[.pointer (some ⟨A.c,0,none⟩),.int .i64 id,.agg p.vs.toArray,.slice ch.p ch.n ch.c] w
  (Ret fun v w'=>v= .bool (S.away id p l).2/\Sep E (aaa A (S.away id p l).1++L) w'):=by
 apply atI
 refine Al.i h (fun b w1 h1=> ?_)
 have h1:Sep E (aaa A S++blk b p.vs::L) w1:=Sep.inn h1
 have hn:=hI.1
 refine ⟨fun i w'=>(∃ k:Nat,i=k/\k<=l.length/\(l.take k).any (fun g=>decide (aab S.sl.used g<=cUse S.sl.used g))=false)/\Sep E (aaa A S++blk b p.vs::L) w',fun i _=>(l.length - i).toNat,⟨⟨0,rfl,Nat.zero_le _,rfl⟩,h1⟩,?_⟩
 rintro _ i w2 ⟨⟨k,rfl,hk,hno⟩,h2⟩
 refine bLt (fun hlt=> ?_) (fun hge=> ?_)
 ·have hkl:k<l.length:=by omega
  obtain ⟨g,hg⟩:∃ g,l[k]? =some g:=⟨_,List.getElem?_eq_getElem hkl⟩
  refine hI.cons.pre.el h2 k rfl hg ?_
  refine Dr.i h2 (fun w3 h3=>⟨_,rfl,ld h3 0 rfl rfl rfl ?_⟩)
  refine use (agU g h3) ?_
  rintro _ w4 ⟨rfl,h4⟩
  refine ⟨_,rfl,ld h4 0 rfl rfl rfl ⟨rfl,use (aHn h4 (q:=7) rfl g) ?_⟩⟩
  rintro _ w5 ⟨rfl,h5⟩
  refine ⟨_,rfl,bGe (fun hh=> ?_) (fun hh=> ?_)⟩
  ·have:S.away id p l=(S,false):=by
    unfold Cs.away
    rw [if_pos (List.any_eq_true.2 ⟨g,List.mem_of_getElem? hg,decide_eq_true hh⟩)]
   rw [this]
   exact ⟨rfl,h5.cut⟩
  ·rw [aah (by omega)]
   refine ⟨⟨⟨k+1,rfl,hkl,?_⟩,h5⟩,by show (((l.length:Nat):Int) - ((k+1:Nat):Int)).toNat<(((l.length:Nat):Int) - (k:Int)).toNat;omega⟩
   have hh':¬ aab S.sl.used g<=cUse S.sl.used g:=by have h9:S.swap g=cUse S.sl.used g:=rfl;omega
   rw [aaj hg,List.any_append,hno]
   simp [hh']
 ·have:k=l.length:=by omega
  subst this
  rw [List.take_length] at hno
  refine ⟨_,rfl,ld h2 0 rfl rfl rfl (use (aDk (q:=14) rfl (h2.fr 5 rfl)) ?_)⟩
  rintro _ w3 ⟨rfl,h3⟩
  have h3:=h3.put (q:=5) rfl
  refine ⟨_,_,rfl,bNe (fun hf=> ?_) (fun he=> ?_)⟩
  ·have e:S.away id p l=(S,false):=by
    unfold Cs.away
    rw [if_neg (by rw [hno];decide)]
    simp only
    rw [if_pos hf]
   have e2:=(apz hf).2
   rw [e2] at h3
   rw [e]
   have h3:Sep E (aaa A S++blk b p.vs::L) w3:=h3
   exact ⟨rfl,h3.cut⟩
  ·have e:S.away id p l=({S with sl:=⟨(abq S.sl.pool).1,(By.wr (abq S.sl.pool).1.length S.sl.by_ (abq S.sl.pool).2.1 (S.text p)).1,(cTry S.sl.used l 1).1⟩,pages:=(S.pages.put id 2 (abq S.sl.pool).2.1).1},true):=by
    unfold Cs.away
    rw [if_neg (by rw [hno];decide)]
    simp only
    rw [if_neg (by omega)]
   have hpl:=amE S.sl.pool
   have h3:Sep E (aaa A {S with sl:=⟨(abq S.sl.pool).1,S.sl.by_,S.sl.used⟩} ++blk b p.vs::L) w3:=by
    unfold aaa
    simp only
    rw [hpl]
    exact h3
   rw [e]
   refine ⟨_,rfl,ld h3 0 rfl rfl rfl (use (aG6 (hI.cons.er (by decide)) (by omega) 1 (h3.fr 7 rfl)) ?_)⟩
   rintro _ w4 ⟨rfl,h4⟩
   have h4:=h4.put (q:=7) rfl
   have h4:Sep E (aaa A {S with sl:=⟨(abq S.sl.pool).1,S.sl.by_,(cTry S.sl.used l 1).1⟩} ++blk b p.vs::L) w4:=h4
   refine ⟨_,_,rfl,Dr.i h4 (fun w5 h5=>⟨_,rfl,ld h5 0 rfl rfl rfl ?_⟩)⟩
   iterate 9 refine ld h5 16 rfl rfl rfl ?_
   have ht:({S with sl:=⟨(abq S.sl.pool).1,S.sl.by_,(cTry S.sl.used l 1).1⟩} :Cs).text p=S.text p:=by
    unfold Cs.text;simp only;rw [hpl]
   refine use (awr p h5) ?_
   rintro _ w6 ⟨rfl,h6⟩
   rw [ht]
   refine ⟨_,rfl,ld h6 0 rfl rfl rfl ⟨rfl,use (apL (abq S.sl.pool).2.1 _ (h6.fr 6 rfl)) ?_⟩⟩
   rintro _ w7 ⟨rfl,h7⟩
   have h7:=h7.put (q:=6) rfl
   have h7:Sep E (aaa A {S with sl:=⟨(abq S.sl.pool).1,(By.wr (abq S.sl.pool).1.length S.sl.by_ (abq S.sl.pool).2.1 (S.text p)).1,(cTry S.sl.used l 1).1⟩} ++blk b p.vs::L) w7:=h7
   refine ⟨_,rfl,_,rfl,ld h7 0 rfl rfl rfl (use (Tp.am1 id 2 _ (h7.fr 11 rfl)) ?_)⟩
   rintro _ w8 ⟨rfl,h8⟩
   have h8:=h8.put (q:=11) rfl
   refine ⟨_,rfl,rfl,?_⟩
   exact Sep.cut (Q:=aaa A {S with sl:=⟨(abq S.sl.pool).1,(By.wr (abq S.sl.pool).1.length S.sl.by_ (abq S.sl.pool).2.1 (S.text p)).1,(cTry S.sl.used l 1).1⟩,pages:=(S.pages.put id 2 (abq S.sl.pool).2.1).1}) h8
theorem aDq {ch:Sl} {l:List Int} (at_:Int) (hI:Ints E L ch l) (hb:l.length<=64) (h:Sep E (aaa A S++L) w):
  Calls P ab5 #[.agg #[.pointer (some ⟨A.fp,0,none⟩),.pointer (some ⟨A.fb,0,none⟩),.pointer (some ⟨A.fu,0,none⟩)],.int .i64 at_,.slice ch.p ch.n ch.c] w
  (Ret fun v w'=>v= .tuple #[]/\Sep E (aaa A {S with fr:=S.fr.give at_ l} ++L) w'):=by
 have h1:=h.ro 16 [2,3,4,0,1,5,6,7,8,9,10,11,12,13,14,15] rfl
 refine use (aE8 (s:=S.fr) at_ hI.cons.cons.cons.cons.cons.cons.cons.cons.cons.cons.cons.cons.cons hb h1) ?_
 rintro _ w1 ⟨rfl,h2⟩
 exact ⟨_,rfl,rfl,h2.ro 16 [3,4,0,1,2,5,6,7,8,9,10,11,12,13,14,15] rfl⟩
theorem aDr {ch:Sl} {l:List Int} (at_:Int) (hI:Ints E L ch l) (hb:l.length<=64) (h:Sep E (aaa A S++L) w):
  Calls P ab5 #[.agg #[.pointer (some ⟨A.sp,0,none⟩),.pointer (some ⟨A.sb,0,none⟩),.pointer (some ⟨A.su,0,none⟩)],.int .i64 at_,.slice ch.p ch.n ch.c] w
  (Ret fun v w'=>v= .tuple #[]/\Sep E (aaa A {S with sl:=S.sl.give at_ l} ++L) w'):=by
 have h1:=h.ro 16 [5,6,7,0,1,2,3,4,8,9,10,11,12,13,14,15] rfl
 refine use (aE8 (s:=S.sl) at_ hI.cons.cons.cons.cons.cons.cons.cons.cons.cons.cons.cons.cons.cons hb h1) ?_
 rintro _ w1 ⟨rfl,h2⟩
 exact ⟨_,rfl,rfl,h2.ro 16 [3,4,5,6,7,0,1,2,8,9,10,11,12,13,14,15] rfl⟩
theorem aFP {g c:Int} (hg:isG g=true):0<=aoE g c/\aoE g c<18446744073709551616:=by
 have hg':0<=g/\g<64:=by simpa [isG] using hg
 unfold aoE
 have h1:top=1099511627776:=rfl
 have h2:=Int.emod_nonneg c (b:=top) (by omega)
 have h3:=Int.emod_lt_of_pos c (b:=top) (by omega)
 omega
theorem aHT (l:List Int) (g:Int):0<=(went l g).2/\(went l g).2<18446744073709551616:=by
 unfold went
 split
 ·exact ⟨by simp,by simp⟩
 ·next h=>
  simp only
  split
  ·exact ⟨by omega,by omega⟩
  ·exact aFP (by simpa using h)
theorem aFU:mQ P 116=some (adJ,.int .u64 0):=by kernel_rfl
theorem ajo.put_ {m:Nat} {f:Int ->Option Int} (h:Sep E (ajo m f::L) w) {id x:Int} (hx:0<=x/\x<18446744073709551616) {G:World ->Prop} (g:∀ w1,Sep E (ajo m (upd f id (some x))::L) w1 ->G w1):
  ∃ w1,Sem.run P (Instr.mapUpdate 116 (.map (some m)) (.int .i64 id) (.int .u64 x)) w= .ok () w1/\G w1:=by
 obtain ⟨hk,h1⟩:=Sep.pur.1 h
 refine mapUpdate.i h1 Tp.ahR aFU id _ (fun w1 h2=>g w1 (Sep.pur.2 ⟨fun k y hy=> ?_,?_⟩))
 ·unfold upd at hy
  split at hy
  ·cases hy;exact hx
  ·exact hk k y hy
 ·have e:upd (fun k=>(f k).map (Value.int .u64)) id (some (.int .u64 x))=fun k=>(upd f id (some x) k).map (Value.int .u64):=by
   funext k;unfold upd;split<;>rfl
  rw [e] at h2;exact h2
theorem aIz (id:Int) (hw:Kt.WF S.tree) (G:Kc.Good S.gens) (h:Sep E (aaa A S++L) w):Calls P aiE #[.pointer (some ⟨A.c,0,none⟩),.int .i64 id] w
  (Ret fun v w'=>v= .bool (S.out id).2/\Sep E (aaa A (S.out id).1++L) w'):=by
 apply avv
 refine ⟨_,rfl,ld h 0 rfl rfl rfl (use (Tp.ahW id (h.fr 11 rfl)) ?_)⟩
 rintro _ w1 ⟨rfl,h1⟩
 have h1:Sep E (aaa A S++L) w1:=h1.put (q:=11) rfl
 obtain ⟨p,hp⟩:∃ p,(S.pages.get id).1=p:=⟨_,rfl⟩
 rw [hp]
 refine ⟨_,_,_,_,_,_,_,_,_,_,rfl,Al.i h1 (fun b w2 h2=>zst (vs:=p.vs) _ h2 rfl (fun w3 h3=> ?_))⟩
 have h3:Sep E (aaa A S++blk b p.vs::L) w3:=Sep.inn h3
 refine Dr.i h3 (fun w4 h4=>⟨_,rfl,ld h4 0 rfl rfl rfl (ld h4 16 rfl rfl rfl (use (akg hw (h4.fr 1 rfl)) ?_))⟩)
 rintro _ w5 ⟨ch,rfl,hch,h5⟩
 have h5:=h5.put1 (q:=1) rfl
 have h5:Sep E (aaa A S++rowA ch 1 (intL (S.chain p.owner))::blk b p.vs::L) w5:=Sep.inn (Q:=aaa A S) h5
 have hI:Ints E (rowA ch 1 (intL (S.chain p.owner))::blk b p.vs::L) ch (S.chain p.owner):=Ints.row hch
 have hcl:(S.chain p.owner).length<=64:=agt hw _
 let O:Cs×Bool:=if 0<=p.kf then ({S.clean id p with pages:=((S.clean id p).pages.put id 0 0).1},true) else S.away id p (S.chain p.owner)
 have hO:S.out id=if O.2=true then (O.1.leave id p (S.chain p.owner),true) else (S,false):=by
  unfold Cs.out
  rw [hp]
  simp only [O]
  split
  ·rfl
  ·rfl
 have hOg:O.1.gens=S.gens:=by
  simp only [O]
  split
  ·unfold Cs.clean;split<;>rfl
  ·unfold Cs.away;split
   ·rfl
   ·simp only;split<;>rfl
 refine ⟨_,rfl,fun w'=>O.2=true/\Sep E (aaa A O.1++rowA ch 1 (intL (S.chain p.owner))::blk b p.vs::L) w',ld h5 17 rfl rfl rfl (bGe (fun hge=> ?_) (fun hlt=> ?_)),?_⟩
 ·iterate 9 refine ld h5 17 rfl rfl rfl ?_
  refine use (aDn id p h5) ?_
  rintro _ w6 ⟨rfl,h6⟩
  refine ⟨rfl,_,rfl,ld h6 0 rfl rfl rfl (use (Tp.am1 id 0 0 (h6.fr 11 rfl)) ?_)⟩
  rintro _ w7 ⟨rfl,h7⟩
  have h7:=h7.put (q:=11) rfl
  have e:O=({S.clean id p with pages:=((S.clean id p).pages.put id 0 0).1},true):=if_pos hge
  rw [e]
  exact ⟨_,rfl,rfl,h7⟩
 ·iterate 9 refine ld h5 17 rfl rfl rfl ?_
  refine use (aH5 id p hI hcl h5) ?_
  rintro _ w6 ⟨rfl,h6⟩
  have e:O=S.away id p (S.chain p.owner):=if_neg (by omega)
  refine ⟨_,rfl,bifI (fun hf=> ?_) (fun ht=>⟨by rw [e];simpa using ht,by rw [e];exact h6⟩)⟩
  have hf:(S.away id p (S.chain p.owner)).2=false:=by simpa using hf
  rw [hO,e,if_neg (by rw [hf];decide)]
  have e2:(S.away id p (S.chain p.owner)).1=S:=by
   unfold Cs.away at hf ⊢
   split
   ·rfl
   ·next h9=>
    rw [if_neg h9] at hf
    simp only at hf ⊢
    split
    ·rfl
    ·next h10=>rw [if_neg h10] at hf;cases hf
  rw [e2] at h6
  exact ⟨rfl,h6.cut.cut⟩
 rintro _ w6 ⟨hOt,h6⟩
 rw [hO,if_pos hOt]
 obtain ⟨T,hT⟩:∃ T,O.1=T:=⟨_,rfl⟩
 rw [hT] at h6 ⊢
 rw [hT] at hOg
 refine Dr.i h6 (fun w7 h7=>⟨_,rfl,ld h7 0 rfl rfl rfl (ld h7 0 rfl rfl rfl (ld h7 0 rfl rfl rfl (ld h7 17 rfl rfl rfl ?_)))⟩)
 refine use (aDq p.at_ hI hcl h7) ?_
 rintro _ w8 ⟨rfl,h8⟩
 refine ⟨rfl,_,rfl,ld h8 0 rfl rfl rfl (use (Gp.ark (by show Kc.Good T.gens;rw [hOg];exact G) id (h8.fr 9 rfl)) ?_)⟩
 rintro _ w9 ⟨rfl,h9⟩
 have h9:=h9.put (q:=9) rfl
 have h9:Sep E (aaa A {T with fr:=T.fr.give p.at_ (S.chain p.owner),gens:=(adX T.gens id).1} ++rowA ch 1 (intL (S.chain p.owner))::blk b p.vs::L) w9:=h9
 refine ⟨_,rfl,Dr.i h9 (fun w10 h10=>⟨_,rfl,ld h10 0 rfl rfl rfl ⟨_,rfl,ld h10 0 rfl rfl rfl (ld h10 17 rfl rfl rfl (use (aH4 (h10.fr 10 rfl) p.owner) ?_))⟩⟩)⟩
 rintro _ w11 ⟨rfl,h11⟩
 have h11:=h11.put (q:=10) rfl
 have h11:Sep E (aaa A {T with fr:=T.fr.give p.at_ (S.chain p.owner),gens:=(adX T.gens id).1,log:=(went T.log p.owner).1} ++rowA ch 1 (intL (S.chain p.owner))::blk b p.vs::L) w11:=h11
 refine ⟨_,rfl,ld h11 0 rfl rfl rfl ⟨rfl,ajo.put_ (h11.fr 12 rfl) (aHT _ _) (fun w12 h12=> ?_)⟩⟩
 have h12:=h12.put (q:=12) rfl
 exact ⟨rfl,Sep.cut (Sep.cut (Q:=aaa A (T.leave id p (S.chain p.owner))) h12)⟩
theorem aE9 (id:Int) (h:Sep E (aaa A S++L) w):Calls P afE #[.pointer (some ⟨A.c,0,none⟩),.int .i64 id] w
  (Ret fun v w'=>v= .tuple #[.int .i64 (S.here id).1,.bool (S.here id).2]/\Sep E (aaa A S++L) w'):=by
 apply atK
 refine ⟨_,rfl,ld h 0 rfl rfl rfl (use (Tp.ahW id (h.fr 11 rfl)) ?_)⟩
 rintro _ w1 ⟨rfl,h1⟩
 have h1:Sep E (aaa A S++L) w1:=h1.put (q:=11) rfl
 obtain ⟨p,hp⟩:∃ p,(S.pages.get id)=p:=⟨_,rfl⟩
 have hh:S.here id=(p.1.at_,p.2==0&&p.1.place==1):=by unfold Cs.here;rw [hp]
 rw [hp,hh]
 refine ⟨_,_,_,_,_,_,_,_,_,_,rfl,Al.i h1 (fun b w2 h2=>zst (vs:=p.1.vs) _ h2 rfl (fun w3 h3=> ?_))⟩
 have h3:Sep E (aaa A S++blk b p.1.vs::L) w3:=Sep.inn h3
 refine Dr.i h3 (fun w4 h4=>ld h4 16 rfl rfl rfl (bEq (fun e=>ld h4 16 rfl rfl rfl ⟨?_,h4.cut⟩) (fun hne=>⟨?_,h4.cut⟩)))
 ·rw [e];simp
 ·rw [show (p.2==0)=false by simpa using hne];simp
theorem aDt (id at_ g:Int) (t:List UInt8) (old:Bool) (G:Kc.Good S.gens) (h:Sep E (aaa A S++L) w):Calls P afl #[.pointer (some ⟨A.c,0,none⟩),.int .i64 id,.int .i64 at_,.int .i64 g,strV t,.bool old] w
  (Ret fun v w'=>v= .tuple #[]/\Sep E (aaa A (S.place id at_ g t old)++L) w'):=by
 apply arP
 refine ⟨_,rfl,ld h 0 rfl rfl rfl (use (apL at_ _ (h.fr 3 rfl)) ?_)⟩
 rintro _ w1 ⟨rfl,h1⟩
 have h1:=h1.put (q:=3) rfl
 have h1:Sep E (aaa A {S with fr:= {S.fr with by_:=(By.wr S.fr.pool.length S.fr.by_ at_ t).1}} ++L) w1:=h1
 refine ⟨_,rfl,_,rfl,ld h1 0 rfl rfl rfl (use (Tp.aG5 id g (h1.fr 11 rfl)) ?_)⟩
 rintro _ w2 ⟨rfl,h2⟩
 have h2:=h2.put (q:=11) rfl
 have h2:Sep E (aaa A {S with fr:= {S.fr with by_:=(By.wr S.fr.pool.length S.fr.by_ at_ t).1},pages:=(S.pages.own id g).1} ++L) w2:=h2
 refine ⟨_,rfl,_,rfl,ld h2 0 rfl rfl rfl (use (Tp.am1 id 1 at_ (h2.fr 11 rfl)) ?_)⟩
 rintro _ w3 ⟨rfl,h3⟩
 have h3:=h3.put (q:=11) rfl
 have h3:Sep E (aaa A {S with fr:= {S.fr with by_:=(By.wr S.fr.pool.length S.fr.by_ at_ t).1},pages:=((S.pages.own id g).1.put id 1 at_).1} ++L) w3:=h3
 refine ⟨_,rfl,_,rfl,ld h3 0 rfl rfl rfl (use (Gp.aD2 G id g old (h3.fr 9 rfl)) ?_)⟩
 rintro _ w4 ⟨rfl,h4⟩
 have h4:=h4.put (q:=9) rfl
 exact ⟨_,rfl,rfl,h4⟩
end Go.Mp
end
section
set_option maxRecDepth 100000
namespace Go.Mp
open Go Go.Vc Go.Sp Go.Proofs Go.Kc
variable {E:Env} {L:List Asn} {w:World} {A:At} {S:Cs}
def aak (l:List Bool):List Value:=l.map Value.bool
@[simp] theorem aHZ (l:List Bool):(aak l).length=l.length:=by simp [aak]
@[simp] theorem ayE (l:List Bool) (i:Nat):(aak l)[i]? =l[i]?.map Value.bool:=by simp [aak]
theorem aIr (n:Nat):((List.range (((n:Nat):Int).toNat*1)).map fun i=>(([Value.bool false]:List Value).toArray)[i % ([Value.bool false]:List Value).length]!)=aak (List.replicate n false):=by
 rw [Int.toNat_natCast,Nat.mul_one]
 apply List.ext_getElem?
 intro i
 rw [List.getElem?_map,ayE,List.getElem?_replicate]
 by_cases hi:i<n
 ·rw [List.getElem?_range hi,if_pos hi]
  simp [Nat.mod_one]
 ·rw [List.getElem?_eq_none (by simpa using hi),if_neg hi];rfl
theorem ayY {n:Nat} (hb:n<1000000) (h:Sep E L w) {G:Sl ->World ->Prop} (k:∀ s w1,s.n=n ->Sep E (rowA s 1 (aak (List.replicate n false))::L) w1 ->G s w1):
  ∃ x:Sl,∃ w1,Sem.run P (Instr.makeSlice axA (.int .i64 ((n:Nat):Int)) (.int .i64 ((n:Nat):Int))) w= .ok (.slice x.p x.n x.c) w1/\G x w1:=by
 refine makeSlice.i h (by kernel_rfl:slQ P axA=some (1,1,[.bool false])) (by omega) (Int.le_refl _) (by omega) (by omega) (fun b w1 h1=>k _ w1 (by simp) ?_)
 rw [aIr] at h1
 exact rowA.make (spare:= []) (by simpa using h1) (by simp) (by simp) (Nat.le_refl _)
theorem aHa {s:Sl} {l:List Bool} {i:Int} {x:Bool} {F:World ->Prop} (h:Sep E (rowA s 1 (aak l)::L) w) (hn:s.n=l.length) (h0:0<=i) (h1:i<l.length) (k:∀ w1,Sep E (rowA s 1 (aak (l.set i.toNat x))::L) w1 ->F w1):elAt s.p s.n i 1 fun a=>St a (.bool x) F w:=by
 refine rowA.el 0 h rfl h0 (by omega) (fun b hb _=> ?_)
 rw [Nat.mul_one]
 refine rowA.st h hb (by simp;omega) (fun w1 h1=>k w1 ?_)
 have:aak (l.set i.toNat x)=(aak l).set i.toNat (.bool x):=by simp [aak,List.map_set]
 rw [this];exact h1
theorem elB {s:Sl} {l:List Bool} {i:Int} {F:Bool ->Prop} (q:Nat) (h:Sep E L w) (hq:L[q]? =some (rowA s 1 (aak l))) (hn:s.n=l.length) (h0:0<=i) (h1:i<l.length) (k:F (bAt l i)):elAt s.p s.n i 1 fun a=>∃ x:Bool,w.cell? a=some (.bool x)/\F x:=by
 refine rowA.el q h hq h0 (by omega) (fun b _ hc=>⟨_,?_,k⟩)
 have:=hc 0 (by omega)
 rw [Nat.add_zero] at this
 rw [this,ayE,Nat.mul_one,List.getElem?_eq_getElem (show i.toNat<l.length by omega)]
 unfold bAt
 rw [List.getD_eq_getElem?_getD,List.getElem?_eq_getElem (show i.toNat<l.length by omega)];rfl
theorem aFV:slQ P 196=some (24,3,[.int .i64 0,.int .i64 0,.int .i64 0]):=by kernel_rfl
theorem aFC {s:Sl} {q:Nat} {l:List Nod} {x:Nod} (hn:s.n=l.length) (hb:l.length<1000000) (h:Sep E (blk q x.vs::aay s l::L) w) {G:Sl ->World ->Prop}
  (g:∀ s' w1,s'.n=l.length+1 ->Sep E (aay s' (l++ [x])::L) w1 ->G s' w1):
  ∃ x1:Sl,∃ w1,Sem.run P (Builtin.append_ #[196,196] 196 #[.slice s.p s.n s.c,.slice (some ⟨q,0,none⟩) 1 1]) w= .ok (.slice x1.p x1.n x1.c) w1/\G x1 w1:=by
 have hs:=Src.blk (n:=1) (c:=1) h (i:=0) rfl aFV rfl (fun u hu=>by simp [Nod.vs] at hu;rcases hu with rfl | rfl | rfl<;>rfl)
 refine rowA.append h.swap aFV rfl hs (by omega) (by rw [hn];omega) (fun s' w1 hs' h1=> ?_)
 refine g s' w1 (by rw [hs',hn]) ?_
 unfold aay
 rw [akB,apB]
 exact (h1.fr 0 rfl).ro 2 [0] rfl
def Cs.nod (S:Cs) (own:aaz ->Int) (g:Nat):Nod:=if S.live g then ⟨((S.tree[g]?).map Kt.G.up).getD (-1),S.memory g,own (S.gAt g)⟩ else ⟨((S.tree[g]?).map Kt.G.up).getD (-1),0,0⟩
theorem ay0 (own:aaz ->Int) {k:Nat} (hk:k<S.guards.length):(S.nodes own)[k]? =some (Cs.nod S own k):=by
 unfold Cs.nodes Cs.nod
 rw [List.getElem?_map,List.getElem?_range hk];rfl
theorem amy (own:aaz ->Int):(S.nodes own).length=S.guards.length:=by simp [Cs.nodes]
theorem aiq (t:Int) (own:aaz ->Int):(S.held t own).length=S.guards.length:=by simp [Cs.held,amy]
theorem aGy (t:Int) (own:aaz ->Int) {k:Nat} (hk:k<S.guards.length):(S.held t own)[k]? =some (ajn (S.nodes own) (adu (S.nodes own) t) t k):=by
 unfold Cs.held
 simp only
 rw [List.getElem?_map,List.getElem?_range (by rw [amy];exact hk)];rfl
theorem acv.open {s:Sl} {l:List aaz} (h:Sep E (acv s l::L) w):s.n=l.length/\Sep E (rowA s 3 (recs aaz.vs l)::L) w:=Sep.pur.1 h
theorem upA.open {s:Sl} {l:List Kt.G} (h:Sep E (upA s l::L) w):s.n=l.length/\Sep E (rowA s 1 (intL (l.map Kt.G.up))::L) w:=Sep.pur.1 h
def aDV (E:Env) (own:Value) (ownB:aaz ->Int):Prop:=∀ (L:List Asn) (x:aaz) (w:World),Sep E L w ->abo P own #[.agg #[.int .i64 x.min,.int .i64 x.low,.bool x.whole]] w fun e w'=>e= .returned (.int .i64 (ownB x))/\Sep E L w'
theorem aBX:aDV E (.func (.func afT) #[] #[]) aaz.min:=by
 intro L x w h
 refine ⟨afT,_,rfl,by kernel_rfl,?_⟩
 refine use (K:=fun v w'=>v= .int .i64 x.min/\Sep E L w') (aBP _ _ _ (Al.i h (fun b w1 h1=>⟨_,h1.cell 0,rfl,h1.tail⟩))) (fun v w' ⟨hv,hs⟩=>⟨by rw [hv],hs⟩)
theorem aBW:aDV E (.func (.func afS) #[] #[]) aaz.low:=by
 intro L x w h
 refine ⟨afS,_,rfl,by kernel_rfl,?_⟩
 refine use (K:=fun v w'=>v= .int .i64 x.low/\Sep E L w') (aBO _ _ _ (Al.i h (fun b w1 h1=>⟨_,h1.cell 1,rfl,h1.tail⟩))) (fun v w' ⟨hv,hs⟩=>⟨by rw [hv],hs⟩)
theorem awp {t:Int} {own:Value} {ownB:aaz ->Int} (hown:aDV E own ownB) (hgl:S.guards.length=S.tree.length) (hfew:S.guards.length<=64) (hu:∀ g,S.memory g<2147483648) (h:Sep E (aaa A S++L) w):
  Calls P acj #[.pointer (some ⟨A.c,0,none⟩),.int .i64 t,own] w (Ret fun v w'=>∃ e:Sl,v= .slice e.p e.n e.c/\e.n=(S.held t ownB).length/\Sep E (aaa A S++rowA e 1 (aak (S.held t ownB))::L) w'):=by
 apply atJ
 unfold alF
 have hgn:=(acv.open (h.fr 13 rfl)).1
 have hun:=(upA.open (h.fr 14 rfl)).1
 have hnl:=amy (S:=S) ownB
 refine ⟨_,rfl,A.gs,h.cellAt 0 rfl 12,?_⟩
 refine ⟨fun s i w'=>∃ k:Nat,i=k/\k<=S.guards.length/\s.n=k/\Sep E (aaa A S++aay s ((S.nodes ownB).take k)::L) w',fun _ i _=>(S.guards.length - i).toNat,⟨0,rfl,Nat.zero_le _,rfl,Sep.inn (rowA.none_ h)⟩,?_⟩
 rintro _ s _ w1 ⟨k,rfl,hk,hsn,h1⟩
 refine bLt (fun hlt=> ?_) (fun hge=> ?_)
 ·have hkl:k<S.guards.length:=by omega
  obtain ⟨x,hx⟩:∃ x,S.guards[k]? =some x:=⟨_,List.getElem?_eq_getElem hkl⟩
  obtain ⟨y,hy⟩:∃ y,S.tree[k]? =some y:=⟨_,List.getElem?_eq_getElem (by omega)⟩
  have hg:S.gAt (k:Int)=x:=by unfold Cs.gAt;rw [Int.toNat_natCast,List.getD_eq_getElem?_getD,hx];rfl
  obtain ⟨nd,hnd⟩:∃ nd,Cs.nod S ownB k=nd:=⟨_,rfl⟩
  refine elC aaz.vs3 0 (acv.open (h1.fr 13 rfl)).2 rfl hgn rfl hx (fun b _ hc=>⟨x.min,by rw [aad];exact hc 0 _ rfl,x.low,by rw [aad];exact hc 1 _ rfl,x.whole,by rw [aad];exact hc 2 _ rfl,?_⟩)
  refine Al.i h1 (fun p13 w2 h2=>zst (vs:=aaz.vs x) _ h2 rfl (fun w3 h3=> ?_))
  have h3:Sep E (aaa A S++blk p13 (aaz.vs x)::aay s ((S.nodes ownB).take k)::L) w3:=Sep.inn h3
  refine ⟨_,rfl,A.us,h3.cellAt 0 rfl 13,?_⟩
  refine (Ints.at_ (q:=0) rfl (by simpa using hun)).el (upA.open (h3.fr 14 rfl)).2 k rfl (by rw [List.getElem?_map,hy];rfl) ?_
  refine Al.i h3 (fun p20 w4 h4=>zst (vs:= [.int .i64 y.up,.int .i64 0,.int .i64 0]) _ h4 rfl (fun w5 h5=> ?_))
  have h5:Sep E (aaa A S++blk p20 [.int .i64 y.up,.int .i64 0,.int .i64 0]::blk p13 (aaz.vs x)::aay s ((S.nodes ownB).take k)::L) w5:=Sep.inn h5
  refine ⟨fun w'=>Sep E (aaa A S++blk p20 nd.vs::blk p13 (aaz.vs x)::aay s ((S.nodes ownB).take k)::L) w',⟨_,rfl,ld h5 0 rfl rfl rfl (use (adG h5 (q:=1) rfl) ?_)⟩,?_⟩
  ·rintro _ _ ⟨rfl,rfl⟩
   refine ⟨_,rfl,bifI (fun hl=> ?_) (fun hl=> ?_)⟩
   ·refine Dr.i h5 (fun w6 h6=>ld h6 17 rfl rfl rfl (ld h6 17 rfl rfl rfl (ld h6 17 rfl rfl rfl (use (abk _ h6) ?_))))
    rintro _ w7 ⟨rfl,h7⟩
    refine ⟨_,rfl,ld h7 17 rfl rfl rfl (ld h7 17 rfl rfl rfl (ld h7 17 rfl rfl rfl ⟨rfl,abo.use (hown _ x _ h7) ?_⟩))⟩
    rintro e w8 ⟨rfl,h8⟩
    have h8:Sep E (blk p20 [.int .i64 y.up,.int .i64 0,.int .i64 0]::(aaa A S++blk p13 (aaz.vs x)::aay s ((S.nodes ownB).take k)::L)) w8:=h8.outt
    refine ⟨_,rfl,St.i h8 (by simp) (fun w9 h9=>St.i h9 (by simp) (fun w10 h10=> ?_))⟩
    have e:nd=⟨y.up,S.memory k,ownB x⟩:=by
     rw [<- hnd];unfold Cs.nod
     rw [if_pos (show S.live k=true from hl),hy,hg];rfl
    rw [e]
    exact Sep.inn h10
   ·have e:nd=⟨y.up,0,0⟩:=by
     rw [<- hnd];unfold Cs.nod
     rw [if_neg (by rw [show S.live k=false from hl];decide),hy];rfl
    rw [e]
    exact h5
  ·intro _ w6 h6
   refine ld h6 16 rfl rfl rfl (ld h6 16 rfl rfl rfl (ld h6 16 rfl rfl rfl (Al.i h6 (fun p49 w7 h7=> ?_))))
   have h7:Sep E (blk p49 nd.vs::aay s ((S.nodes ownB).take k)::(aaa A S++blk p20 nd.vs::blk p13 (aaz.vs x)::L)) w7:=(h7.fr 19 rfl).swap
   refine aFC (by rw [List.length_take,hnl];omega) (by rw [List.length_take,hnl];omega) h7 (fun s' w8 hs' h8=> ?_)
   have hnk:=ay0 (S:=S) ownB hkl
   rw [hnd] at hnk
   rw [<- aaj hnk] at h8
   rw [aah (by omega)]
   refine ⟨⟨k+1,rfl,hkl,by rw [hs',List.length_take,hnl];omega,Sep.inn (Sep.cut (Q:=aay s' ((S.nodes ownB).take (k+1))::aaa A S) (Sep.cut (Q:=aay s' ((S.nodes ownB).take (k+1))::aaa A S) h8))⟩,?_⟩
   show (((S.guards.length:Nat):Int) - ((k+1:Nat):Int)).toNat<(((S.guards.length:Nat):Int) - (k:Int)).toNat
   omega
 ·have hke:k=(S.nodes ownB).length:=by omega
  rw [hke,List.take_length] at h1
  have h1:Sep E (aay s (S.nodes ownB)::(aaa A S++L)) w1:=h1.outt
  have hcap:=rowA.cap h1
  refine use (aCy (by omega) (by omega) hcap (fun x hx=> ?_) h1) ?_
  ·obtain ⟨i,hi⟩:=List.mem_iff_getElem?.1 hx
   have hil:i<S.guards.length:=by have:=(List.getElem?_eq_some_iff.1 hi).1;omega
   rw [ay0 ownB hil] at hi
   cases hi
   unfold Cs.nod
   split
   ·exact hu _
   ·show (0:Int)<2147483648;decide
  rintro _ w2 ⟨e,rfl,he,h2⟩
  refine ⟨e,rfl,?_⟩
  refine ayY (n:=s.n) (by omega) h2 (fun ou w3 hou h3=> ?_)
  have hn0:s.n=S.guards.length:=by omega
  rw [hn0] at h3 hou
  have hhl:=aiq (S:=S) t ownB
  refine ⟨fun x w'=>∃ k:Nat,x=k/\k<=S.guards.length/\Sep E (aay s (S.nodes ownB)::rowA e 1 (intL (adu (S.nodes ownB) t))::rowA ou 1 (aak ((S.held t ownB).take k++List.replicate (S.guards.length - k) false))::(aaa A S++L)) w',
   fun x _=>(S.guards.length - x).toNat,⟨0,rfl,Nat.zero_le _,h3.ro 3 [2,1,0] rfl⟩,?_⟩
  rintro _ _ w4 ⟨k,rfl,hk,h4⟩
  refine bLt (fun hlt=> ?_) (fun hge=> ?_)
  ·have hkl:k<S.guards.length:=by omega
   refine use (aH1 (by omega) he (by omega) h4) ?_
   rintro _ w5 ⟨rfl,h5⟩
   have hhk:=aGy (S:=S) t ownB hkl
   have hll:((S.held t ownB).take k++List.replicate (S.guards.length - k) false).length=S.guards.length:=by simp [hhl];omega
   refine ⟨_,rfl,aHa (h5.fr 2 rfl) (by rw [hll];exact hou) (by omega) (by rw [hll];omega) (fun w6 h6=> ?_)⟩
   have eset:((S.held t ownB).take k++List.replicate (S.guards.length - k) false).set ((k:Nat):Int).toNat (ajn (S.nodes ownB) (adu (S.nodes ownB) t) t k)=(S.held t ownB).take (k+1)++List.replicate (S.guards.length - (k+1)) false:=by
    rw [Int.toNat_natCast,aaj hhk,List.set_append_right k _ (by simp;omega),List.append_assoc]
    congr 1
    rw [List.length_take,hhl,Nat.min_eq_left hk,Nat.sub_self,show S.guards.length - k=(S.guards.length - (k+1))+1 by omega,List.replicate_succ]
    rfl
   rw [eset] at h6
   rw [aah (by omega)]
   refine ⟨⟨k+1,rfl,hkl,h6.ro 3 [1,2,0] rfl⟩,?_⟩
   show (((S.guards.length:Nat):Int) - ((k+1:Nat):Int)).toNat<(((S.guards.length:Nat):Int) - (k:Int)).toNat
   omega
  ·have:k=S.guards.length:=by omega
   subst this
   rw [Nat.sub_self,<- hhl,List.take_length,List.replicate_zero,List.append_nil] at h4
   exact ⟨ou,rfl,by rw [hhl];exact hou,Sep.inn h4.tail.tail⟩
end Go.Mp
end
