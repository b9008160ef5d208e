/- Part of a proof about the core: of its walks and plain laws. -/
import Derived.Test.YtkjijachkcmelaaGreatDoorC08
set_option linter.all false
section
set_option maxRecDepth 100000
namespace Go.Mp
open Go Go.Vc Go.Sp
variable {E:Env} {L:List Asn} {w:World}
theorem clear.i {b o n c:Nat} {C:List Value} {st ty:TypeId} {by_ m:Nat} {zs:List Value} (h:Sep E (blk b C::L) w) (hq:slQ P st=some (by_,m,zs)) (hz:zs.length=m) (hone:∀ v∈zs,v.oneCell'=true) (hC:o+n*m<=C.length) {G:World ->Prop}
  (k:∀ w1,Sep E (blk b (acf C o (Builtin.zeroCells zs.toArray n).toList)::L) w1 ->G w1):
  ∃ w1,Sem.run P (Builtin.clear_ #[st] ty #[.slice (some ⟨b,o,none⟩) n c]) w= .ok (.tuple #[]) w1/\G w1:=by
 obtain ⟨e,i,z,ht,hi,hzz,hb',hs1,hzs⟩:=aoF hq
 subst hb' hs1 hzs
 cases n with
 | zero=>
  refine ⟨w,by simp [Builtin.clear_,run_underlying ht],k _ ?_⟩
  simpa [Builtin.zeroCells,acf] using h
 | succ n=>
  have hl:(Builtin.zeroCells z.cells (n+1)).toList.length=(n+1)*i.size:=by rw [ah9,<- hz];simp
  have hst:=run_storeCells_cells (P:=P) b o (Builtin.zeroCells z.cells (n+1)).toList 0 w (fun j hj=>h.isSome (by omega)) (fun j hj=>h.warm (by omega)) (fun u hu=>by
   simp only [Builtin.zeroCells,Array.toList_map,List.mem_map] at hu
   obtain ⟨q,hq,rfl⟩:=hu
   have hlt:q % z.cells.size<z.cells.size:=by
    refine Nat.mod_lt _ ?_
    rcases Nat.eq_zero_or_pos z.cells.size with h0 | h0
    ·simp [h0] at hq
    ·exact h0
   have:z.cells[q % z.cells.size]! =z.cells[q % z.cells.size]:=by simp [hlt]
   rw [this]
   exact hone _ (by simp))
  refine ⟨w.setCells b o (Builtin.zeroCells z.cells (n+1)).toList,?_,k _ (by simpa using h.setCells _ _)⟩
  simp only [Nat.add_zero] at hst
  simp [Builtin.clear_,run_underlying ht,zeroValue,typeInfo,hi,hzz,hst]
def Asks (E:Env) (del:Value) (q:Int ->Bool) (M:List Asn) (D:Int ->Prop):Prop:=
 ∀ x w,D x ->Sep E M w ->abo P del #[.int .i64 x] w fun e w'=>e= .returned (.bool (q x))/\Sep E M w'
theorem auk {s:Sl} {l:List Int} {del:Value} {q:Int ->Bool} (hq:Asks E del q (rowA s 1 (intL l)::L) (· ∈l)) (hn:s.n=l.length) (hb:l.length<4611686018427387904) (h:Sep E (rowA s 1 (intL l)::L) w):
  Calls P acQ #[.slice s.p s.n s.c,del] w (Ret fun v w'=>∃ i:Int,v= .int .i64 i/\((i= -1/\∀ x∈l,q x=false)\/(0<=i/\i<l.length/\(∀ j x,j<i.toNat ->l[j]? =some x ->q x=false)/\∀ x,l[i.toNat]? =some x ->q x=true))/\Sep E (rowA s 1 (intL l)::L) w'):=by
 apply akX
 unfold agk
 refine ⟨fun i w=>(0<=i/\i<=l.length)/\(∀ j x,j<i.toNat ->l[j]? =some x ->q x=false)/\Sep E (rowA s 1 (intL l)::L) w,fun i _=>(l.length - i).toNat,⟨⟨by omega,by omega⟩,fun j x hj=>by simp at hj,h⟩,?_⟩
 rintro _ i w1 ⟨⟨hi0,hi1⟩,hpre,h1⟩
 refine bLt (fun hlt0=> ?_) (fun hge=> ?_)
 ·have hlt:i<l.length:=by omega
  have hx:l[i.toNat]? =some (l[i.toNat]'(by omega)):=List.getElem?_eq_getElem (by omega)
  refine rowA.el 0 h1 rfl hi0 (by omega) (fun b hp hc=> ?_)
  have hcell:=hc 0 (by omega)
  refine ⟨l[i.toNat]'(by omega),hcell.trans (by simp [hx]),?_⟩
  obtain ⟨hh,ca,e1,e2,hcall⟩:=hq (l[i.toNat]'(by omega)) w1 (List.getElem_mem _) h1
  refine ⟨hh,ca,e1,e2,hcall.mono ?_⟩
  rintro e w2 ⟨rfl,h2⟩
  refine ⟨_,rfl,bifI (fun ht=>⟨i,rfl,.inr ⟨hi0,hlt,hpre,fun x hx'=> ?_⟩,h2⟩) (fun hf=> ?_)⟩
  ·rw [hx] at hx';rw [<- Option.some.inj hx'];exact ht
  ·rw [w64 (by omega) (by omega)]
   refine ⟨⟨⟨by omega,by omega⟩,fun j x hj hjx=> ?_,h2⟩,by show (l.length - (i+1)).toNat<(l.length - i).toNat;omega⟩
   by_cases hji:j<i.toNat
   ·exact hpre j x hji hjx
   ·have:j=i.toNat:=by omega
    subst this
    rw [hx] at hjx;rw [<- Option.some.inj hjx];exact hf
 ·refine ⟨-1,rfl,.inl ⟨rfl,fun x hx=> ?_⟩,h1⟩
  obtain ⟨j,hj,rfl⟩:=List.mem_iff_getElem.1 hx
  exact hpre j _ (by omega) (List.getElem?_eq_getElem hj)
theorem arj {s:Sl} {l:List Int} {del:Value} {q:Int ->Bool} (hq:∀ m:List Int,m.length=l.length ->Asks E del q (rowA s 1 (intL m)::L) (· ∈l)) (hn:s.n=l.length) (hb:l.length<4611686018427387904) (h:Sep E (rowA s 1 (intL l)::L) w):
  Calls P acB #[.slice s.p s.n s.c,del] w (Ret fun v w'=>∃ s':Sl,v= .slice s'.p s'.n s'.c/\s'.n=(l.filter fun x=> !q x).length/\Sep E (rowA s' 1 (intL (l.filter fun x=> !q x))::L) w'):=by
 apply akr
 unfold af4
 refine use (auk (hq l rfl) hn hb h) ?_
 rintro _ w1 ⟨i,rfl,hi,h1⟩
 refine ⟨i,rfl,?_⟩
 rcases hi with ⟨rfl,hnone⟩ | ⟨hi0,hi1,hpre,hat⟩
 ·have e:l.filter (fun x=> !q x)=l:=by
   rw [List.filter_eq_self]
   intro x hx;simp [hnone x hx]
  refine bEq (fun _=>⟨s,rfl,by rw [e];exact hn,by rw [e];exact h1⟩) (fun hh=>absurd rfl hh)
 ·refine bEq (fun hh=>by omega) (fun _=> ?_)
  rw [w64 (by omega) (by omega)]
  have hfirst:(l.take i.toNat).filter (fun x=> !q x)=l.take i.toNat:=by
   rw [List.filter_eq_self]
   intro x hx
   obtain ⟨j,hj,rfl⟩:=List.mem_iff_getElem.1 hx
   simp only [List.length_take] at hj
   have:=hpre j l[j] (by omega) (List.getElem?_eq_getElem (by omega))
   rw [List.getElem_take];simp [this]
  have hti:(l.take (i.toNat+1)).filter (fun x=> !q x)=l.take i.toNat:=by
   have hxi:l[i.toNat]? =some (l[i.toNat]'(by omega)):=List.getElem?_eq_getElem (by omega)
   rw [List.take_add_one,hxi,List.filter_append,hfirst]
   simp [hat _ hxi]
  refine ⟨fun a j w=>(i+1<=j/\j<=l.length)/\∃ m:List Int,m.length=l.length/\a=((l.take j.toNat).filter fun x=> !q x).length/\m.take a.toNat=(l.take j.toNat).filter (fun x=> !q x)/\m.drop j.toNat=l.drop j.toNat/\Sep E (rowA s 1 (intL m)::L) w,
   fun _ j _=>(l.length - j).toNat,⟨⟨by omega,by omega⟩,l,rfl,?_,?_,rfl,h1⟩,?_⟩
  ·have e1:(i+1).toNat=i.toNat+1:=by omega
   rw [e1,hti];simp;omega
  ·have e1:(i+1).toNat=i.toNat+1:=by omega
   rw [e1,hti]
  rintro _ a j w2 ⟨⟨hj0,hj1⟩,m,hm,ha,hkeep,hrest,h2⟩
  have hak:((l.take j.toNat).filter fun x=> !q x).length<=j.toNat:=by
   refine Nat.le_trans (List.length_filter_le _ _) ?_
   simp;omega
  refine bLt (fun hlt0=> ?_) (fun hge=> ?_)
  ·have hlt:j<l.length:=by omega
   have hxj:l[j.toNat]? =some (l[j.toNat]'(by omega)):=List.getElem?_eq_getElem (by omega)
   have hmj:m[j.toNat]? =some (l[j.toNat]'(by omega)):=by
    have:(m.drop j.toNat)[0]? =(l.drop j.toNat)[0]? :=by rw [hrest]
    simpa [hxj] using this
   generalize hv:l[j.toNat]'(by omega)=v at hxj hmj
   have hvl:v∈l:=by rw [<- hv];exact List.getElem_mem _
   refine rowA.el 0 h2 rfl (by omega) (by omega) (fun b hp hc=> ?_)
   have hcell:=hc 0 (by omega)
   refine ⟨v,hcell.trans (by simp [hmj]),?_⟩
   obtain ⟨hh,ca,e1,e2,hcall⟩:=hq m hm v w2 hvl h2
   refine ⟨hh,ca,e1,e2,hcall.mono ?_⟩
   rintro e w3 ⟨rfl,h3⟩
   have hj1':(j+1).toNat=j.toNat+1:=by omega
   have htk:(l.take (j.toNat+1)).filter (fun x=> !q x)=(l.take j.toNat).filter (fun x=> !q x)++(if q v then [] else [v]):=by
    rw [List.take_add_one,hxj,List.filter_append]
    cases hqv:q v<;>simp [hqv]
   have hdrop:m.drop (j.toNat+1)=l.drop (j.toNat+1):=by
    rw [<- List.drop_drop,<- List.drop_drop,hrest]
   refine ⟨_,rfl,bifI (fun hf=> ?_) (fun ht=> ?_)⟩
   ·have hqv:q v=false:=by simpa using hf
    rw [hqv] at htk
    refine rowA.el 0 h3 rfl (by omega) (by omega) (fun b' hp' _=> ?_)
    refine rowA.st h3 hp' (by simp;omega) (fun w4 h4=> ?_)
    rw [w64 (by omega) (by omega),w64 (by omega) (by omega)]
    refine ⟨⟨⟨by omega,by omega⟩,m.set a.toNat v,by simpa using hm,?_,?_,?_,?_⟩,by show (l.length - (j+1)).toNat<(l.length - j).toNat;omega⟩
    ·rw [hj1',htk];simp;omega
    ·have e1:(a+1).toNat=a.toNat+1:=by omega
     rw [e1,hj1',htk,List.take_add_one,List.take_set_of_le (Nat.le_refl _),hkeep,List.getElem?_set_self (by omega)]
     simp
    ·rw [hj1',List.drop_set_of_lt (by omega)];exact hdrop
    ·have e2:(intL m).set (a.toNat*1) (.int .i64 v)=intL (m.set a.toNat v):=by simp [intL,List.map_set]
     rw [e2] at h4;exact h4
   ·have hqv:q v=true:=by simpa using ht
    rw [hqv] at htk
    rw [w64 (by omega) (by omega)]
    refine ⟨⟨⟨by omega,by omega⟩,m,hm,?_,?_,?_,h3⟩,by show (l.length - (j+1)).toNat<(l.length - j).toNat;omega⟩
    ·rw [hj1',htk];simp;omega
    ·rw [hj1',htk];simpa using hkeep
    ·rw [hj1'];exact hdrop
  ·have hjl:l.take j.toNat=l:=List.take_of_length_le (by omega)
   rw [hjl] at ha hkeep hak
   have hle:=List.length_filter_le (fun x=> !q x) l
   obtain ⟨b,spare,hp,hl1,hl2,hl3,h3⟩:=rowA.get_ h2 (by omega)
   refine ⟨⟨by omega,by omega⟩,?_⟩
   rw [hp]
   have hsl:slA (some ⟨b,0,none⟩) a.toNat s.c 1=some ⟨b,if s.c=a.toNat then 0 else a.toNat,none⟩:=by
    unfold slA;split
    ·rfl
    ·simp
   rw [hsl]
   have fin:∀ {w4:World} {rest:List Value},rest.length+a.toNat=s.c ->Sep E (blk b (intL (l.filter fun x=> !q x)++rest)::L) w4 ->(0<=a/\a<=(s.c:Int))/\∃ s':Sl,Value.slice (slA (some ⟨b,0,none⟩) 0 s.c 1) (a.toNat - 0) (s.c - 0)= .slice s'.p s'.n s'.c/\s'.n=(l.filter fun x=> !q x).length/\Sep E (rowA s' 1 (intL (l.filter fun x=> !q x))::L) w4:=by
    intro w4 rest hr h4
    refine ⟨⟨by omega,by omega⟩,⟨some ⟨b,0,none⟩,a.toNat,s.c⟩,?_,by dsimp only;omega,rowA.make h4 (by simp;omega) (by simp;omega) (by omega)⟩
    unfold slA;split<;>simp
   have hmt:intL m=intL (l.filter fun x=> !q x)++(intL m).drop a.toNat:=by
    have:intL (l.filter fun x=> !q x)=(intL m).take a.toNat:=by
     rw [<- hkeep];simp [intL,List.map_take]
    rw [this,List.take_append_drop]
   by_cases hc:s.c=a.toNat
   ·rw [if_pos hc]
    have hz:s.n - a.toNat=0:=by omega
    rw [hz]
    refine clear.i h3 (by_:=8) (m:=1) (zs:= [.int .i64 0]) (by kernel_rfl) rfl (by simp [Value.oneCell']) (by simp) (fun w4 h4=> ?_)
    refine fin (rest:=(intL m).drop a.toNat++spare) (by simp at hl2 ⊢;omega) ?_
    have e:acf (intL m++spare) 0 (Builtin.zeroCells [Value.int .i64 0].toArray 0).toList=intL (l.filter fun x=> !q x)++((intL m).drop a.toNat++spare):=by
     rw [<- List.append_assoc,<- hmt];simp [Builtin.zeroCells,acf]
    rw [e] at h4;exact h4
   ·rw [if_neg hc]
    refine clear.i h3 (by_:=8) (m:=1) (zs:= [.int .i64 0]) (by kernel_rfl) rfl (by simp [Value.oneCell']) (by simp;omega) (fun w4 h4=> ?_)
    have hzl:=ah9 [Value.int .i64 0].toArray (s.n - a.toNat)
    refine fin (rest:=(Builtin.zeroCells [Value.int .i64 0].toArray (s.n - a.toNat)).toList++spare) (by simp at hl2 hzl ⊢;omega) ?_
    have e:acf (intL m++spare) a.toNat (Builtin.zeroCells [Value.int .i64 0].toArray (s.n - a.toNat)).toList=intL (l.filter fun x=> !q x)++((Builtin.zeroCells [Value.int .i64 0].toArray (s.n - a.toNat)).toList++spare):=by
     rw [aft _ _ _ (by simp at hl2 hzl ⊢;omega),hzl]
     rw [List.take_append_of_le_length (by simp;omega),List.drop_append]
     have e1:(intL m).take a.toNat=intL (l.filter fun x=> !q x):=by rw [<- hkeep];simp [intL,List.map_take]
     rw [e1,List.drop_of_length_le (by simp;omega)]
     simp only [List.nil_append,List.append_assoc]
     congr 2
     have:a.toNat+(s.n - a.toNat)* [Value.int IntKind.i64 0].toArray.size - (intL m).length=0:=by simp;omega
     rw [this,List.drop_zero]
    rw [e] at h4;exact h4
end Go.Mp
end
section
set_option maxRecDepth 100000
namespace Go.Mp
open Go Go.Vc Go.Sp Go.Proofs Go.Kc
variable {E:Env} {L:List Asn} {w:World}
theorem aDi {s:Sl} {l:List Int} {q:Nat} (h:Sep E L w) (hq:L[q]? =some (rowA s 1 (intL l))) (hn:s.n=l.length) (hb:l.length<=1000000):
  Calls P aaJ #[.slice s.p s.n s.c] w (Ret fun v w'=>∃ s':Sl,v= .slice s'.p s'.n s'.c/\s'.n=l.length/\Sep E (rowA s' 1 (intL l)::L) w'):=by
 have h0:=h.fr q hq
 unfold rowA at h0
 cases hp:s.p with
 | none=>
  rw [hp] at h0
  obtain ⟨⟨_,_,hl⟩,_⟩:=Sep.pur.1 h0
  have hl:l= []:=List.map_eq_nil_iff.1 hl
  subst hl
  refine (Any.slices_Clone_int_nil Tryz.cloneA s.n s.c w).mono ?_
  rintro e w1 ⟨rfl,rfl⟩
  exact ⟨_,rfl,⟨none,0,0⟩,rfl,rfl,rowA.none_ h⟩
 | some a=>
  rw [hp] at h0
  obtain ⟨spare,h0⟩:=Sep.ex.1 h0
  obtain ⟨⟨ho,hs,hl,_,_⟩,h0⟩:=Sep.pur.1 h0
  obtain ⟨ab,ao,aq⟩:=a
  cases ho
  cases hs
  have hc:∀ j,j<l.length ->w.cell? ⟨ab,0+j,none⟩=some (.int .i64 (l.getD j 0)):=by
   intro j hj
   rw [Nat.zero_add,rowA.cell h0 (by simpa using hj)]
   simp [List.getD,List.getElem?_eq_getElem hj]
  refine (Any.slices_Clone_int Tryz.cloneA ab 0 s.n s.c l w (by omega) (by omega) hc).mono ?_
  rintro e w1 ⟨v,rfl,hrow,hne,hbel⟩
  rw [hn,List.take_length] at hrow
  obtain ⟨s',rfl,hn',h1⟩:=ayt h hrow hbel
  exact ⟨_,rfl,s',rfl,hn',h1⟩
theorem aGk {x y:Nat} (hx:x<4294967296) (hxy:x*y<18446744073709551616) (hy:y<18446744073709551616) (w:World):Calls P ad9 #[.int .u64 (x:Nat),.int .u64 (y:Nat)] w (Ret fun v w'=>v= .tuple #[.int .u64 0,.int .u64 ((x*y:Nat):Int)]/\w'=w):=by
 apply akP
 unfold ahM
 have e1:(x:Int).fdiv (2 ^ (min (32:Int).toNat 64))=((0:Nat):Int):=by
  rw [show (x:Int).fdiv (2 ^ (min (32:Int).toNat 64))=((x / 2 ^ 32:Nat):Int) from sh x 32,Nat.div_eq_of_lt (by omega)]
 have sd:∀ z:Nat,(z:Int).fdiv (2 ^ (min (32:Int).toNat 64))=((z / 4294967296:Nat):Int):=fun z=>sh z 32
 have m:∀ {z:Nat},z<18446744073709551616 ->andI .u64 (z:Int) 4294967295=((z % 4294967296:Nat):Int):=by
  intro z hz
  have h:=aem (a:=z) (b:=4294967295) hz (by omega)
  have e:z &&& 4294967295=z % 4294967296:=Nat.and_two_pow_sub_one_eq_mod z 32
  rw [e] at h;exact h
 have hz:x*y=x*(y % 4294967296)+x*(y / 4294967296)*4294967296:=by
  conv=>lhs;rw [<- Nat.mod_add_div y 4294967296]
  rw [Nat.mul_add,Nat.mul_comm 4294967296,Nat.mul_assoc]
 rw [e1,sd y,m (z:=x) (by omega),m hy,Nat.mod_eq_of_lt hx]
 have z1:∀ a:Int,((0:Nat):Int)*a=((0:Nat):Int):=fun a=>by simp
 rw [z1,z1,u64n (n:=0) (by omega),<- Int.natCast_mul,<- Int.natCast_mul,<- Int.natCast_mul]
 generalize x*(y % 4294967296)=p at*
 generalize x*(y / 4294967296)=r at*
 have h3:p / 4294967296+r<4294967296:=by omega
 rw [u64n (n:=p) (by omega),sd p]
 rw [show ((0:Nat):Int)+((p / 4294967296:Nat):Int)=((p / 4294967296:Nat):Int) by omega,u64n (n:=p / 4294967296) (by omega)]
 rw [m (by omega),u64n (n:=r) (by omega),Nat.mod_eq_of_lt (a:=p / 4294967296) (by omega),<- Int.natCast_add,u64n (n:=p / 4294967296+r) (by omega),sd,sd,Nat.div_eq_of_lt h3,Nat.div_eq_of_lt (a:=p / 4294967296) (by omega),u64n hxy]
 refine ⟨by decide,by decide,by decide,by decide,by decide,?_,rfl⟩
 simp [u64w]
theorem ai6 {l:List Int} {k:Nat} {x:Int} (hx:l[k]? =some x):sumI (l.take (k+1))=sumI (l.take k)+x:=by
 rw [aaj hx];simp [sumI,List.foldl_append]
theorem aoO {l:List Int} (hl:∀ x∈l,0<=x/\x<=top):∀ k,k<=l.length ->0<=sumI (l.take k)/\sumI (l.take k)<=k*1099511627776
 | 0,_=>by simp [sumI]
 | k+1,h=>by
  have hx:l[k]? =some (l[k]'(by omega)):=List.getElem?_eq_getElem (by omega)
  have h1:=aoO hl k (by omega)
  have h2:=hl _ (List.getElem_mem (by omega:k<l.length))
  rw [ai6 hx]
  rw [ag7] at h2
  omega
theorem aD5 {s:Sl} {l:List Int} (hI:Ints E L s l) (hl:∀ x∈l,0<=x/\x<=top) (hb:l.length<=64) (h:Sep E L w):
  Calls P abL #[.slice s.p s.n s.c] w (Ret fun v w'=>v= .int .i64 (sumI l)/\Sep E L w'):=by
 apply aBS
 unfold asy
 refine ⟨fun n i w'=>(∃ k:Nat,i=k/\k<=l.length/\n=sumI (l.take k))/\Sep E L w',fun _ i _=>(l.length - i).toNat,⟨⟨0,rfl,Nat.zero_le _,rfl⟩,h⟩,?_⟩
 rintro _ n i w1 ⟨⟨k,rfl,hk,rfl⟩,h1⟩
 have hn:=hI.1
 refine bLt (fun hlt=> ?_) (fun hge=> ?_)
 ·have hx:l[k]? =some (l[k]'(by omega)):=List.getElem?_eq_getElem (by omega)
  refine hI.el h1 k rfl hx ?_
  have h2:=aoO hl (k+1) (by omega)
  have e:=ai6 hx
  rw [aah (by omega),w64 (by omega) (by omega)]
  exact ⟨⟨⟨k+1,rfl,by omega,e.symm⟩,h1⟩,by show (((l.length:Nat):Int) - ((k+1:Nat):Int)).toNat<(((l.length:Nat):Int) - (k:Int)).toNat;omega⟩
 ·have:k=l.length:=by omega
  subst this
  rw [List.take_length]
  exact ⟨rfl,h1⟩
theorem aGo (x:Int) (w:World):Calls P agK #[.int .i64 x] w (Ret fun v w'=>v= .bool (!(decide (0<=x)&&decide (x<=top)))/\w'=w):=by
 apply avE
 unfold amM
 have:=ag7
 refine bLt (fun hlt=>⟨?_,rfl⟩) (fun hge=>⟨?_,rfl⟩)
 ·rw [decide_eq_false (show ¬ 0<=x by omega)];rfl
 ·rw [decide_eq_true (show 0<=x by omega),ag7]
  by_cases hh:x>1099511627776
  ·rw [decide_eq_true hh,decide_eq_false (show ¬ x<=1099511627776 by omega)];rfl
  ·rw [decide_eq_false hh,decide_eq_true (show x<=1099511627776 by omega)];rfl
theorem aAY {s:Sl} {l:List Int} {n:Int} (hn:s.n=l.length) (h:Sep E (rowA s 1 (intL l)::L) w):
  Calls P ah1 #[.int .i64 n,.slice s.p s.n s.c] w (Ret fun v w'=>v= .bool (ace n l)/\Sep E (rowA s 1 (intL l)::L) w'):=by
 apply ayn
 unfold aoD ace
 refine bLe (fun h1=> ?_) (fun h1=> ?_)
 rotate_left
 ·rw [decide_eq_false (show ¬ 0<=n by omega)];exact ⟨by simp,h⟩
 rw [decide_eq_true h1]
 refine bLe (fun h2=> ?_) (fun h2=> ?_)
 rotate_left
 ·rw [decide_eq_false (show ¬ n<=1048576 by omega)];exact ⟨by simp,h⟩
 rw [decide_eq_true h2]
 refine bLe (fun h3=> ?_) (fun h3=> ?_)
 rotate_left
 ·rw [decide_eq_false (show ¬ l.length<=64 by omega)];exact ⟨by simp,h⟩
 rw [decide_eq_true (show l.length<=64 by omega)]
 refine use (K:=fun v w'=>v= .bool (!(l.all fun x=>decide (0<=x)&&decide (x<=top)))/\Sep E (rowA s 1 (intL l)::L) w') ?_ ?_
 ·apply ajs
  unfold afu
  refine use (auk (q:=fun x=> !(decide (0<=x)&&decide (x<=top))) ?_ hn (by omega) h) ?_
  ·intro x w1 _ h1
   refine ⟨agK,_,rfl,by kernel_rfl,(aGo x w1).mono ?_⟩
   rintro e w2 ⟨v,rfl,rfl,rfl⟩
   exact ⟨rfl,h1⟩
  ·rintro _ w1 ⟨i,rfl,hi,h1⟩
   refine ⟨i,rfl,?_,h1⟩
   rcases hi with ⟨rfl,hi⟩ | ⟨h0,hlt,_,hi⟩
   ·have:(l.all fun x=>decide (0<=x)&&decide (x<=top))=true:=List.all_eq_true.2 fun x hx=>by simpa using hi x hx
    rw [this];rfl
   ·have hx:l[i.toNat]? =some (l[i.toNat]'(by omega)):=List.getElem?_eq_getElem (by omega)
    have h5:=hi _ hx
    have:(l.all fun x=>decide (0<=x)&&decide (x<=top))=false:=by
     rw [List.all_eq_false]
     exact ⟨_,List.getElem_mem (show i.toNat<l.length by omega),by
      have h6:l[i.toNat]<0\/top<l[i.toNat]:=by simpa using h5
      simp;omega⟩
    rw [this,decide_eq_true (show i≥0 by omega)];rfl
 ·rintro _ w1 ⟨rfl,h1⟩
  exact ⟨_,rfl,by simp,h1⟩
end Go.Mp
end
section
namespace Go.Kc
theorem aB0 {α:Type} {r:α ->α ->Bool} (irr:∀ x,r x x=false) (asym:∀ x y,r x y=true ->r y x=false):∀ {l:List α} {j:Nat} {x:α},l.Pairwise (fun a b=>r a b=true) ->l[j]? =some x ->(l.filter fun y=>r y x).length=j
 | [],j,x,_,hx=>by simp at hx
 | a::l,0,x,h,hx=>by
  have hxa:a=x:=by simpa using hx
  subst hxa
  have h':=List.pairwise_cons.1 h
  have:(a::l).filter (fun y=>r y a)= []:=by
   rw [List.filter_eq_nil_iff]
   intro y hy
   rcases List.mem_cons.1 hy with rfl | hy
   ·rw [irr];decide
   ·rw [asym _ _ (h'.1 y hy)];decide
  rw [this];rfl
 | a::l,j+1,x,h,hx=>by
  have h':=List.pairwise_cons.1 h
  have hx':l[j]? =some x:=by simpa using hx
  have hm:x∈l:=List.mem_of_getElem? hx'
  rw [List.filter_cons,if_pos (h'.1 x hm),List.length_cons,aB0 irr asym h'.2 hx']
def rB (a b:Int×Nat):Bool:=decide (b.1<a.1)||(decide (a.1=b.1)&&decide (a.2<b.2))
theorem ak4 {a b:Int×Nat} :rB a b=true↔(b.1<a.1\/(a.1=b.1/\a.2<b.2)):=by simp [rB]
theorem aIj (x:Int×Nat):rB x x=false:=by
 rw [Bool.eq_false_iff];intro h;have:=ak4.1 h;omega
theorem aDJ (x y:Int×Nat) (h:rB x y=true):rB y x=false:=by
 rw [Bool.eq_false_iff];intro h';have h1:=ak4.1 h;have h2:=ak4.1 h';omega
theorem as0 {rs:List Int} {p:Int×Nat} :p∈rs.zipIdx↔rs[p.2]? =some p.1:=by
 obtain ⟨a,i⟩:=p
 rw [List.mem_zipIdx_iff_getElem?]
variable {rs:List Int} {S:List (Int×Nat)}
theorem aAJ (hp:S.Perm rs.zipIdx) (hs:S.Pairwise fun a b=>rB a b=true) {j:Nat} {x:Int×Nat} (hx:S[j]? =some x):ahead rs x.2 x.1=j:=by
 have h1:=aB0 aIj aDJ hs hx
 rw [<- h1]
 exact ((hp.filter _).length_eq).symm
theorem aGg (hp:S.Perm rs.zipIdx) (hs:S.Pairwise fun a b=>rB a b=true) {i m:Nat} {r:Int} (hr:rs[i]? =some r):ahead rs i r<m↔i∈(S.take m).map (·.2):=by
 constructor
 ·intro h
  have h1:(r,i)∈S:=hp.mem_iff.2 (as0.2 hr)
  obtain ⟨j,hj⟩:=List.mem_iff_getElem?.1 h1
  have h2:=aAJ hp hs hj
  refine List.mem_map.2 ⟨(r,i),List.mem_iff_getElem?.2 ⟨j,?_⟩,rfl⟩
  rw [List.getElem?_take,if_pos (by simpa [h2] using h)];exact hj
 ·intro h
  obtain ⟨⟨r',i'⟩,h1,rfl⟩:=List.mem_map.1 h
  obtain ⟨j,hj⟩:=List.mem_iff_getElem?.1 h1
  rw [List.getElem?_take] at hj
  split at hj
  ·next hjm=>
   have h3:(r',i')∈rs.zipIdx:=hp.mem_iff.1 (List.mem_of_getElem? hj)
   have h4:=as0.1 h3
   simp only at h4 hr
   have h5:=hr.symm.trans h4
   have h6:r=r':=by simpa using h5
   subst h6
   have:=aAJ hp hs hj
   simp only at this ⊢
   omega
  ·cases hj
theorem ay7:(rs.zipIdx.map (·.2)).Nodup:=by
 rw [List.zipIdx_map_snd];exact List.nodup_range'
theorem ayD (hp:S.Perm rs.zipIdx) (m:Nat):((S.take m).map (·.2)).Nodup:=by
 have h:(S.map (·.2)).Nodup:=(hp.map _).nodup_iff.2 ay7
 rw [List.map_take]
 exact h.sublist (List.take_sublist _ _)
theorem aHX (hp:S.Perm rs.zipIdx) {m:Nat} :∀ i∈(S.take m).map (·.2),i<rs.length:=by
 intro i hi
 obtain ⟨⟨r,i⟩,h1,rfl⟩:=List.mem_map.1 hi
 have:=as0.1 (hp.mem_iff.1 (List.mem_of_mem_take h1))
 exact (List.getElem?_eq_some_iff.1 this).1
theorem aFY (rs:List Int):∃ S:List (Int×Nat),S.Perm rs.zipIdx/\S.Pairwise fun a b=>rB a b=true:=by
 refine ⟨rs.zipIdx.mergeSort (fun a b=> !rB b a),List.mergeSort_perm _ _,?_⟩
 have h1:(rs.zipIdx.mergeSort (fun a b=> !rB b a)).Pairwise (fun a b=>(!rB b a)=true):=by
  apply List.pairwise_mergeSort
  ·intro a b c hab hbc
   rw [Bool.not_eq_true'] at*
   rw [Bool.eq_false_iff] at*
   intro h;apply hab;rw [ak4] at*
   by_cases h9:b.1<c.1\/(c.1=b.1/\c.2<b.2)
   ·exact absurd (by rw [ak4];omega) hbc
   ·omega
  ·intro a b
   rw [Bool.or_eq_true,Bool.not_eq_true',Bool.not_eq_true']
   rcases hb:rB b a with _ | _
   ·exact .inl rfl
   ·exact .inr (aDJ _ _ hb)
 have h2:(rs.zipIdx.mergeSort (fun a b=> !rB b a)).Pairwise (fun a b=>a.2≠b.2):=by
  have:=((List.mergeSort_perm rs.zipIdx (fun a b=> !rB b a)).map (·.2)).nodup_iff.2 ay7
  exact List.pairwise_map.1 this
 refine (h1.and h2).imp ?_
 rintro a b ⟨h3,h4⟩
 rw [Bool.not_eq_true',Bool.eq_false_iff] at h3
 rw [ak4]
 have h5:¬ (a.1<b.1\/(b.1=a.1/\b.2<a.2)):=fun h=>h3 (ak4.2 h)
 omega
def adg:List Int ->List Nat ->List Int
 | out,[]=>out
 | out,a::r=>adg (out.set a (out.getD a 0+1)) r
theorem afg:∀ (ats:List Nat) (out:List Int),(adg out ats).length=out.length
 | [],_=>rfl
 | a::r,out=>by rw [adg,afg r];simp
theorem ant:∀ (bs:List Nat) (out:List Int) (a:Nat),adg out (bs++ [a])=(adg out bs).set a ((adg out bs).getD a 0+1)
 | [],out,a=>rfl
 | b::r,out,a=>by rw [List.cons_append,adg,adg,ant r]
theorem ahS:∀ (ats:List Nat) (out:List Int) (i:Nat) (x:Int),ats.Nodup ->out[i]? =some x ->(adg out ats)[i]? =some (x+if i∈ats then 1 else 0)
 | [],out,i,x,_,hx=>by simp [adg,hx]
 | a::r,out,i,x,hn,hx=>by
  have hn':=List.nodup_cons.1 hn
  have hi:i<out.length:=(List.getElem?_eq_some_iff.1 hx).1
  rw [adg]
  by_cases e:a=i
  ·subst e
   have h1:(out.set a (out.getD a 0+1))[a]? =some (x+1):=by
    rw [List.getElem?_set_self hi,List.getD_eq_getElem?_getD,hx];rfl
   rw [ahS r _ _ _ hn'.2 h1,if_neg hn'.1,if_pos (by simp)];simp
  ·have h1:(out.set a (out.getD a 0+1))[i]? =some x:=by rw [List.getElem?_set_ne e];exact hx
   rw [ahS r _ _ _ hn'.2 h1]
   have:(i∈a::r)↔i∈r:=by rw [List.mem_cons];exact ⟨fun h=>h.resolve_left (fun h=>e h.symm),.inr⟩
   simp only [this]
theorem ab7 (x:Int) (l:List Int):sumI (x::l)=x+sumI l:=by
 have h:∀ (l:List Int) (a b:Int),l.foldl (· + ·) (a+b)=a+l.foldl (· + ·) b:=by
  intro l
  induction l with
  | nil=>intro a b;rfl
  | cons y l ih=>intro a b;rw [List.foldl_cons,List.foldl_cons,Int.add_assoc,ih]
 unfold sumI
 rw [List.foldl_cons,Int.add_comm,h]
theorem aiK:sumI []=0:=rfl
theorem ay4:∀ {l:List Int} {i:Nat},i<l.length ->sumI (l.set i (l.getD i 0+1))=sumI l+1
 | x::l,0,_=>by simp [ab7];omega
 | x::l,i+1,h=>by
  have:=ay4 (l:=l) (i:=i) (by simpa using h)
  simp only [List.set_cons_succ,List.getD_cons_succ,ab7,this];omega
theorem av5:∀ (ats:List Nat) (out:List Int),(∀ i∈ats,i<out.length) ->sumI (adg out ats)=sumI out+ats.length
 | [],out,_=>by simp [adg]
 | a::r,out,h=>by
  rw [adg,av5 r _ (by intro i hi;simpa using h i (List.mem_cons_of_mem _ hi)),ay4 (h a (by simp))]
  simp;omega
end Go.Kc
end
section
namespace Go.Kc
def acz (n:Int) (ws:List Int):List Int:=ws.map fun w=>n*w / sumI ws
def abF (n:Int) (ws:List Int):List Int:=ws.map fun w=>n*w % sumI ws
def adD (n:Int) (ws:List Int):Int:=n - sumI (acz n ws)
theorem axw {n:Int} {ws:List Int} (hr:ace n ws=true) (h0:sumI ws≠0):
  acE n ws=ws.zipIdx.map fun p:Int×Nat=>n*p.1 / sumI ws+if (ahead (abF n ws) p.2 (n*p.1 % sumI ws):Int)<adD n ws then 1 else 0:=by
 unfold acE;rw [if_neg (by rw [hr];decide),if_neg h0];rfl
theorem anU:∀ (a b:List Int),sumI (a++b)=sumI a+sumI b
 | [],b=>by simp [aiK]
 | x::a,b=>by rw [List.cons_append,ab7,ab7,anU a b];omega
theorem aB8 (n:Int):∀ ws:List Int,sumI (ws.map (n* ·))=n*sumI ws
 | []=>by simp [aiK]
 | w::ws=>by rw [List.map_cons,ab7,ab7,aB8 n ws,Int.mul_add]
theorem auG (m:Int) (f:Int ->Int):∀ ws:List Int,sumI (ws.map f)=m*sumI (ws.map fun w=>f w / m)+sumI (ws.map fun w=>f w % m)
 | []=>by simp [aiK]
 | w::ws=>by
  rw [List.map_cons,List.map_cons,List.map_cons,ab7,ab7,ab7,auG m f ws,Int.mul_add]
  have:=Int.mul_ediv_add_emod (f w) m
  omega
theorem acy:∀ {l:List Int},(∀ x∈l,0<=x) ->0<=sumI l
 | [],_=>by simp [aiK]
 | x::l,h=>by
  rw [ab7]
  have:=h x (by simp)
  have:=acy (l:=l) (fun y hy=>h y (List.mem_cons_of_mem _ hy))
  omega
theorem aB7 {m:Int} :∀ {l:List Int},(∀ x∈l,0<=x/\x<=m) ->sumI l<=m*(l.countP fun x=>decide (0<x))
 | [],_=>by simp [aiK]
 | x::l,h=>by
  rw [ab7,List.countP_cons]
  have h1:=h x (by simp)
  have h2:=aB7 (l:=l) (fun y hy=>h y (List.mem_cons_of_mem _ hy))
  by_cases hx:0<x
  ·rw [if_pos (by simpa using hx),Int.natCast_add,Int.mul_add];omega
  ·rw [if_neg (by simpa using hx)];simp;omega
theorem aGN {l:List Int} (h:∀ x∈l,0<=x) {x:Int} (hx:x∈l):x<=sumI l:=by
 induction l with
 | nil=>cases hx
 | cons y l ih=>
  rw [ab7]
  have h1:=h y (by simp)
  have h2:=acy (l:=l) (fun z hz=>h z (List.mem_cons_of_mem _ hz))
  rcases List.mem_cons.1 hx with rfl | hx
  ·omega
  ·have:=ih (fun z hz=>h z (List.mem_cons_of_mem _ hz)) hx;omega
theorem ahH {n:Int} {ws:List Int} (h:ace n ws=true):(0<=n/\n<=1048576)/\ws.length<=64/\∀ w∈ws,0<=w/\w<=top:=by
 simpa [ace,and_assoc] using h
variable {n:Int} {ws:List Int}
theorem aGA:sumI ws*adD n ws=sumI (abF n ws):=by
 have h:=auG (sumI ws) (n* ·) ws
 rw [aB8] at h
 unfold adD acz abF
 rw [Int.mul_sub,Int.mul_comm _ n]
 omega
theorem ayq (hs:0<sumI ws):∀ x∈abF n ws,0<=x/\x<sumI ws:=by
 intro x hx
 obtain ⟨w,_,rfl⟩:=List.mem_map.1 hx
 exact ⟨Int.emod_nonneg _ (by omega),Int.emod_lt_of_pos _ hs⟩
theorem amb (hs:0<sumI ws):0<=adD n ws/\adD n ws<=(abF n ws).countP (fun x=>decide (0<x)):=by
 have h1:=aGA (n:=n) (ws:=ws)
 have h2:=acy (l:=abF n ws) (fun x hx=>(ayq hs x hx).1)
 have h3:=aB7 (m:=sumI ws) (l:=abF n ws) (fun x hx=>⟨(ayq hs x hx).1,Int.le_of_lt (ayq hs x hx).2⟩)
 rw [<- h1] at h2 h3
 exact ⟨Int.nonneg_of_mul_nonneg_right h2 hs,Int.le_of_mul_le_mul_left h3 hs⟩
theorem aBI (hs:0<sumI ws):adD n ws<=ws.length:=by
 have h1:=(amb (n:=n) hs).2
 have h2:=List.countP_le_length (p:=fun x=>decide (0<x)) (l:=abF n ws)
 have h3:(abF n ws).length=ws.length:=by simp [abF]
 omega
theorem aEN (hs:0<sumI ws) {i:Nat} {r:Int} (hr:(abF n ws)[i]? =some r) (ha:(ahead (abF n ws) i r:Int)<adD n ws):0<r:=by
 refine Classical.byContradiction fun hn=> ?_
 have h1:=(amb (n:=n) hs).2
 have h2:((abF n ws).countP fun x=>decide (0<x))<=ahead (abF n ws) i r:=by
  have e:(abF n ws).countP (fun x=>decide (0<x))=(abF n ws).zipIdx.countP (fun p=>decide (0<p.1)):=by
   conv=>lhs;rw [<- List.zipIdx_map_fst 0 (abF n ws)]
   rw [List.countP_map];rfl
  unfold ahead
  rw [e,<- List.countP_eq_length_filter]
  refine List.countP_mono_left fun p _ hp=> ?_
  have:0<p.1:=by simpa using hp
  rw [Bool.or_eq_true]
  exact .inl (by simp;omega)
 omega
theorem axu (hr:ace n ws=true) (h0:sumI ws≠0) {i:Nat} {w:Int} (hw:ws[i]? =some w):(acE n ws)[i]? =some (n*w / sumI ws+if (ahead (abF n ws) i (n*w % sumI ws):Int)<adD n ws then 1 else 0):=by
 rw [axw hr h0,List.getElem?_map,List.getElem?_zipIdx,hw];simp
theorem ac0 (hr:ace n ws=true):(acE n ws).length=ws.length:=by
 by_cases h0:sumI ws=0
 ·unfold acE;rw [if_neg (by rw [hr];decide),if_pos h0];simp
 ·rw [axw hr h0];simp
theorem axt (hr:ace n ws=true) (h0:0<sumI ws) {S:List (Int×Nat)} (hp:S.Perm (abF n ws).zipIdx) (hs:S.Pairwise fun a b=>rB a b=true):
  acE n ws=adg (acz n ws) ((S.take (adD n ws).toNat).map (·.2)):=by
 apply List.ext_getElem?
 intro i
 cases hw:ws[i]? with
 | none=>
  have:ws.length<=i:=List.getElem?_eq_none_iff.1 hw
  rw [List.getElem?_eq_none (by rw [ac0 hr];exact this),List.getElem?_eq_none (by rw [afg];simpa [acz] using this)]
 | some w=>
  have h1:(acz n ws)[i]? =some (n*w / sumI ws):=by simp [acz,hw]
  have h2:(abF n ws)[i]? =some (n*w % sumI ws):=by simp [abF,hw]
  rw [axu hr (by omega) hw,ahS _ _ _ _ (ayD hp _) h1]
  have h3:=aGg hp hs (m:=(adD n ws).toNat) h2
  have h4:=(amb (n:=n) h0).1
  have h5:(ahead (abF n ws) i (n*w % sumI ws):Int)<adD n ws↔i∈(S.take (adD n ws).toNat).map (·.2):=by rw [<- h3];omega
  simp only [h5]
theorem axv (hr:ace n ws=true) (h0:0<sumI ws):sumI (acE n ws)=n:=by
 obtain ⟨S,hp,hs⟩:=aFY (abF n ws)
 rw [axt hr h0 hp hs,av5 _ _ (fun i hi=>by simpa [acz,abF] using aHX hp i hi)]
 have h1:=aBI (n:=n) h0
 have h2:=(amb (n:=n) h0).1
 have h3:S.length=ws.length:=by rw [hp.length_eq];simp [abF]
 rw [List.length_map,List.length_take,h3]
 have:adD n ws=n - sumI (acz n ws):=rfl
 omega
theorem ann (hr:ace n ws=true) (h0:0<sumI ws) {i:Nat} {w:Int} (hw:ws[i]? =some w):∃ x,(acE n ws)[i]? =some x/\0<=x/\(n<=sumI ws ->x<=w)/\(sumI ws<=n ->w<=x):=by
 obtain ⟨⟨hn0,hn1⟩,hl,hall⟩:=ahH hr
 have hw0:=hall w (List.mem_of_getElem? hw)
 have h2:(abF n ws)[i]? =some (n*w % sumI ws):=by simp [abF,hw]
 refine ⟨_,axu hr (by omega) hw,?_⟩
 have h3:=Int.mul_ediv_add_emod (n*w) (sumI ws)
 have h4:=Int.emod_nonneg (n*w) (b:=sumI ws) (by omega)
 have h5:=aEN (n:=n) h0 h2
 have h6:0<=n*w / sumI ws:=Int.ediv_nonneg (Int.mul_nonneg hn0 hw0.1) (by omega)
 refine ⟨?_,fun hle=> ?_,fun hle=> ?_⟩
 ·split<;>omega
 ·have h7:n*w<=sumI ws*w:=Int.mul_le_mul_of_nonneg_right hle hw0.1
  have h8:n*w / sumI ws<=w:=Int.ediv_le_of_le_mul h0 (by rw [Int.mul_comm w];exact h7)
  split
  ·next ha=>
   have h9:=h5 ha
   have h10:n*w / sumI ws<w:=by
    refine Classical.byContradiction fun hc=> ?_
    have e:n*w / sumI ws=w:=by omega
    rw [e] at h3;omega
   omega
  ·omega
 ·have h7:sumI ws*w<=n*w:=Int.mul_le_mul_of_nonneg_right hle hw0.1
  have h8:w<=n*w / sumI ws:=(Int.le_ediv_iff_mul_le h0).2 (by rw [Int.mul_comm w];exact h7)
  split<;>omega
end Go.Kc
end
section
set_option maxRecDepth 100000
namespace Go.Mp
open Go Go.Vc Go.Sp Go.Proofs Go.Kc Go.Mp.Sh
variable {E:Env} {L:List Asn} {w:World}
theorem aAX (x:Int) (w:World):Calls P ae2 #[.int .u64 x] w (Ret fun v w'=>v= .bool false/\w'=w):=by
 apply aqo
 exact ⟨by simp,rfl⟩
theorem aD3 (x y:Int) (w:World):Calls P afR #[.int .u64 x,.int .u64 y] w (Ret fun v w'=>∃ r:Int,v= .int .i64 r/\decide (r<0)=decide (x<y)/\w'=w):=by
 apply aol
 unfold aiS
 refine use (aAX x w) ?_
 rintro _ _ ⟨rfl,rfl⟩
 refine ⟨_,rfl,use (aAX y _) ?_⟩
 rintro _ _ ⟨rfl,rfl⟩
 refine ⟨_,rfl,bifF (bifF (bLt (fun h=>⟨-1,rfl,by simp [h],rfl⟩) (fun h=>bGt (fun h2=>⟨1,rfl,?_,rfl⟩) (fun h2=>⟨0,rfl,?_,rfl⟩))))⟩
 ·rw [decide_eq_false (show ¬ x<y by omega)];rfl
 ·rw [decide_eq_false (show ¬ x<y by omega)];rfl
def aw4 (a b:Rst):Prop:=b.low<a.low\/(a.low=b.low/\a.at_<b.at_)
def ltR (a b:Rst):Bool:=decide (b.low<a.low)
theorem aHW:Sh.agp aw4 (fun a b=>a.at_<b.at_) ltR:=by
 refine ⟨⟨fun x y z h1 h2=> ?_,fun x h=> ?_,fun x y h=> ?_⟩,fun x y h e=> ?_,fun x y h=> ?_⟩
 ·unfold aw4 at *; omega
 ·unfold aw4 at h;omega
 ·unfold aw4
  obtain ⟨a,b⟩:=x
  obtain ⟨c,d⟩:=y
  have:¬ (a=c/\b=d):=fun ⟨h1,h2⟩=>h (by rw [h1,h2])
  simp only;omega
 ·rw [e] at h;exact absurd h (Int.lt_irrefl _)
 ·unfold ltR aw4
  have h:x.at_<y.at_:=h
  rw [decide_eq_true_iff];omega
def as5 (p:Int×Nat):Rst:=⟨p.2,p.1⟩
def ak2 (x:Rst):Int×Nat:=(x.low,x.at_.toNat)
theorem asc (p:Int×Nat):ak2 (as5 p)=p:=by simp [ak2,as5]
theorem aGl (x y:Rst) (h:Sep E L w):Calls P agJ #[.agg #[.int .i64 x.at_,.int .u64 x.low],.agg #[.int .i64 y.at_,.int .u64 y.low]] w (Ret fun v w'=>∃ r:Int,v= .int .i64 r/\decide (r<0)=ltR x y/\Sep E L w'):=by
 apply avD
 unfold amL
 refine Al.i h (fun p1 w1 h1=>Al.i h1 (fun p3 w2 h2=> ?_))
 have h2:Sep E (blk p3 [.int .i64 y.at_,.int .u64 y.low]::blk p1 [.int .i64 x.at_,.int .u64 x.low]::L) w2:=h2
 refine ld h2 0 rfl rfl rfl (ld h2 1 rfl rfl rfl (use (aD3 _ _ w2) ?_))
 rintro _ w3 ⟨r,rfl,hr,rfl⟩
 exact ⟨r,rfl,r,rfl,hr,h2.tail.tail⟩
theorem aEk (n:Nat) (l:List Int) (hl:l.length=n):l.map (fun _=>(0:Int))=List.replicate n 0:=by
 rw [<- hl];simp [List.map_const']
theorem aFW:slQ P agO=some (16,2,[.int .i64 0,.int .u64 0]):=by kernel_rfl
theorem aFM {s:Sl} {q:Nat} {l:List Rst} {x:Rst} (hn:s.n=l.length) (hb:l.length<100000000) (h:Sep E (blk q x.vs::rowA s 2 (recs Rst.vs l)::L) w) {G:Sl ->World ->Prop}
  (g:∀ s' w1,s'.n=l.length+1 ->Sep E (rowA s' 2 (recs Rst.vs (l++ [x]))::L) w1 ->G s' w1):
  ∃ x1:Sl,∃ w1,Sem.run P (Builtin.append_ #[agO,agO] agO #[.slice s.p s.n s.c,.slice (some ⟨q,0,none⟩) 1 1]) w= .ok (.slice x1.p x1.n x1.c) w1/\G x1 w1:=by
 have hs:=Src.blk (n:=1) (c:=1) h (i:=0) rfl aFW rfl (fun u hu=>by simp [Rst.vs] at hu;rcases hu with rfl | rfl<;>rfl)
 refine rowA.append h.swap aFW rfl hs (by omega) (by rw [hn];omega) (fun s' w1 hs' h1=> ?_)
 refine g s' w1 (by rw [hs',hn]) ?_
 rw [akB,apB]
 exact (h1.fr 0 rfl).ro 2 [0] rfl
theorem aHr {s:Sl} {l:List Int} {n:Int} (hn:s.n=l.length) (h:Sep E (rowA s 1 (intL l)::L) w) (hbg:l.length<1000000):
  Calls P abx #[.int .i64 n,.slice s.p s.n s.c] w (Ret fun v w'=>∃ e:Sl,v= .slice e.p e.n e.c/\e.n=(acE n l).length/\Sep E (rowA e 1 (intL (acE n l))::rowA s 1 (intL l)::L) w'):=by
 apply aym
 unfold aoC
 refine use (aAY hn h) ?_
 rintro _ w1 ⟨rfl,h1⟩
 refine ⟨_,rfl,?_⟩
 cases hr:ace n l with
 | false=>
  have e:acE n l= []:=by unfold acE;rw [if_pos hr]
  rw [e]
  exact bT rfl ⟨⟨none,0,0⟩,rfl,rfl,rowA.none_ h1⟩
 | true=>
  refine bF rfl ?_
  obtain ⟨⟨hn0,hn1⟩,hl,hall⟩:=ahH hr
  refine aeU (n:=s.n) (by omega) h1 (fun x5 w2 hx5 h2=> ?_)
  rw [hn] at hx5 h2
  refine use (aD5 (Ints.at_ (q:=1) rfl hn) hall hl h2) ?_
  rintro _ w3 ⟨rfl,h3⟩
  refine ⟨_,rfl,bEq (fun e0=> ?_) (fun hne=> ?_)⟩
  ·have e:acE n l=List.replicate l.length 0:=by unfold acE;rw [if_neg (by rw [hr];decide),if_pos e0];exact aEk _ _ rfl
   rw [e]
   exact ⟨x5,rfl,by simpa using hx5,h3⟩
  have hS:0<sumI l:=by have:=acy (l:=l) (fun x hx=>(hall x hx).1);omega
  have hS2:sumI l<=64*1099511627776:=by
   have:=(aoO hall l.length (Nat.le_refl _)).2
   rw [List.take_length] at this
   omega
  have hbl:(acz n l).length=l.length:=by simp [acz]
  have hrl:(abF n l).length=l.length:=by simp [abF]
  let rP:Nat ->List Rst:=fun k=>((abF n l).zipIdx.take k).map as5
  have hrPl:∀ k,k<=l.length ->(rP k).length=k:=fun k hk=>by simp [rP,hrl,hk]
  refine ⟨fun rs left i w'=>∃ k:Nat,i=k/\k<=l.length/\left=n - sumI ((acz n l).take k)/\rs.n=k/\Sep E (rowA rs 2 (recs Rst.vs (rP k))::rowA x5 1 (intL ((acz n l).take k++List.replicate (l.length - k) 0))::rowA s 1 (intL l)::L) w',
   fun _ _ i _=>(l.length - i).toNat,⟨0,rfl,Nat.zero_le _,by simp [aiK],rfl,rowA.none_ (by simpa using h3)⟩,?_⟩
  rintro _ rs _ _ w4 ⟨k,rfl,hk,rfl,hrs,h4⟩
  obtain ⟨Pk,hPk⟩:∃ f:Nat ->List Int,f=fun k=>(acz n l).take k++List.replicate (l.length - k) 0:=⟨_,rfl⟩
  have h4:Sep E (rowA rs 2 (recs Rst.vs (rP k))::rowA x5 1 (intL (Pk k))::rowA s 1 (intL l)::L) w4:=by rw [hPk];exact h4
  have hPl:∀ k,k<=l.length ->(Pk k).length=l.length:=fun k hk=>by simp [hPk,hbl];omega
  refine bLt (fun hlt=> ?_) (fun hge=> ?_)
  ·have hkl:k<l.length:=by omega
   obtain ⟨x,hx⟩:∃ x,l[k]? =some x:=⟨_,List.getElem?_eq_getElem hkl⟩
   have hxa:=hall x (List.mem_of_getElem? hx)
   rw [ag7] at hxa
   refine (Ints.at_ (q:=2) rfl hn).el h4 k rfl hx ?_
   obtain ⟨N,rfl⟩:∃ N:Nat,n=N:=⟨n.toNat,by omega⟩
   obtain ⟨X,rfl⟩:∃ X:Nat,x=X:=⟨x.toNat,by omega⟩
   obtain ⟨T,hT⟩:∃ T:Nat,sumI l=T:=⟨(sumI l).toNat,by omega⟩
   have hNX:N*X<=1048576*1099511627776:=Nat.mul_le_mul (by omega) (by omega)
   rw [u64n (n:=N) (by omega),u64n (n:=X) (by omega),hT,u64n (n:=T) (by omega)]
   refine use (aGk (by omega) (by omega) (by omega) w4) ?_
   rintro _ _ ⟨rfl,rfl⟩
   refine ⟨_,_,rfl,use (aDj (by omega) (by omega) h4) ?_⟩
   rintro _ w5 ⟨rfl,h5⟩
   refine ⟨_,_,rfl,?_⟩
   have hq1:N*X / T<=N*X:=Nat.div_le_self _ _
   have hbase:(acz N l)[k]? =some ((N*X / T:Nat):Int):=by simp [acz,hx,hT]
   have hrest:(abF N l)[k]? =some ((N*X % T:Nat):Int):=by simp [abF,hx,hT]
   generalize N*X / T=Q at*
   generalize N*X % T=R at*
   rw [w64 (n:=((Q:Nat):Int)) (by omega) (by omega)]
   refine elSt (h5.fr 1 rfl) (by rw [hPl k hk];exact hx5) (by omega) (by rw [hPl k hk];omega) (fun w6 h6=> ?_)
   have eset:(Pk k).set ((k:Nat):Int).toNat ((Q:Nat):Int)=Pk (k+1):=by
    rw [Int.toNat_natCast,hPk]
    simp only
    rw [aaj hbase,List.set_append_right k _ (by simp;omega),List.append_assoc]
    congr 1
    rw [List.length_take,hbl,Nat.min_eq_left hk,Nat.sub_self,show l.length - k=(l.length - (k+1))+1 by omega,List.replicate_succ]
    rfl
   rw [eset] at h6
   have h6:Sep E (rowA x5 1 (intL (Pk (k+1)))::rowA rs 2 (recs Rst.vs (rP k))::rowA s 1 (intL l)::L) w6:=h6
   have hPg:(Pk (k+1))[k]? =some ((Q:Nat):Int):=by
    rw [hPk];simp only
    rw [List.getElem?_append_left (by simp;omega),List.getElem?_take,if_pos (by omega)];exact hbase
   refine (Ints.at_ (q:=0) rfl (by rw [hPl _ hkl];exact hx5)).el h6 k rfl hPg ?_
   refine Al.i h6 (fun p w7 h7=> ?_)
   have h7:Sep E (blk p (Rst.vs ⟨k,((R:Nat):Int)⟩)::rowA rs 2 (recs Rst.vs (rP k))::rowA x5 1 (intL (Pk (k+1)))::rowA s 1 (intL l)::L) w7:=h7.ro 3 [0,2,1] rfl
   refine aFM (by rw [hrPl k hk];exact hrs) (by rw [hrPl k hk];omega) h7 (fun s' w8 hs' h8=> ?_)
   have eP:rP k++ [⟨k,((R:Nat):Int)⟩]=rP (k+1):=by
    have:((abF N l).zipIdx)[k]? =some (((R:Nat):Int),k):=by rw [List.getElem?_zipIdx,hrest];simp
    simp only [rP]
    rw [aaj this,List.map_append];rfl
   rw [eP] at h8
   have hsum:=ai6 hbase
   have hb0:0<=sumI ((acz (N:Int) l).take k):=acy fun y hy=>by
    obtain ⟨z,hz,rfl⟩:=List.mem_map.1 (List.mem_of_mem_take hy)
    exact Int.ediv_nonneg (Int.mul_nonneg (by omega) (hall z hz).1) (by omega)
   have hbS:sumI ((acz (N:Int) l).take (k+1))<=sumI (acz (N:Int) l):=by
    conv=>rhs;rw [<- List.take_append_drop (k+1) (acz (N:Int) l)]
    have:0<=sumI ((acz (N:Int) l).drop (k+1)):=acy fun y hy=>by
     obtain ⟨z,hz,rfl⟩:=List.mem_map.1 (List.mem_of_mem_drop hy)
     exact Int.ediv_nonneg (Int.mul_nonneg (by omega) (hall z hz).1) (by omega)
    rw [anU];omega
   have hlf:=(amb (n:=(N:Int)) hS).1
   have hlf2:adD (N:Int) l=N - sumI (acz (N:Int) l):=rfl
   rw [aah (by omega),w64 (by omega) (by omega)]
   refine ⟨⟨k+1,rfl,hkl,by omega,by rw [hs',hrPl k hk],by rw [hPk] at h8;exact h8⟩,?_⟩
   show (((l.length:Nat):Int) - ((k+1:Nat):Int)).toNat<(((l.length:Nat):Int) - (k:Int)).toNat
   omega
  ·have:k=l.length:=by omega
   clear hge
   have hrP:rP k=(abF n l).zipIdx.map as5:=by simp only [rP];rw [List.take_of_length_le (by simp [hrl];omega)]
   have hlef:n - sumI ((acz n l).take k)=adD n l:=by rw [this,<- hbl,List.take_length];rfl
   have hPe:Pk k=acz n l:=by
    rw [hPk,this];simp only
    rw [Nat.sub_self,<- hbl,List.take_length];simp
   rw [hlef]
   rw [hPe] at h4
   have hM:(rP k).Pairwise (fun a b=>a.at_<b.at_):=by
    rw [hrP,List.pairwise_map]
    have h5:((abF n l).zipIdx.map (·.2)).Pairwise (· < ·):=by rw [List.zipIdx_map_snd];exact List.pairwise_lt_range'
    exact (List.pairwise_map.1 h5).imp (fun {a b} h=>by show (a.2:Int)<(b.2:Int);omega)
   refine use (Sh.ami aHW hM (by rw [hrPl k hk];exact hrs) (by rw [hrPl k hk];omega) ?_ h4) ?_
   ·intro l2 x y w5 _ h5
    exact ⟨agJ,_,rfl,by kernel_rfl,use (K:=fun v w'=>∃ r:Int,v= .int .i64 r/\decide (r<0)=ltR x y/\Sep E _ w') (aGl x y h5) (fun v w' ⟨r,hv,hr,hs⟩=>⟨r,by rw [hv],hr,hs⟩)⟩
   rintro _ w5 ⟨rfl,l',hperm,hord,h5⟩
   have hl'l:l'.length=l.length:=by rw [hperm.length_eq,hrPl k hk,this]
   have hl0:∀ x∈l',0<=x.at_/\as5 (ak2 x)=x:=by
    intro x hx
    have:=hperm.mem_iff.1 hx
    rw [hrP] at this
    obtain ⟨p,_,rfl⟩:=List.mem_map.1 this
    exact ⟨by show (0:Int)<=(p.2:Int);omega,by rw [asc]⟩
   obtain ⟨S,hSd⟩:∃ S,S=l'.map ak2:=⟨_,rfl⟩
   have hSp:S.Perm (abF n l).zipIdx:=by
    have:=hperm.map ak2
    rw [hrP,List.map_map,show ak2 ∘ as5=id from funext asc,List.map_id] at this
    rw [hSd];exact this
   have hSs:S.Pairwise fun a b=>rB a b=true:=by
    rw [hSd,List.pairwise_map]
    refine List.Pairwise.imp_of_mem (fun {a b} ha hb hab=> ?_) hord
    have h1:=(hl0 a ha).1
    have h2:=(hl0 b hb).1
    rw [ak4]
    show b.low<a.low\/(a.low=b.low/\a.at_.toNat<b.at_.toNat)
    rcases hab with h | ⟨h3,h4⟩
    ·exact .inl h
    ·exact .inr ⟨h3,by omega⟩
   have hsp:=axt hr hS hSp hSs
   have hlf:=amb (n:=n) hS
   have hll:=aBI (n:=n) hS
   have hcap:=rowA.cap h5
   refine ⟨rfl,⟨hlf.1,by omega⟩,?_⟩
   obtain ⟨A,hA⟩:∃ A:Nat ->List Int,A=fun j=>adg (acz n l) ((S.take j).map (·.2)):=⟨_,rfl⟩
   have hAl:∀ j,(A j).length=l.length:=fun j=>by rw [hA];simp only [afg,hbl]
   have hA0:A 0=acz n l:=by rw [hA];rfl
   have hAx:∀ j (i:Nat),i<l.length ->0<=(A j).getD i 0/\(A j).getD i 0<=1048577:=by
    intro j i hi
    obtain ⟨x,hx⟩:∃ x,l[i]? =some x:=⟨_,List.getElem?_eq_getElem hi⟩
    have hx0:=hall x (List.mem_of_getElem? hx)
    have hxS:=aGN (fun y hy=>(hall y hy).1) (List.mem_of_getElem? hx)
    have hb:(acz n l)[i]? =some (n*x / sumI l):=by simp [acz,hx]
    have:=ahS _ _ _ _ (ayD hSp j) hb
    rw [hA,List.getD_eq_getElem?_getD]
    simp only
    rw [this]
    have h8:0<=n*x / sumI l:=Int.ediv_nonneg (Int.mul_nonneg hn0 hx0.1) (by omega)
    have h9:n*x / sumI l<=n:=Int.ediv_le_of_le_mul hS (Int.mul_le_mul_of_nonneg_left hxS hn0)
    simp only [Option.getD_some]
    split<;>omega
   rw [<- hA0] at h5
   refine ⟨fun x w'=>∃ j:Nat,x=j/\j<=(adD n l).toNat/\Sep E (rowA rs 2 (recs Rst.vs l')::rowA x5 1 (intL (A j))::rowA s 1 (intL l)::L) w',fun x _=>(adD n l - x).toNat,⟨0,rfl,Nat.zero_le _,h5⟩,?_⟩
   rintro _ x w6 ⟨j,rfl,hj,h6⟩
   refine bLt (fun hlt2=> ?_) (fun hge2=> ?_)
   ·have hj2:j<l'.length:=by omega
    obtain ⟨y,hy⟩:∃ y,l'[j]? =some y:=⟨_,List.getElem?_eq_getElem hj2⟩
    have hy0:=(hl0 y (List.mem_of_getElem? hy)).1
    have hy1:y.at_.toNat<l.length:=by
     have h7:S[j]? =some (ak2 y):=by rw [hSd,List.getElem?_map,hy];rfl
     have h8:=as0.1 (hSp.mem_iff.1 (List.mem_of_getElem? h7))
     have:=(List.getElem?_eq_some_iff.1 h8).1
     rw [hrl] at this;exact this
    have hel:∀ {F:Addr ->Prop},(∀ a,w6.cell? (a.add 0)=some (.int .i64 y.at_) ->w6.cell? (a.add 1)=some (.int .u64 y.low) ->F a) ->elAt (slA rs.p 0 rs.c 2) ((adD n l).toNat - 0) (j:Int) 2 F:=by
     intro F kk
     obtain ⟨b,spare,hp,_⟩:=rowA.get_ h6 (by omega)
     have ea:slA rs.p 0 rs.c 2=some ⟨b,0,none⟩:=by unfold slA;rw [hp];split<;>rfl
     rw [ea]
     obtain ⟨a,ha,hr,hf⟩:=elC (F:=F) (k:=j) Rst.vs2 0 h6 rfl (by rw [hl'l];omega) (i:=(j:Int)) rfl hy (fun b _ hc=>kk _ (by rw [aad];exact hc 0 _ rfl) (by rw [aad];exact hc 1 _ rfl))
     rw [hp] at ha
     have:=Option.some.inj ha
     subst this
     exact ⟨_,rfl,⟨by omega,by omega⟩,hf⟩
    refine hel (fun a c0 c1=>⟨_,c0,_,c1,Al.i h6 (fun p w7 h7=>zst _ h7 rfl (fun w8 h8=> ?_))⟩)
    refine ld h8 0 rfl rfl rfl ?_
    have h9:Sep E (rowA x5 1 (intL (A j))::rowA rs 2 (recs Rst.vs l')::rowA s 1 (intL l)::L) w8:=h8.tail.fr 1 rfl
    have hxn:x5.n=(A j).length:=by rw [hAl];exact hx5
    refine elI 0 h9 rfl hxn hy0 (by rw [hAl];omega) (fun a2 hc2=>⟨_,hc2,?_⟩)
    have hbb:=hAx j y.at_.toNat hy1
    rw [w64 (by omega) (by omega)]
    refine elSt h9 hxn hy0 (by rw [hAl];omega) (fun w10 h10=> ?_)
    have e:(A j).set y.at_.toNat ((A j).getD y.at_.toNat 0+1)=A (j+1):=by
     rw [hA];simp only
     have h7:S[j]? =some (ak2 y):=by rw [hSd,List.getElem?_map,hy];rfl
     rw [aaj h7,List.map_append,List.map_cons,List.map_nil,ant];rfl
    rw [e] at h10
    rw [aah (by omega)]
    refine ⟨⟨j+1,rfl,by omega,h10.swap⟩,?_⟩
    show (adD n l - ((j+1:Nat):Int)).toNat<(adD n l - (j:Int)).toNat
    omega
   ·have:j=(adD n l).toNat:=by omega
    subst this
    have e:A (adD n l).toNat=acE n l:=by rw [hsp,hA]
    rw [e] at h6
    exact ⟨x5,rfl,by rw [hx5,ac0 hr],h6.tail⟩
end Go.Mp
end
section
set_option maxRecDepth 100000
namespace Go.Kc
def ade (n:Int) (l:List Int):List Int:=List.zipWith min (acE n l) l
variable {n:Int} {l:List Int}
theorem amQ (hr:ace n l=true):(ade n l).length=l.length:=by
 simp [ade,ac0 hr]
theorem aiL (hr:ace n l=true) (h0:0<sumI l) {i:Nat} {x:Int} (hx:l[i]? =some x):∃ p,(acE n l)[i]? =some p/\(ade n l)[i]? =some (min p x)/\0<=min p x/\min p x<=x:=by
 obtain ⟨p,hp,h1,h2,h3⟩:=ann hr h0 hx
 have h4:=(ahH hr).2.2 x (List.mem_of_getElem? hx)
 refine ⟨p,hp,by simp [ade,List.getElem?_zipWith,hp,hx],by omega,by omega⟩
theorem amP (hr:ace n l=true) (h0:0<sumI l) (hn:0<n):ade n l=ab3 n l:=by
 unfold ab3
 rw [if_neg (by rw [hr];decide),if_neg (by omega)]
 by_cases hle:sumI l<=n
 ·rw [if_pos hle]
  apply List.ext_getElem?
  intro i
  cases hx:l[i]? with
  | none=>
   have:=List.getElem?_eq_none_iff.1 hx
   exact List.getElem?_eq_none (by rw [amQ hr];exact this)
  | some x=>
   obtain ⟨p,hp,h1,h2,h3⟩:=ann hr h0 hx
   obtain ⟨p',hp',h4,_,_⟩:=aiL hr h0 hx
   rw [hp] at hp';cases hp'
   rw [h4,Int.min_eq_right (h3 hle)]
 ·rw [if_neg hle]
  apply List.ext_getElem?
  intro i
  cases hx:l[i]? with
  | none=>
   have:=List.getElem?_eq_none_iff.1 hx
   rw [List.getElem?_eq_none (by rw [amQ hr];exact this),List.getElem?_eq_none (by rw [ac0 hr];exact this)]
  | some x=>
   obtain ⟨p,hp,h1,h2,h3⟩:=ann hr h0 hx
   obtain ⟨p',hp',h4,_,_⟩:=aiL hr h0 hx
   rw [hp] at hp';cases hp'
   rw [h4,hp,Int.min_eq_left (h2 (by omega))]
theorem aF0 (hr:ace n l=true) (h0:0<sumI l) (hn:0<n):0<sumI (ade n l)/\sumI (ade n l)<=n/\(sumI (ade n l)=n\/ade n l=l):=by
 have e:=amP hr h0 hn
 rw [e]
 unfold ab3
 rw [if_neg (by rw [hr];decide),if_neg (by omega)]
 by_cases hle:sumI l<=n
 ·rw [if_pos hle];exact ⟨h0,hle,.inr rfl⟩
 ·rw [if_neg hle,axv hr h0];exact ⟨hn,Int.le_refl _,.inl rfl⟩
theorem anH (hr:ace n l=true) (h:n<=0\/sumI l=0):ab3 n l=List.replicate l.length 0:=by
 have h1:=(ahH hr).1.1
 unfold ab3
 rw [if_neg (by rw [hr];decide),if_pos (by omega)]
 simp [List.map_const']
end Go.Kc
namespace Go.Mp
open Go Go.Vc Go.Sp Go.Proofs Go.Kc Go.Mp.Sh
variable {E:Env} {L:List Asn} {w:World}
def capT (n:Int) (lf ou:Sl) (K:Value ->World ->Prop) (w:World):Prop:=
  ∃ (I10:Int ->World ->Prop) (M11:Int ->World ->Nat),I10 n w/\∀ _u13:Nat ->Value,∀ n14:Int,∀ w12:World,I10 n14 w12 ->∃ J15:World ->Prop,(bif (decide (n14
   >0)) then (Calls P abL #[(.slice lf.p lf.n lf.c)] w12 fun e19 w18=>∃ x20:Int,e19= .returned (.int .i64 x20)/\bif (decide (x20>0)) then (J15 w18) else
   (K (.slice ou.p ou.n ou.c) w18)) else (K (.slice ou.p ou.n ou.c) w12))/\(∀ _u17:Nat ->Value,∀ w16:World,J15 w16 ->Calls P abx #[(.int .i64 n14),
   (.slice lf.p lf.n lf.c)] w16 fun e22 w21=>∃ x23:Sl,e22= .returned (.slice x23.p x23.n x23.c)/\∃ (I24:Int ->Int ->World ->Prop) (M25:Int ->Int ->World ->Nat),
   I24 n14 0 w21/\∀ _u27:Nat ->Value,∀ n28:Int,∀ x29:Int,∀ w26:World,I24 n28 x29 w26 ->bif (decide (x29<((x23.n:Nat):Int))) then (elAt x23.p x23.n x29 1
   fun a30=>∃ x31:Int,w26.cell? a30=some (.int .i64 x31)/\elAt lf.p lf.n x29 1 fun a32=>∃ x33:Int,w26.cell? a32=some (.int .i64 x33)/\elAt ou.p ou.n x29 1
   fun a34=>∃ x35:Int,w26.cell? a34=some (.int .i64 x35)/\elAt ou.p ou.n x29 1 fun a36=>St a36 (.int .i64 (IntKind.i64.wrap (x35+(min1 x31 x33)))) (fun w37=>
   elAt lf.p lf.n x29 1 fun a38=>∃ x39:Int,w37.cell? a38=some (.int .i64 x39)/\elAt lf.p lf.n x29 1 fun a40=>St a40 (.int .i64 (IntKind.i64.wrap (x39 - (min1 x31
   x33)))) (fun w41=>(I24 (IntKind.i64.wrap (n28 - (min1 x31 x33))) (IntKind.i64.wrap (x29+1)) w41/\M25 (IntKind.i64.wrap (n28 - (min1 x31 x33))) (IntKind.i64.wrap
   (x29+1)) w41<M25 n28 x29 w26)) w37) w26) else ((I10 n28 w26/\M11 n28 w26<M11 n14 w12)))
theorem aFh {n:Int} {l:List Int} {lf ou:Sl} {K:Value ->World ->Prop} {M:List Asn} (hr:ace n l=true) (hlf:lf.n=l.length) (hou:ou.n=l.length)
  (h:Sep E (rowA lf 1 (intL l)::rowA ou 1 (intL (List.replicate l.length 0))::M) w)
  (hK:∀ w',Sep E (rowA ou 1 (intL (ab3 n l))::M) w' ->K (.slice ou.p ou.n ou.c) w'):capT n lf ou K w:=by
 unfold capT
 obtain ⟨⟨hn0,hn1⟩,hl,hall⟩:=ahH hr
 let st2:Int ->World ->Prop:=fun n' w'=>∃ r:List Int,(n'<=0\/sumI r=0)/\r.length=l.length/\(∀ x∈r,0<=x/\x<=top)/\Sep E (rowA lf 1 (intL r)::rowA ou 1 (intL (ab3 n l))::M) w'
 refine ⟨fun n' w'=>(n'=n/\Sep E (rowA lf 1 (intL l)::rowA ou 1 (intL (List.replicate l.length 0))::M) w')\/st2 n' w',fun n' _=>n'.toNat,.inl ⟨rfl,h⟩,?_⟩
 rintro _ n' w1 (⟨rfl,h1⟩ | ⟨r,hz,hrl,hra,h1⟩)
 rotate_left
 ·refine ⟨fun _=>False,bGt (fun hgt=> ?_) (fun hle=>hK _ h1.tail),fun _ _ hf=>hf.elim⟩
  refine use (aD5 (Ints.at_ (q:=0) rfl (by omega)) hra (by omega) h1) ?_
  rintro _ w2 ⟨rfl,h2⟩
  exact ⟨_,rfl,bGt (fun hgt2=>by omega) (fun _=>hK _ h2.tail)⟩
 refine ⟨fun w'=>0<n'/\0<sumI l/\Sep E (rowA lf 1 (intL l)::rowA ou 1 (intL (List.replicate l.length 0))::M) w',bGt (fun hgt=> ?_) (fun hle=>hK _ ?_),?_⟩
 ·refine use (aD5 (Ints.at_ (q:=0) rfl hlf) hall hl h1) ?_
  rintro _ w2 ⟨rfl,h2⟩
  refine ⟨_,rfl,bGt (fun hgt2=>⟨hgt,hgt2,h2⟩) (fun hle=>hK _ ?_)⟩
  have:=acy (l:=l) (fun x hx=>(hall x hx).1)
  rw [anH hr (.inr (by omega))]
  exact h2.tail
 ·rw [anH hr (.inl (by omega))]
  exact h1.tail
 rintro _ w2 ⟨hpos,hS,h2⟩
 refine use (aHr hlf h2 (by omega)) ?_
 rintro _ w3 ⟨ps,rfl,hps,h3⟩
 refine ⟨ps,rfl,?_⟩
 rw [ac0 hr] at hps
 have hTl:=amQ hr
 obtain ⟨O,hO⟩:∃ f:Nat ->List Int,f=fun k=>(ade n' l).take k++List.replicate (l.length - k) 0:=⟨_,rfl⟩
 obtain ⟨F,hF⟩:∃ f:Nat ->List Int,f=fun k=>(List.zipWith (· - ·) l (ade n' l)).take k++l.drop k:=⟨_,rfl⟩
 have hOl:∀ k,k<=l.length ->(O k).length=l.length:=fun k hk=>by rw [hO];simp [hTl];omega
 have hFl:∀ k,k<=l.length ->(F k).length=l.length:=fun k hk=>by rw [hF];simp [hTl];omega
 have hO0:O 0=List.replicate l.length 0:=by rw [hO];simp
 have hF0:F 0=l:=by rw [hF];simp
 have hOe:O l.length=ade n' l:=by rw [hO];simp only;rw [Nat.sub_self,<- hTl,List.take_length];simp
 have hFe:F l.length=List.zipWith (· - ·) l (ade n' l):=by rw [hF];simp only;rw [List.take_of_length_le (by simp [hTl]),List.drop_length,List.append_nil]
 have h3:Sep E (rowA ps 1 (intL (acE n' l))::rowA lf 1 (intL (F 0))::rowA ou 1 (intL (O 0))::M) w3:=by rw [hO0,hF0];exact h3
 have hsum0:∀ k,0<=sumI ((ade n' l).take k):=fun k=>acy fun y hy=>by
  obtain ⟨i,hi⟩:=List.mem_iff_getElem?.1 (List.mem_of_mem_take hy)
  have hi2:=(List.getElem?_eq_some_iff.1 hi).1
  rw [hTl] at hi2
  obtain ⟨p,_,h5,h6,_⟩:=aiL hr hS (List.getElem?_eq_getElem hi2)
  rw [h5] at hi;cases hi;exact h6
 obtain ⟨hT0,hT1,hT2⟩:=aF0 hr hS hpos
 refine ⟨fun m x w'=>∃ k:Nat,x=k/\k<=l.length/\m=n' - sumI ((ade n' l).take k)/\Sep E (rowA ps 1 (intL (acE n' l))::rowA lf 1 (intL (F k))::rowA ou 1 (intL (O k))::M) w',fun _ x _=>(l.length - x).toNat,⟨0,rfl,Nat.zero_le _,by simp [aiK],h3⟩,?_⟩
 rintro _ _ _ w4 ⟨k,rfl,hk,rfl,h4⟩
 refine bLt (fun hlt=> ?_) (fun hge=> ?_)
 ·have hkl:k<l.length:=by omega
  obtain ⟨x,hx⟩:∃ x,l[k]? =some x:=⟨_,List.getElem?_eq_getElem hkl⟩
  obtain ⟨p,hp,ht,ht0,ht1⟩:=aiL hr hS hx
  have hxa:=hall x (List.mem_of_getElem? hx)
  rw [ag7] at hxa
  have hFk:(F k)[k]? =some x:=by
   rw [hF];simp only
   rw [List.getElem?_append_right (by rw [List.length_take,List.length_zipWith,hTl];omega)]
   simp [hTl,Nat.min_eq_left hk,hx]
  have hOk:(O k)[k]? =some 0:=by
   rw [hO];simp only
   rw [List.getElem?_append_right (by simp;omega)]
   rw [List.length_take,hTl,Nat.min_eq_left hk,Nat.sub_self,List.getElem?_replicate,if_pos (by omega)]
  refine (Ints.at_ (q:=0) rfl (by rw [ac0 hr];exact hps)).el h4 k rfl hp ?_
  refine (Ints.at_ (q:=1) rfl (by rw [hFl k hk];exact hlf)).el h4 k rfl hFk ?_
  refine (Ints.at_ (q:=2) rfl (by rw [hOl k hk];exact hou)).el h4 k rfl hOk ?_
  have em:min1 p x=min p x:=by unfold min1;omega
  rw [em]
  generalize hm:min p x=t at*
  rw [w64 (n:=0+t) (by omega) (by omega)]
  refine elSt (h4.fr 2 rfl) (by rw [hOl k hk];exact hou) (by omega) (by rw [hOl k hk];omega) (fun w5 h5=> ?_)
  have hOs:(O k).set ((k:Nat):Int).toNat (0+t)=O (k+1):=by
   rw [Int.toNat_natCast,Int.zero_add,hO]
   simp only
   rw [aaj ht,List.set_append_right k _ (by simp;omega),List.append_assoc]
   congr 1
   rw [List.length_take,hTl,Nat.min_eq_left hk,Nat.sub_self,show l.length - k=(l.length - (k+1))+1 by omega,List.replicate_succ]
   rfl
  rw [hOs] at h5
  have h5:Sep E (rowA ou 1 (intL (O (k+1)))::rowA ps 1 (intL (acE n' l))::rowA lf 1 (intL (F k))::M) w5:=h5
  refine (Ints.at_ (q:=2) rfl (by rw [hFl k hk];exact hlf)).el h5 k rfl hFk ?_
  rw [w64 (n:=x - t) (by omega) (by omega)]
  refine elSt (h5.fr 2 rfl) (by rw [hFl k hk];exact hlf) (by omega) (by rw [hFl k hk];omega) (fun w6 h6=> ?_)
  have hFs:(F k).set ((k:Nat):Int).toNat (x - t)=F (k+1):=by
   rw [Int.toNat_natCast,hF]
   simp only
   have hz:(List.zipWith (· - ·) l (ade n' l))[k]? =some (x - t):=by simp [List.getElem?_zipWith,hx,ht]
   rw [aaj hz,List.set_append_right k _ (by simp;omega),List.append_assoc]
   congr 1
   rw [List.length_take,List.length_zipWith,hTl,Nat.min_self,Nat.min_eq_left hk,Nat.sub_self]
   rw [List.drop_eq_getElem_cons hkl];rfl
  rw [hFs] at h6
  have h6:Sep E (rowA lf 1 (intL (F (k+1)))::rowA ou 1 (intL (O (k+1)))::rowA ps 1 (intL (acE n' l))::M) w6:=h6
  have hs1:=ai6 ht
  have hs2:=hsum0 k
  have hs3:=hsum0 (k+1)
  have hs4:sumI ((ade n' l).take (k+1))<=sumI (ade n' l):=by
   conv=>rhs;rw [<- List.take_append_drop (k+1) (ade n' l)]
   rw [anU]
   have:0<=sumI ((ade n' l).drop (k+1)):=acy fun y hy=>by
    obtain ⟨i,hi⟩:=List.mem_iff_getElem?.1 (List.mem_of_mem_drop hy)
    have hi2:=(List.getElem?_eq_some_iff.1 hi).1
    rw [hTl] at hi2
    obtain ⟨p,_,h5,h6,_⟩:=aiL hr hS (List.getElem?_eq_getElem hi2)
    rw [h5] at hi;cases hi;exact h6
   omega
  rw [aah (by omega),w64 (by omega) (by omega)]
  refine ⟨⟨k+1,rfl,hkl,by omega,h6.ro 3 [2,0,1] rfl⟩,?_⟩
  show (((l.length:Nat):Int) - ((k+1:Nat):Int)).toNat<(((l.length:Nat):Int) - (k:Int)).toNat
  omega
 ·have hkl:k=l.length:=by omega
  subst hkl
  rw [hOe,hFe] at h4
  have etl:(ade n' l).take l.length=ade n' l:=by rw [<- hTl,List.take_length]
  rw [etl]
  refine ⟨.inr ⟨List.zipWith (· - ·) l (ade n' l),?_,by simp [hTl],?_,?_⟩,by show (n' - sumI (ade n' l)).toNat<n'.toNat;omega⟩
  rotate_left
  ·intro y hy
   obtain ⟨i,hi⟩:=List.mem_iff_getElem?.1 hy
   have hi2:=(List.getElem?_eq_some_iff.1 hi).1
   simp [hTl] at hi2
   obtain ⟨p,_,h5,h6,h7⟩:=aiL hr hS (List.getElem?_eq_getElem hi2)
   have h8:=hall _ (List.getElem_mem hi2)
   rw [List.getElem?_zipWith,List.getElem?_eq_getElem hi2,h5] at hi
   simp only [Option.some.injEq] at hi
   omega
  ·rw [amP hr hS hpos] at h4 ⊢
   exact h4.tail
  ·rcases hT2 with e | e
   ·exact .inl (by omega)
   ·refine .inr ?_
    rw [e]
    have:List.zipWith (· - ·) l l=l.map (fun _=>(0:Int)):=by
     apply List.ext_getElem?
     intro i
     rw [List.getElem?_zipWith,List.getElem?_map]
     cases l[i]? <;>simp
    rw [this]
    have hz:∀ m:List Int,sumI (m.map fun _=>(0:Int))=0:=by
     intro m
     induction m with
     | nil=>rfl
     | cons a m ih=>rw [List.map_cons,ab7,ih];rfl
    exact hz l
theorem aGj {s:Sl} {l:List Int} {n:Int} (hn:s.n=l.length) (hb:l.length<1000000) (h:Sep E (rowA s 1 (intL l)::L) w):
  Calls P ajl #[.int .i64 n,.slice s.p s.n s.c] w (Ret fun v w'=>∃ e:Sl,v= .slice e.p e.n e.c/\e.n=(ab3 n l).length/\Sep E (rowA e 1 (intL (ab3 n l))::rowA s 1 (intL l)::L) w'):=by
 apply axe
 unfold anl
 refine use (aAY hn h) ?_
 rintro _ w1 ⟨rfl,h1⟩
 refine ⟨_,rfl,?_⟩
 cases hr:ace n l with
 | false=>
  have e:ab3 n l= []:=by unfold ab3;rw [if_pos hr]
  rw [e]
  exact bT rfl ⟨⟨none,0,0⟩,rfl,rfl,rowA.none_ h1⟩
 | true=>
  refine bF rfl (Dr.i h1 (fun w4 h4=> ?_))
  have hcl:(ab3 n l).length=l.length:=by
   unfold ab3
   rw [if_neg (by rw [hr];decide)]
   split
   ·simp
   ·split
    ·rfl
    ·exact ac0 hr
  obtain ⟨K,hK⟩:∃ K:Value ->World ->Prop,K=fun v w'=>∃ e:Sl,v= .slice e.p e.n e.c/\e.n=(ab3 n l).length/\Sep E (rowA e 1 (intL (ab3 n l))::rowA s 1 (intL l)::L) w':=⟨_,rfl⟩
  rw [<- hK]
  have A:∃ x:Sl,∃ w5:World,Sem.run P (Instr.makeSlice 22 (.int .i64 ((s.n:Nat):Int)) (.int .i64 ((s.n:Nat):Int))) w4= .ok (.slice x.p x.n x.c) w5/\Calls P aaJ #[.slice s.p s.n s.c] w5 fun e w7=>∃ y:Sl,e= .returned (.slice y.p y.n y.c)/\capT n y x K w7:=by
   refine aeU (n:=s.n) (by omega) h4 (fun x w5 hx h5=> ?_)
   refine use (aDi h5 (q:=1) rfl hn (by omega)) ?_
   rintro _ w7 ⟨y,rfl,hy,h7⟩
   rw [hn] at h7
   refine ⟨y,rfl,aFh hr hy (by omega) h7 (fun w' h'=> ?_)⟩
   rw [hK]
   exact ⟨x,rfl,by omega,h'⟩
  have B:Calls P aaJ #[.slice s.p s.n s.c] w4 fun e w7=>∃ y:Sl,e= .returned (.slice y.p y.n y.c)/\∃ x:Sl,∃ w5:World,Sem.run P (Instr.makeSlice 22 (.int .i64 ((s.n:Nat):Int)) (.int .i64 ((s.n:Nat):Int))) w7= .ok (.slice x.p x.n x.c) w5/\capT n y x K w5:=by
   refine use (aDi h4 (q:=0) rfl hn (by omega)) ?_
   rintro _ w7 ⟨y,rfl,hy,h7⟩
   refine ⟨y,rfl,aeU (n:=s.n) (by omega) h7 (fun x w5 hx h5=> ?_)⟩
   rw [hn] at h5
   refine aFh hr hy (by omega) h5.swap (fun w' h'=> ?_)
   rw [hK]
   exact ⟨x,rfl,by omega,h'⟩
  simp only [and_true]
  repeat' first | exact A | exact B | apply And.intro
end Go.Mp
end
section
set_option maxRecDepth 100000
namespace Go.Mp
open Go Go.Vc Go.Sp Go.Proofs Go.Kc
variable {E:Env} {L:List Asn} {w W:World}
theorem p64 {k:Nat} (h:k<64):2 ^ k<18446744073709551616:=Nat.pow_lt_pow_right (a:=2) (n:=64) (by decide) h
theorem aAz {x k:Nat} (h:x<18446744073709551616) (hk:64<=k):x.testBit k=false:=Nat.testBit_lt_two_pow (Nat.lt_of_lt_of_le h (Nat.pow_le_pow_right (n:=2) (i:=64) (by decide) hk))
def akF (o:Obj):Prop:=∃ (c:Array Value) (t:TypeId) (z:Nat×Nat),o= .cells c t z/\∀ j,j<64 ->c[j]? =some (.int .u8 (Lib.deBruijn64tab.getD j 0:Nat))
theorem akF.cell {w:World} {o:Obj} (h:akF o) (hb:w.heap[2]? =some o) {j:Nat} (hj:j<64):w.cell? ⟨2,j,none⟩=some (.int .u8 (Lib.deBruijn64tab.getD j 0:Nat)):=by
 obtain ⟨c,t,z,rfl,hc⟩:=h
 unfold World.cell?
 dsimp only
 rw [hb]
 simpa using hc j hj
def wdAt (T:List Bool) (j:Nat):Nat:=wd ((T.drop (64*j)).take 64)
def nW (n:Nat):Nat:=(n+63) / 64
def ah8 (T:List Bool):List Value:=(List.range (nW T.length)).map fun j=>Value.int .u64 (wdAt T j:Nat)
theorem af8 (T:List Bool):(ah8 T).length=nW T.length:=by simp [ah8]
theorem agn {T:List Bool} {j:Nat} (h:j<nW T.length):(ah8 T)[j]? =some (.int .u64 (wdAt T j:Nat)):=by simp [ah8,h]
theorem af7 (T:List Bool) (j:Nat):wdAt T j<18446744073709551616:=aHS (by simp;omega)
theorem akv (T:List Bool) (j k:Nat) (hk:k<64):(wdAt T j).testBit k=T.getD (64*j+k) false:=by
 unfold wdAt
 rw [axG,List.getD_eq_getElem?_getD,List.getD_eq_getElem?_getD,List.getElem?_take,if_pos hk,List.getElem?_drop]
theorem aGd {T:List Bool} {i:Nat} (hi:i<T.length):(ah8 T).set (i / 64) (.int .u64 ((wdAt T (i / 64) ^^^ 2 ^ (i % 64):Nat)))=ah8 (T.set i (!T.getD i false)):=by
 apply List.ext_getElem?
 intro j
 have hl:(T.set i (!T.getD i false)).length=T.length:=List.length_set
 by_cases hj:j<nW T.length
 ·have hj':j<nW (T.set i (!T.getD i false)).length:=by rw [hl];exact hj
  rw [agn hj']
  by_cases e:i / 64=j
  ·subst e
   rw [List.getElem?_set_self (by rw [af8];exact hj)]
   congr 3
   apply Nat.eq_of_testBit_eq
   intro k
   by_cases hk:k<64
   ·rw [Nat.testBit_xor,akv _ _ _ hk,akv _ _ _ hk,Nat.testBit_two_pow]
    by_cases e2:i % 64=k
    ·have e3:64*(i / 64)+k=i:=by omega
     rw [decide_eq_true e2,e3,List.getD_eq_getElem?_getD (l:=T.set i _),List.getElem?_set_self hi]
     simp
    ·have e3:i≠64*(i / 64)+k:=by omega
     rw [decide_eq_false e2,List.getD_eq_getElem?_getD (l:=T.set i _),List.getElem?_set_ne e3,<- List.getD_eq_getElem?_getD,Bool.xor_false]
   ·rw [aAz (Nat.xor_lt_two_pow (n:=64) (af7 _ _) (p64 (Nat.mod_lt _ (by decide)))) (by omega),aAz (af7 _ _) (by omega)]
  ·rw [List.getElem?_set_ne e,agn hj]
   congr 3
   apply Nat.eq_of_testBit_eq
   intro k
   by_cases hk:k<64
   ·rw [akv _ _ _ hk,akv _ _ _ hk]
    have e3:i≠64*j+k:=by omega
    rw [List.getD_eq_getElem?_getD (l:=T.set i _),List.getElem?_set_ne e3,<- List.getD_eq_getElem?_getD]
   ·rw [aAz (af7 _ _) (by omega),aAz (af7 _ _) (by omega)]
 ·rw [List.getElem?_eq_none (by rw [List.length_set,af8];omega),List.getElem?_eq_none (by rw [af8,hl];omega)]
def acS (b:Nat) (T:List Bool):Asn:=exA fun s:Sl=>pur (s.n=nW T.length/\T.length<=65536) (star (blk b [.int .i64 (T.length:Nat),.slice s.p s.n s.c]) (rowA s 1 (ah8 T)))
theorem acS.get {b:Nat} {T:List Bool} (h:Sep E (acS b T::L) w):∃ s:Sl,s.n=nW T.length/\T.length<=65536/\Sep E (blk b [.int .i64 (T.length:Nat),.slice s.p s.n s.c]::rowA s 1 (ah8 T)::L) w:=by
 obtain ⟨s,h⟩:=Sep.ex.1 h
 obtain ⟨hn,h⟩:=Sep.pur.1 h
 exact ⟨s,hn.1,hn.2,Sep.star.1 h⟩
theorem acS.mk {b:Nat} {T:List Bool} {s:Sl} (hn:s.n=nW T.length) (hb:T.length<=65536) (h:Sep E (blk b [.int .i64 (T.length:Nat),.slice s.p s.n s.c]::rowA s 1 (ah8 T)::L) w):Sep E (acS b T::L) w:=
 Sep.ex.2 ⟨s,Sep.pur.2 ⟨⟨hn,hb⟩,Sep.star.2 h⟩⟩
theorem aGE {n:Int} :min1 (max1 n 0) 65536=((min (max n 0).toNat 65536:Nat):Int):=by
 unfold min1 max1;split<;>split<;>omega
theorem aCs (k:Nat):wd (List.replicate k false)=0:=by
 induction k with
 | zero=>rfl
 | succ k ih=>rw [List.replicate_succ];unfold wd;rw [ih];rfl
theorem aE5 (n:Int) (h:Sep E L w):Calls P anK #[.int .i64 n] w (Ret fun v w'=>∃ b,v= .pointer (some ⟨b,0,none⟩)/\Sep E (acS b (List.replicate (min (max n 0).toNat 65536) false)::L) w'):=by
 apply aC5
 unfold auA
 rw [aGE]
 generalize hm:min (max n 0).toNat 65536=m
 have hm':m<=65536:=by omega
 have e:(IntKind.i64.wrap ((IntKind.i64.wrap ((m:Int)+64)) - 1)).fdiv (2 ^ (min (6:Int).toNat 64))=((nW m:Nat):Int):=by
  rw [w64 (n:=(m:Int)+64) (by omega) (by omega),w64 (by omega) (by omega),show (m:Int)+64 - 1=((m+63:Nat):Int) by omega]
  exact sh _ 6
 rw [e]
 have hnW:nW m<=2000:=by unfold nW;omega
 refine ⟨by decide,makeSlice.i h (by kernel_rfl:slQ P aCa=some (8,1,[.int .u64 0])) (by omega) (Int.le_refl _) (by omega) (by omega) (fun b w1 h1=> ?_)⟩
 refine Al.i h1 (fun p w2 h2=>⟨p,rfl,?_⟩)
 refine acS.mk (s:=⟨some ⟨b,0,none⟩,nW m,nW m⟩) (by rw [List.length_replicate]) (by rw [List.length_replicate];exact hm') ?_
 rw [List.length_replicate]
 have h3:=h2.swap
 refine Sep.swap (rowA.make (spare:= []) (vs:=ah8 (List.replicate m false)) ?_ (by rw [af8,List.length_replicate,Nat.mul_one]) (by rw [af8,List.length_replicate];simp) (Nat.le_refl _))
 have e2:((List.range (((nW m:Nat):Int).toNat*1)).map fun i=>(([Value.int .u64 0]:List Value).toArray)[i % ([Value.int .u64 0]:List Value).length]!)=ah8 (List.replicate m false)++ []:=by
  rw [List.append_nil]
  unfold ah8
  rw [List.length_replicate,Int.toNat_natCast,Nat.mul_one]
  apply List.map_congr_left
  intro j _
  have:wdAt (List.replicate m false) j=0:=by
   unfold wdAt
   rw [List.drop_replicate,List.take_replicate]
   exact aCs _
  rw [this]
  simp [Nat.mod_one]
 rw [e2] at h3
 exact h3
variable {b:Nat} {T:List Bool}
theorem am2 {q:Nat} (h:Sep E L w) (hq:L[q]? =some (acS b T)):Calls P aen #[.pointer (some ⟨b,0,none⟩)] w (Ret fun v w'=>v= .int .i64 (T.length:Nat)/\w'=w):=by
 apply aw8
 obtain ⟨s,_,_,h1⟩:=acS.get (h.fr q hq)
 exact ⟨_,rfl,_,h1.cell 0,rfl,rfl⟩
theorem at63 (i:Nat):andI .i64 (i:Int) 63=((i % 64:Nat):Int):=by
 have h1:(BitVec.ofInt 64 (i:Int) &&& BitVec.ofInt 64 63).toNat=i % 64:=by
  rw [BitVec.toNat_and,BitVec.ofInt_natCast,BitVec.toNat_ofNat]
  have:(BitVec.ofInt 64 63).toNat=63:=by decide
  rw [this]
  have h2:=Nat.and_two_pow_sub_one_eq_mod (i % 2 ^ 64) 6
  rw [show (2:Nat) ^ 6 - 1=63 by decide] at h2
  rw [h2];omega
 show IntKind.i64.wrap ((BitVec.ofInt 64 (i:Int) &&& BitVec.ofInt 64 63).toNat:Int)=_
 rw [h1];exact w64 (by omega) (by omega)
theorem c_at (i:Nat) (w:World):Calls P alY #[.int .i64 (i:Nat)] w (Ret fun v w'=>v= .tuple #[.int .i64 ((i / 64:Nat):Int),.int .u64 ((2 ^ (i % 64):Nat):Int)]/\w'=w):=by
 apply aEo
 unfold axr
 have hlt:i % 64<64:=Nat.mod_lt _ (by decide)
 have hp:2 ^ (i % 64)<18446744073709551616:=p64 hlt
 rw [at63,u64n (by omega),show ((i:Nat):Int).fdiv (2 ^ (min (6:Int).toNat 64))=((i / 64:Nat):Int) from sh i 6]
 refine ⟨by decide,by omega,?_,rfl⟩
 have e:(min ((i % 64:Nat):Int).toNat 64)=i % 64:=by rw [Int.toNat_natCast];omega
 rw [e,Int.one_mul]
 have e2:((2:Int) ^ (i % 64))=((2 ^ (i % 64):Nat):Int):=by push_cast;rfl
 rw [e2,u64n hp]
theorem aE4 {q:Nat} (h:Sep E L w) (hq:L[q]? =some (acS b T)) (i:Int):Calls P ajf #[.pointer (some ⟨b,0,none⟩),.int .i64 i] w (Ret fun v w'=>v= .bool (decide (0<=i)&&T.getD i.toNat false)/\w'=w):=by
 apply aw7
 unfold anh
 obtain ⟨s,hn,hb,h1⟩:=acS.get (h.fr q hq)
 refine ⟨fun w'=>w'=w/\0<=i/\i<T.length,bLt (fun hh=>⟨by rw [decide_eq_false (by omega)];rfl,rfl⟩) (fun hh=>⟨_,rfl,_,h1.cell 0,bGe (fun hg=>⟨?_,rfl⟩) (fun hg=>⟨rfl,hh,hg⟩)⟩),?_⟩
 ·rw [List.getD_eq_getElem?_getD,List.getElem?_eq_none (by omega)];simp
 ·rintro _ w2 ⟨rfl,h0,hlt⟩
  obtain ⟨n,rfl⟩:∃ n:Nat,i=n:=⟨i.toNat,by omega⟩
  refine use (c_at n w2) ?_
  rintro _ w3 ⟨rfl,rfl⟩
  have hj:n / 64<nW T.length:=by unfold nW;omega
  refine ⟨_,_,rfl,_,rfl,s,h1.cell 1,rowA.el 1 h1 rfl (by omega) (by omega) (fun b' hb' hc=>⟨((wdAt T (n / 64):Nat):Int),?_,?_,rfl⟩)⟩
  ·have:=hc 0 (by decide)
   rw [Nat.add_zero] at this
   rw [this,Nat.mul_one,Int.toNat_natCast,agn hj]
  ·rw [aem (af7 _ _) (p64 (Nat.mod_lt _ (by decide)))]
   have e:wdAt T (n / 64) &&& 2 ^ (n % 64)=if T.getD n false then 2 ^ (n % 64) else 0:=by
    have h5:=akv T (n / 64) (n % 64) (Nat.mod_lt _ (by decide))
    rw [show 64*(n / 64)+n % 64=n by omega] at h5
    unfold wdAt at h5 ⊢
    rw [aIq,<- axG,h5]
   rw [e,decide_eq_true h0,Int.toNat_natCast]
   have hp:(2 ^ (n % 64):Nat)≠0:=Nat.pos_iff_ne_zero.1 (Nat.two_pow_pos _)
   cases T.getD n false with
   | true=>simp only [if_true,Bool.true_and];congr 1;rw [bne_iff_ne];omega
   | false=>simp
def setB (T:List Bool) (i:Int) (on:Bool):List Bool×Bool:=
 if i<0\/(T.length:Int)<=i\/T.getD i.toNat false=on then (T,false) else (T.set i.toNat on,true)
theorem ayJ (h:Sep E (acS b T::L) w) (i:Int) (on:Bool):Calls P ahh #[.pointer (some ⟨b,0,none⟩),.int .i64 i,.bool on] w (Ret fun v w'=>v= .bool (setB T i on).2/\Sep E (acS b (setB T i on).1::L) w'):=by
 apply aw9
 unfold ani
 obtain ⟨s,hn,hb,h1⟩:=acS.get h
 have bad:(i<0\/(T.length:Int)<=i\/T.getD i.toNat false=on) ->Value.bool false= .bool (setB T i on).2/\Sep E (acS b (setB T i on).1::L) w:=by
  intro hh;unfold setB;rw [if_pos hh];exact ⟨rfl,h⟩
 refine ⟨fun w'=>w'=w/\∃ n:Nat,i=n/\n<T.length/\on= !T.getD n false,bLt (fun hh=>bad (.inl hh)) (fun hh=>⟨_,rfl,_,h1.cell 0,bGe (fun hg=>bad (.inr (.inl hg))) (fun hg=> ?_)⟩),?_⟩
 ·refine use (aE4 (q:=0) h rfl i) ?_
  rintro _ w3 ⟨rfl,rfl⟩
  rw [decide_eq_true hh,Bool.true_and]
  refine ⟨_,rfl,?_⟩
  cases he:(T.getD i.toNat false==on) with
  | true=>exact bad (.inr (.inr (by simpa using he)))
  | false=>
   refine ⟨rfl,i.toNat,by omega,by omega,?_⟩
   have:T.getD i.toNat false≠on:=by simpa using he
   revert this
   generalize T.getD i.toNat false=y
   cases y<;>cases on<;>simp
 ·rintro _ w2 ⟨rfl,n,rfl,hlt,rfl⟩
  refine use (c_at n w2) ?_
  rintro _ w3 ⟨rfl,rfl⟩
  have hj:n / 64<nW T.length:=by unfold nW;omega
  have hc0:∀ b',s.p=some ⟨b',0,none⟩ ->(∀ j,j<1 ->w3.cell? ⟨b',((n / 64:Nat):Int).toNat*1+j,none⟩=(ah8 T)[((n / 64:Nat):Int).toNat*1+j]?) ->w3.cell? ⟨b',((n / 64:Nat):Int).toNat*1,none⟩=some (.int .u64 ((wdAt T (n / 64):Nat):Int)):=by
   intro b' _ hc
   have:=hc 0 (by decide)
   rw [Nat.add_zero] at this
   rw [this,Nat.mul_one,Int.toNat_natCast,agn hj]
  refine ⟨_,_,rfl,_,rfl,s,h1.cell 1,rowA.el 1 h1 rfl (by omega) (by omega) (fun b' hb' hc=>⟨_,hc0 b' hb' hc,rowA.el 1 h1 rfl (by omega) (by omega) (fun b2 hb2 _=> ?_)⟩)⟩
  rw [aIU (af7 _ _) (p64 (Nat.mod_lt _ (by decide)))]
  refine rowA.st h1.swap hb2 (by rw [af8,Int.toNat_natCast,Nat.mul_one];exact hj) (fun w4 h4=> ?_)
  have e:setB T (n:Int) (!T.getD n false)=(T.set n (!T.getD n false),true):=by
   unfold setB
   rw [if_neg,Int.toNat_natCast]
   rintro (hh | hh | hh)
   ·omega
   ·omega
   ·rw [Int.toNat_natCast] at hh
    revert hh
    generalize T.getD n false=y
    cases y<;>decide
  rw [e]
  refine ⟨rfl,acS.mk (by rw [List.length_set];exact hn) (by rw [List.length_set];exact hb) ?_⟩
  rw [Int.toNat_natCast,Nat.mul_one,aGd hlt] at h4
  rw [List.length_set]
  exact h4.swap
theorem c_tz {w:World} {o:Obj} (ho:akF o) (hq:w.heap[2]? =some o) {x:Nat} (h0:x≠0) (hx:x<18446744073709551616):Calls P adM #[.int .u64 (x:Nat)] w (Ret fun v w'=>v= .int .i64 (Lib.ctz 64 x:Nat)/\w'=w):=by
 apply akp
 unfold af1
 refine bEq (fun e=>absurd e (by omega)) (fun _=> ?_)
 obtain ⟨hlow,hk⟩:=Lib.lowest_bit 64 x h0 hx
 obtain ⟨hi,htab⟩:=Lib.deBruijn64_at _ hk
 rw [aIn x _ hx h0 hlow]
 have hcell:=ho.cell hq hi
 rw [htab] at hcell
 refine ⟨by decide,⟨2,0,none⟩,rfl,⟨by omega,by exact_mod_cast hi⟩,((Lib.ctz 64 x:Nat):Int),?_,?_,rfl⟩
 ·rw [aad,Nat.zero_add,Nat.mul_one,Int.toNat_natCast];exact hcell
 ·rw [w64 (by omega) (by omega)]
theorem aBv {T:List Bool} :∀ {n i:Nat},(∀ j,j<i ->T[j]? =some true) ->T[i]? =some false ->firstFree n T=some (n+i):=by
 induction T with
 | nil=>intro n i _ h;simp at h
 | cons b T ih=>
  intro n i h1 h2
  unfold firstFree
  cases i with
  | zero=>simp only [List.getElem?_cons_zero,Option.some.injEq] at h2;subst h2;rfl
  | succ i=>
   have h0:=h1 0 (by omega)
   simp only [List.getElem?_cons_zero,Option.some.injEq] at h0
   subst h0
   rw [if_pos rfl,ih (n:=n+1) (i:=i) (fun j hj=>by simpa using h1 (j+1) (by omega)) (by simpa using h2)]
   congr 1;omega
theorem aBu {T:List Bool} :∀ {n:Nat},(∀ j,j<T.length ->T[j]? =some true) ->firstFree n T=none:=by
 induction T with
 | nil=>intro n _;rfl
 | cons b T ih=>
  intro n h
  have h0:=h 0 (by simp)
  simp only [List.getElem?_cons_zero,Option.some.injEq] at h0
  subst h0
  unfold firstFree
  rw [if_pos rfl]
  exact ih (fun j hj=>by simpa using h (j+1) (by simpa using hj))
theorem aD6 {o:Obj} (ho:akF o) {q:Nat} (h:Sep E L w) (hq:L[q]? =some (acS b T)) (hq':w.heap[2]? =some o):Calls P aiD #[.pointer (some ⟨b,0,none⟩),.int .i64 0,.bool false] w
  (Ret fun v w'=>v= .int .i64 (match firstFree 0 T with | some i=>(i:Int) | none=> -1)/\w'=w):=by
 apply avq
 unfold amG
 obtain ⟨s,hn,hb,h1⟩:=acS.get (h.fr q hq)
 have hnW:nW T.length<=2000:=by unfold nW;omega
 refine ⟨_,rfl,s,h1.cell 1,?_⟩
 refine ⟨fun x w'=>w'=w/\∃ j:Nat,x=j/\j<=nW T.length/\∀ i,i<64*j ->i<T.length ->T[i]? =some true,fun x _=>(nW T.length - x).toNat,⟨rfl,0,rfl,Nat.zero_le _,fun i hi=>by omega⟩,?_⟩
 rintro _ x w1 ⟨rfl,j,rfl,hj,hall⟩
 have e1:IntKind.i64.wrap ((j:Int)+1)=((j+1:Nat):Int):=by rw [w64 (by omega) (by omega)];omega
 refine bLt (fun hlt=> ?_) (fun hge=> ?_)
 ·have hj':j<nW T.length:=by omega
  refine ⟨_,rfl,s,h1.cell 1,rowA.el 1 h1 rfl (by omega) (by omega) (fun b' hb' hc=>⟨((wdAt T j:Nat):Int),?_,?_⟩)⟩
  ·have:=hc 0 (by decide)
   rw [Nat.add_zero] at this
   rw [this,Nat.mul_one,Int.toNat_natCast,agn hj']
  ·generalize hy:(18446744073709551615 ^^^ wdAt T j)=y
   have hylt:y<18446744073709551616:=by rw [<- hy];exact Nat.xor_lt_two_pow (n:=64) (by decide) (af7 _ _)
   have hbit:∀ k,k<64 ->y.testBit k= !T.getD (64*j+k) false:=fun k hk=>by rw [<- hy,aGr hk,akv _ _ _ hk]
   have next:(∀ i,i<64*(j+1) ->i<T.length ->T[i]? =some true) ->(∃ j':Nat,IntKind.i64.wrap ((j:Int)+1)=j'/\j'<=nW T.length/\∀ i,i<64*j' ->i<T.length ->T[i]? =some true):=fun hh=>⟨j+1,e1,hj',hh⟩
   have hm:max1 0 0=0:=by decide
   have hsh:IntKind.i64.wrap ((j:Int)*2 ^ (min (6:Int).toNat 64))=((64*j:Nat):Int):=by
    have:((j:Int)*2 ^ (min (6:Int).toNat 64))=((64*j:Nat):Int):=by
     show (j:Int)*2 ^ 6=_
     omega
    rw [this];exact w64 (by omega) (by omega)
   refine ⟨fun x w'=>x=(y:Nat)/\w'=w1,?_,?_⟩
   ·refine bT rfl ⟨?_,rfl⟩
    rw [aIE (af7 _ _),hy]
   ·rintro _ _ w2 ⟨rfl,rfl⟩
    rw [hm,hsh]
    refine ⟨fun x w'=>x=(y:Nat)/\w'=w2,⟨by decide,?_⟩,?_⟩
    ·rw [w64 (by omega) (by omega)]
     refine bGe (fun hh=>absurd hh (by omega)) (fun _=>bGt (fun hh=>absurd hh (by omega)) (fun _=>⟨rfl,rfl⟩))
    ·rintro _ _ w3 ⟨rfl,rfl⟩
     refine bEq (fun e=> ?_) (fun e=> ?_)
     ·
      have e:y=0:=by omega
      refine ⟨⟨rfl,next (fun i hi hit=> ?_)⟩,by dsimp only;rw [e1];omega⟩
      rcases Nat.lt_or_ge i (64*j) with h2 | h2
      ·exact hall i h2 hit
      ·have:=hbit (i - 64*j) (by omega)
       rw [e,Nat.zero_testBit,show 64*j+(i - 64*j)=i by omega,List.getD_eq_getElem?_getD,List.getElem?_eq_getElem hit] at this
       rw [List.getElem?_eq_getElem hit]
       simp at this
       rw [this]
     ·have hy0:y≠0:=by omega
      refine ⟨by decide,use (c_tz ho hq' hy0 hylt) ?_⟩
      rintro _ w4 ⟨rfl,rfl⟩
      obtain ⟨hk,hk1,hk2⟩:=aHE hy0 hylt
      generalize Lib.ctz 64 y=k at*
      have e2:IntKind.i64.wrap ((((64*j:Nat):Int))+((k:Nat):Int))=((64*j+k:Nat):Int):=by rw [w64 (by omega) (by omega)];omega
      refine ⟨_,rfl,_,rfl,_,h1.cell 0,?_⟩
      rw [e2]
      have hup:∀ i,i<64*j+k ->i<T.length ->T[i]? =some true:=by
       intro i hi hit
       rcases Nat.lt_or_ge i (64*j) with h2 | h2
       ·exact hall i h2 hit
       ·have:=hk2 (i - 64*j) (by omega)
        rw [hbit _ (by omega),show 64*j+(i - 64*j)=i by omega,List.getD_eq_getElem?_getD,List.getElem?_eq_getElem hit] at this
        rw [List.getElem?_eq_getElem hit]
        simp at this
        rw [this]
      refine bLt (fun hin=> ?_) (fun hout=> ?_)
      ·have hin:64*j+k<T.length:=by omega
       have:T[64*j+k]? =some false:=by
        rw [hbit _ hk,List.getD_eq_getElem?_getD,List.getElem?_eq_getElem hin] at hk1
        rw [List.getElem?_eq_getElem hin]
        simp at hk1
        rw [hk1]
       rw [aBv (n:=0) (fun i hi=>hup i hi (by omega)) this]
       refine ⟨?_,rfl⟩
       dsimp only
       rw [Nat.zero_add]
      ·refine ⟨⟨rfl,next (fun i hi hit=>hup i (by omega) hit)⟩,by dsimp only;rw [e1];omega⟩
 ·have:j=nW T.length:=by omega
  subst this
  rw [aBu (fun i hi=>hall i (by unfold nW;omega) hi)]
  exact ⟨rfl,rfl⟩
def abb (p:Nat) (T:List Bool):Asn:=exA fun b:Nat=>pur (T.length<=1024) (star (blk p [.pointer (some ⟨b,0,none⟩)]) (acS b T))
theorem abb.get {p:Nat} {T:List Bool} (h:Sep E (abb p T::L) w):∃ b,T.length<=1024/\Sep E (blk p [.pointer (some ⟨b,0,none⟩)]::acS b T::L) w:=by
 obtain ⟨b,h⟩:=Sep.ex.1 h
 obtain ⟨hn,h⟩:=Sep.pur.1 h
 exact ⟨b,hn,Sep.star.1 h⟩
theorem abb.mk {p b:Nat} {T:List Bool} (hn:T.length<=1024) (h:Sep E (blk p [.pointer (some ⟨b,0,none⟩)]::acS b T::L) w):Sep E (abb p T::L) w:=Sep.ex.2 ⟨b,Sep.pur.2 ⟨hn,Sep.star.2 h⟩⟩
theorem aFc (n:Int) (h:Sep E L w):Calls P anL #[.int .i64 n] w (Ret fun v w'=>∃ p,v= .pointer (some ⟨p,0,none⟩)/\Sep E (abb p (pNew n)::L) w'):=by
 apply aC7
 unfold auC
 refine use (aE5 (min1 n 1024) h) ?_
 rintro _ w1 ⟨b,rfl,h1⟩
 have e:(min (max (min1 n 1024) 0).toNat 65536)=min (max n 0).toNat 1024:=by unfold min1;split<;>omega
 rw [e] at h1
 exact ⟨_,rfl,Al.i h1 (fun p w2 h2=>⟨p,rfl,abb.mk (by unfold pNew;rw [List.length_replicate];omega) h2⟩)⟩
variable {p:Nat}
theorem aEa {o:Obj} (ho:akF o) (h:Sep E (abb p T::L) w) (hq:w.heap[2]? =some o):Calls P acG #[.pointer (some ⟨p,0,none⟩)] w
  (Ret fun v w'=>v= .tuple #[.int .i64 (abq T).2.1,.int .i64 (abq T).2.2]/\Sep E (abb p (abq T).1::L) w'):=by
 apply atV
 unfold alN
 obtain ⟨b,hb,h2⟩:=abb.get h
 refine ⟨_,rfl,_,h2.cell 0,use (aD6 ho (q:=1) h2 rfl hq) ?_⟩
 rintro _ w2 ⟨rfl,rfl⟩
 refine ⟨_,rfl,?_⟩
 unfold abq
 cases hf:firstFree 0 T with
 | none=>exact bLt (fun _=>⟨rfl,h⟩) (fun hh=>absurd hh (by decide))
 | some i=>
  dsimp only
  obtain ⟨_,hi,_⟩:=aki hf
  rw [Nat.sub_zero] at hi
  have hil:=(List.getElem?_eq_some_iff.1 hi).1
  refine bLt (fun hh=>absurd hh (by omega)) (fun _=>⟨_,rfl,_,h2.cell 0,use (ayJ h2.swap (i:Int) true) ?_⟩)
  rintro _ w3 ⟨rfl,h3⟩
  have e:setB T (i:Int) true=(T.set i true,true):=by
   unfold setB
   rw [if_neg,Int.toNat_natCast]
   rintro (hh | hh | hh)
   ·omega
   ·omega
   ·rw [Int.toNat_natCast,List.getD_eq_getElem?_getD,hi] at hh;cases hh
  rw [e] at h3
  exact ⟨_,rfl,rfl,abb.mk (by rw [List.length_set];exact hb) h3.swap⟩
theorem aD9 (h:Sep E (abb p T::L) w) (i:Int):Calls P aig #[.pointer (some ⟨p,0,none⟩),.int .i64 i] w
  (Ret fun v w'=>v= .int .i64 (afa T i).2/\Sep E (abb p (afa T i).1::L) w'):=by
 apply atU
 unfold alM
 obtain ⟨b,hb,h2⟩:=abb.get h
 refine ⟨fun x w'=>w'=w/\x=decide (i<0\/(T.length:Int)<=i),bLt (fun hh=>⟨rfl,by rw [decide_eq_true (.inl hh)]⟩) (fun hh=>⟨_,rfl,_,h2.cell 0,use (am2 (q:=1) h2 rfl) ?_⟩),?_⟩
 ·rintro _ w2 ⟨rfl,rfl⟩
  refine ⟨_,rfl,rfl,?_⟩
  by_cases hg:(T.length:Int)<=i
  ·rw [decide_eq_true (show i≥(T.length:Int) from hg),decide_eq_true (.inr hg)]
  ·rw [decide_eq_false (show ¬ i≥(T.length:Int) from hg),decide_eq_false (by omega)]
 ·rintro _ x w2 ⟨rfl,rfl⟩
  unfold afa
  by_cases hbad:i<0\/(T.length:Int)<=i
  ·rw [decide_eq_true hbad,if_pos hbad];exact ⟨rfl,h⟩
  ·rw [decide_eq_false hbad,if_neg hbad]
   refine ⟨_,rfl,_,h2.cell 0,use (ayJ h2.swap i false) ?_⟩
   rintro _ w3 ⟨rfl,h3⟩
   refine ⟨_,rfl,?_⟩
   unfold setB at h3 ⊢
   by_cases hf:T.getD i.toNat false=false
   ·rw [if_pos (.inr (.inr hf))] at h3 ⊢
    rw [if_pos hf]
    exact ⟨rfl,abb.mk hb h3.swap⟩
   ·have hn:¬ (i<0\/(T.length:Int)<=i\/T.getD i.toNat false=false):=by
     rintro (hh | hh | hh)
     ·exact hbad (.inl hh)
     ·exact hbad (.inr hh)
     ·exact hf hh
    rw [if_neg hn] at h3 ⊢
    rw [if_neg hf]
    exact ⟨rfl,abb.mk (by rw [List.length_set];exact hb) h3.swap⟩
end Go.Mp
end
section
set_option maxRecDepth 100000
namespace Go.Mp
open Go Go.Vc Go.Sp Go.Proofs Go.Kc
variable {E:Env} {L:List Asn} {w W:World}
structure CRow where
 c:Cnt
 failed:Int
 peak:Int
def CRow.vs (r:CRow):List Value:= [.int .i64 r.c.use,.int .i64 r.c.limit,.int .i64 r.failed,.int .i64 r.peak]
theorem CRow.vs4 (r:CRow):r.vs.length=4:=rfl
def cntA (b:Nat) (C:List Cnt):Asn:=exA fun R:List CRow=>pur (R.map CRow.c=C/\aco C) (blk b (recs CRow.vs R))
theorem cntA.get {b:Nat} {C:List Cnt} (h:Sep E (cntA b C::L) w):∃ R:List CRow,R.map CRow.c=C/\aco C/\R.length=64/\Sep E (blk b (recs CRow.vs R)::L) w:=by
 obtain ⟨R,h⟩:=Sep.ex.1 h
 obtain ⟨hn,h⟩:=Sep.pur.1 h
 refine ⟨R,hn.1,hn.2,?_,h⟩
 have:=hn.2.len
 rw [<- hn.1,List.length_map] at this;exact this
theorem cntA.mk {b:Nat} {C:List Cnt} {R:List CRow} (h1:R.map CRow.c=C) (h2:aco C) (h:Sep E (blk b (recs CRow.vs R)::L) w):Sep E (cntA b C::L) w:=Sep.ex.2 ⟨R,Sep.pur.2 ⟨⟨h1,h2⟩,h⟩⟩
theorem cntA.ok {b:Nat} {C:List Cnt} {q:Nat} (h:Sep E L w) (hq:L[q]? =some (cntA b C)):aco C:=let ⟨_,_,h2,_⟩:=cntA.get (h.fr q hq);h2
theorem auW (g:Int) (w:World):Calls P aeS #[.int .i64 g] w (Ret fun v w'=>v= .bool (isG g)/\w'=w):=by
 apply avx
 unfold amH isG
 exact bLe (fun h=>⟨by rw [decide_eq_true h];rfl,rfl⟩) (fun h=>⟨by rw [decide_eq_false (by omega)];rfl,rfl⟩)
theorem ayK (g:Int) (w:World):Calls P afH #[.int .i64 g] w (Ret fun v w'=>v= .bool (isA g)/\w'=w):=by
 apply atO
 unfold alH isA top
 exact bLe (fun h=>⟨by rw [decide_eq_true h];rfl,rfl⟩) (fun h=>⟨by rw [decide_eq_false (by omega)];rfl,rfl⟩)
variable {b:Nat} {C:List Cnt}
theorem ays {R:List CRow} (h1:R.map CRow.c=C) {g:Int} (hg:isG g=true) {r:CRow} (hr:R[g.toNat]? =some r):cOf C g=r.c:=by
 unfold cOf
 rw [hg,if_pos rfl,<- h1,List.getD_eq_getElem?_getD,List.getElem?_map,hr];rfl
theorem c_of {q:Nat} (h:Sep E L w) (hq:L[q]? =some (cntA b C)) (g:Int):Calls P aeo #[.pointer (some ⟨b,0,none⟩),.int .i64 g] w
  (Ret fun v w'=>∃ f k:Int,v= .agg #[.int .i64 (cOf C g).use,.int .i64 (cOf C g).limit,.int .i64 f,.int .i64 k]/\Sep E L w'):=by
 apply aon
 unfold aiT
 refine Al.i h (fun p w1 h1=>use (auW g w1) ?_)
 rintro _ w2 ⟨rfl,rfl⟩
 refine ⟨_,rfl,?_⟩
 cases hg:isG g with
 | false=>
  refine bifT (zst _ h1 rfl (fun w3 h3=>⟨_,by rw [aad,h3.cell];rfl,_,by rw [aad,h3.cell];rfl,_,by rw [aad,h3.cell];rfl,_,by rw [aad,h3.cell];rfl,?_⟩))
  have e:cOf C g=⟨0,0⟩:=by unfold cOf;rw [hg];rfl
  rw [e]
  exact ⟨0,0,rfl,h3.tail⟩
 | true=>
  obtain ⟨R,hR,hok,hlen,h2⟩:=cntA.get (h1.fr (q+1) (by simpa using hq))
  have hgg:=abP.1 hg
  refine bifF ⟨_,rfl,ags (q:=0) CRow.vs4 h2 rfl hlen hgg.1 (by exact_mod_cast hgg.2) (fun r hr hc=> ?_)⟩
  refine ⟨_,by rw [aad];exact hc 0 _ rfl,_,by rw [aad];exact hc 1 _ rfl,_,by rw [aad];exact hc 2 _ rfl,_,by rw [aad];exact hc 3 _ rfl,?_⟩
  refine zst _ h1 rfl (fun w3 h3=>⟨_,by rw [aad,h3.cell];rfl,_,by rw [aad,h3.cell];rfl,_,by rw [aad,h3.cell];rfl,_,by rw [aad,h3.cell];rfl,?_⟩)
  rw [ays hR hg hr]
  exact ⟨_,_,rfl,h3.tail⟩
theorem aAw {q:Nat} (h:Sep E L w) (hq:L[q]? =some (cntA b C)) (g:Int):Calls P acX #[.pointer (some ⟨b,0,none⟩),.int .i64 g] w (Ret fun v w'=>v= .int .i64 (cUse C g)/\Sep E L w'):=by
 apply anP
 unfold ais
 refine use (c_of h hq g) ?_
 rintro _ w1 ⟨f,k,rfl,h1⟩
 exact ⟨_,_,_,_,rfl,rfl,h1⟩
theorem aHn {q:Nat} (h:Sep E L w) (hq:L[q]? =some (cntA b C)) (g:Int):Calls P aeR #[.pointer (some ⟨b,0,none⟩),.int .i64 g] w (Ret fun v w'=>v= .int .i64 (aab C g)/\Sep E L w'):=by
 apply amA
 unfold ahI
 refine use (c_of h hq g) ?_
 rintro _ w1 ⟨f,k,rfl,h1⟩
 exact ⟨_,_,_,_,rfl,rfl,h1⟩
theorem avQ {R:List CRow} (h1:R.map CRow.c=C) {g:Int} {r r':CRow} (hr:R[g.toNat]? =some r) (f:Cnt ->Cnt) (hf:r'.c=f r.c):(R.set g.toNat r').map CRow.c=cSet C g f:=by
 unfold cSet
 have:C.getD g.toNat ⟨0,0⟩=r.c:=by rw [<- h1,List.getD_eq_getElem?_getD,List.getElem?_map,hr];rfl
 rw [this,<- hf,<- h1,List.map_set]
theorem as4 {R:List CRow} {F:World ->Prop} (h:Sep E (blk b (recs CRow.vs R)::L) w) {k j:Nat} {r r':CRow} {v:Value} (hr:R[k]? =some r) (hj:j<4) (hr':r'.vs=r.vs.set j v) (kk:∀ w1,Sep E (blk b (recs CRow.vs (R.set k r'))::L) w1 ->F w1):St ((⟨b,k*4,none⟩:Addr).add j) v F w:=by
 have hlt:=(List.getElem?_eq_some_iff.1 hr).1
 rw [aad]
 refine St.i h ?_ (fun w1 h1=>kk w1 ?_)
 ·rw [ag5 CRow.vs4]
  have:(k+1)*4<=R.length*4:=Nat.mul_le_mul_right _ hlt
  omega
 ·rw [avM CRow.vs4 hr hj hr'] at h1;exact h1
theorem awn (h:Sep E (cntA b C::L) w) (g n:Int):Calls P acP #[.pointer (some ⟨b,0,none⟩),.int .i64 g,.int .i64 n] w
  (Ret fun v w'=>v= .int .i64 (aaK C g n).2/\Sep E (cntA b (aaK C g n).1::L) w'):=by
 apply akO
 unfold agd
 have hok:=(cntA.ok (q:=0) h rfl).setLimit g n
 unfold aaK at hok ⊢
 refine ⟨fun w'=>w'=w/\isG g=true/\isA n=true,use (auW g w) ?_,?_⟩
 ·rintro _ w1 ⟨rfl,rfl⟩
  refine ⟨_,rfl,?_⟩
  cases hg:isG g with
  | false=>exact bifT ⟨rfl,h⟩
  | true=>
   refine bifF (use (ayK n w1) ?_)
   rintro _ w2 ⟨rfl,rfl⟩
   refine ⟨_,rfl,?_⟩
   cases hn:isA n with
   | false=>exact bifT ⟨rfl,h⟩
   | true=>exact bifF ⟨rfl,rfl,rfl⟩
 ·rintro _ w2 ⟨rfl,hg,hn⟩
  rw [hg,hn] at hok ⊢
  obtain ⟨R,hR,hC,hlen,h2⟩:=cntA.get h
  have hgg:=abP.1 hg
  refine ⟨_,rfl,ags (q:=0) CRow.vs4 h2 rfl hlen hgg.1 (by exact_mod_cast hgg.2) (fun r hr hc=> ?_)⟩
  exact as4 (r':=⟨{r.c with limit:=n},r.failed,r.peak⟩) h2 hr (by decide) rfl (fun w3 h3=>⟨rfl,cntA.mk (avQ hR hr (fun x=> {x with limit:=n}) rfl) hok h3⟩)
theorem aAU (h:Sep E L w):Calls P akk #[] w (Ret fun v w'=>∃ p,v= .pointer (some ⟨p,0,none⟩)/\Sep E (cntA p cNew::L) w'):=by
 apply ayi
 unfold aoy
 refine Al.i h (fun p w1 h1=> ?_)
 have h1:Sep E (blk p (recs CRow.vs (List.replicate 64 ⟨⟨0,0⟩,0,0⟩))::L) w1:=h1
 refine ⟨fun x w'=>∃ j:Nat,x=j/\j<=64/\Sep E (blk p (recs CRow.vs (List.replicate j ⟨⟨0,top⟩,0,0⟩++List.replicate (64 - j) ⟨⟨0,0⟩,0,0⟩))::L) w',fun x _=>(64 - x).toNat,⟨0,rfl,by omega,h1⟩,?_⟩
 rintro _ x w2 ⟨j,rfl,hj,h2⟩
 refine bLt (fun hlt=> ?_) (fun hge=> ?_)
 ·have hlt:j<64:=by omega
  refine ⟨_,rfl,ags (q:=0) CRow.vs4 h2 rfl (by simp;omega) (by omega) (by omega) (fun r hr hc=> ?_)⟩
  rw [Int.toNat_natCast] at hr ⊢
  have hr0:r=⟨⟨0,0⟩,0,0⟩:=by
   rw [List.getElem?_append_right (by simp),List.length_replicate,Nat.sub_self,List.getElem?_replicate,if_pos (by omega)] at hr
   exact (Option.some.inj hr).symm
  subst hr0
  refine as4 (r':=⟨⟨0,top⟩,0,0⟩) h2 hr (by decide) rfl (fun w3 h3=> ?_)
  have e:(List.replicate j (⟨⟨0,top⟩,0,0⟩:CRow)++List.replicate (64 - j) (⟨⟨0,0⟩,0,0⟩:CRow)).set j (⟨⟨0,top⟩,0,0⟩:CRow)=List.replicate (j+1) (⟨⟨0,top⟩,0,0⟩:CRow)++List.replicate (64 - (j+1)) (⟨⟨0,0⟩,0,0⟩:CRow):=by
   rw [List.set_append_right _ _ (by simp),List.length_replicate,Nat.sub_self,show 64 - j=(64 - (j+1))+1 by omega,List.replicate_succ,List.set_cons_zero,List.replicate_succ',List.append_assoc]
   rfl
  rw [e] at h3
  exact ⟨⟨j+1,aah (by omega),by omega,h3⟩,by dsimp only;rw [aah (by omega)];omega⟩
 ·have:j=64:=by omega
  subst this
  exact ⟨p,rfl,cntA.mk (by rw [Nat.sub_self];simp [cNew]) aco.new h2⟩
def metV (met:Int ->Bool):List Value:=(List.range 64).map fun i:Nat=>Value.bool (met i)
theorem aw6 {l:List Int} {k:Nat} {x:Int} (hx:l[k]? =some x) (h:nodupB (l.take k)=true):nodupB (l.take (k+1))= !(l.take k).contains x:=by
 rw [aaj hx]
 cases hc:(l.take k).contains x with
 | true=>
  cases hh:nodupB (l.take k++ [x]) with
  | false=>rfl
  | true=>
   rw [ah4,List.nodup_append] at hh
   have:=hh.2.2 x (by simpa using hc) x (by simp)
   exact absurd rfl this
 | false=>
  show nodupB _=true
  rw [ah4] at h ⊢
  rw [List.nodup_append]
  refine ⟨h,by simp,fun a ha c hc' e=> ?_⟩
  rw [List.mem_singleton] at hc'
  subst hc' e
  have:=List.contains_iff_mem.2 ha
  rw [hc] at this;cases this
theorem aFD {l:List Int} {k:Nat} (h:nodupB (l.take k)=false):nodupB l=false:=by
 cases hh:nodupB l with
 | false=>rfl
 | true=>
  rw [ah4] at hh
  have:(l.take k).Nodup:=hh.sublist (List.take_sublist k l)
  rw [<- ah4,h] at this;cases this
theorem aDu {s:Sl} {l:List Int} (hI:Ints E L s l) (hb:l.length<4611686018427387904) (n:Int) (h:Sep E L w):Calls P agB #[.slice s.p s.n s.c,.int .i64 n] w (Ret fun v w'=>v= .bool (ab2 l n)/\Sep E L w'):=by
 apply avy
 unfold amI
 refine Al.i h (fun p w1 h1=> ?_)
 have h1:Sep E (blk p (metV fun _=>false)::L) w1:=h1
 have hn:=hI.1
 refine ⟨fun x w'=>∃ k:Nat,x=k/\k<=l.length/\(l.take k).all isG=true/\nodupB (l.take k)=true/\Sep E (blk p (metV fun i=>(l.take k).contains i)::L) w',fun x _=>(l.length - x).toNat,⟨0,rfl,Nat.zero_le _,by simp,by simp [nodupB],by simpa using h1⟩,?_⟩
 rintro _ x w2 ⟨k,rfl,hk,hall,hnd,h2⟩
 refine bLt (fun hlt=> ?_) (fun hge=> ?_)
 ·obtain ⟨y,hy⟩:∃ y,l[k]? =some y:=⟨_,List.getElem?_eq_getElem (by omega)⟩
  refine (hI.cons (A:=blk p (metV fun i=>(l.take k).contains i))).el h2 k rfl hy (use (auW y w2) ?_)
  rintro _ w3 ⟨rfl,rfl⟩
  refine ⟨_,rfl,?_⟩
  cases hg:isG y with
  | false=>
   refine bifT ⟨?_,h2.tail⟩
   have:l.all isG=false:=by
    cases hh:l.all isG with
    | false=>rfl
    | true=>have:=List.all_eq_true.1 hh y (List.mem_of_getElem? hy);rw [hg] at this;cases this
   unfold ab2;rw [this];rfl
  | true=>
   have hgg:=abP.1 hg
   have hcell:∀ (f:Int ->Bool) {w':World},Sep E (blk p (metV f)::L) w' ->w'.cell? ((⟨p,0,none⟩:Addr).add (y.toNat*1))=some (.bool (f y)):=by
    intro f w' hs
    rw [aad,hs.cell,Nat.zero_add,Nat.mul_one]
    unfold metV
    rw [List.getElem?_map,List.getElem?_range (by omega)]
    simp only [Option.map_some]
    rw [show ((y.toNat:Nat):Int)=y by omega]
   refine bifF ⟨_,rfl,⟨hgg.1,by exact_mod_cast hgg.2⟩,_,hcell _ h2,?_⟩
   cases hc:(l.take k).contains y with
   | true=>
    refine bifT ⟨?_,h2.tail⟩
    have:nodupB l=false:=aFD (k:=k+1) (by rw [aw6 hy hnd,hc];rfl)
    unfold ab2;rw [this,Bool.and_false];rfl
   | false=>
    refine bifF ⟨_,rfl,⟨hgg.1,by exact_mod_cast hgg.2⟩,?_⟩
    refine St.j h2 (by unfold metV;simp;omega) (fun w4 h4=> ?_)
    have e:(metV fun i=>(l.take k).contains i).set (0+y.toNat*1) (.bool true)=metV fun i=>(l.take (k+1)).contains i:=by
     rw [Nat.zero_add,Nat.mul_one,aaj hy]
     apply List.ext_getElem?
     intro i
     unfold metV
     rw [List.getElem?_set]
     by_cases hi:i<64
     ·by_cases hyi:y.toNat=i
      ·subst hyi
       rw [if_pos rfl,if_pos (by simp;omega),List.getElem?_map,List.getElem?_range hi]
       simp only [Option.map_some,List.contains_append]
       rw [show ((y.toNat:Nat):Int)=y by omega];simp
      ·rw [if_neg hyi,List.getElem?_map,List.getElem?_map,List.getElem?_range hi]
       simp only [Option.map_some,List.contains_append]
       have:([y].contains ((i:Nat):Int))=false:=by simp;omega
       rw [this,Bool.or_false]
     ·rw [if_neg (by omega),List.getElem?_eq_none (by simp;omega),List.getElem?_eq_none (by simp;omega)]
    rw [e] at h4
    refine ⟨⟨k+1,aah (by omega),by omega,?_,?_,h4⟩,by dsimp only;rw [aah (by omega)];omega⟩
    ·rw [aaj hy,List.all_append,hall];simp [hg]
    ·rw [aw6 hy hnd,hc];rfl
 ·have:k=l.length:=by omega
  subst this
  rw [List.take_length] at hall hnd
  refine use (ayK n w2) ?_
  rintro _ w3 ⟨rfl,rfl⟩
  refine ⟨_,rfl,?_,h2.tail⟩
  unfold ab2;rw [hall,hnd];rfl
theorem aDp {s:Sl} {l:List Int} (hI:Ints E L s l) (hb:l.length<4611686018427387904) (hl:∀ g∈l,0<=g/\g<64) {is:Value} {isB:Cnt ->Bool} (hok:aco C)
  (hIs:∀ (x:Cnt) f k w',(0<=x.use/\x.use<=top)/\0<=x.limit/\x.limit<=top ->Sep E (cntA b C::L) w' ->abo P is #[.agg #[.int .i64 x.use,.int .i64 x.limit,.int .i64 f,.int .i64 k]] w' (Ret fun v w''=>v= .bool (isB x)/\Sep E (cntA b C::L) w''))
  (h:Sep E (cntA b C::L) w):Calls P adk #[.pointer (some ⟨b,0,none⟩),.slice s.p s.n s.c,is] w
  (Ret fun v w'=>v= .int .i64 (match l.find? (fun g=>isB (C.getD g.toNat ⟨0,0⟩)) with | some g=>g | none=> -1)/\Sep E (cntA b C::L) w'):=by
 apply amC
 unfold ahK
 have hn:=hI.1
 refine ⟨fun x w'=>∃ k:Nat,x=k/\k<=l.length/\(∀ g∈l.take k,isB (C.getD g.toNat ⟨0,0⟩)=false)/\Sep E (cntA b C::L) w',fun x _=>(l.length - x).toNat,⟨0,rfl,Nat.zero_le _,by simp,h⟩,?_⟩
 rintro _ x w2 ⟨k,rfl,hk,hno,h2⟩
 refine bLt (fun hlt=> ?_) (fun hge=> ?_)
 ·obtain ⟨y,hy⟩:∃ y,l[k]? =some y:=⟨_,List.getElem?_eq_getElem (by omega)⟩
  have hyl:=hl y (List.mem_of_getElem? hy)
  refine (hI.cons (A:=cntA b C)).el h2 k rfl hy ?_
  obtain ⟨R,hR,hC,hlen,h3⟩:=cntA.get h2
  refine ⟨_,rfl,ags (q:=0) CRow.vs4 h3 rfl hlen hyl.1 (by exact_mod_cast hyl.2) (fun r hr hc=> ?_)⟩
  refine ⟨_,by rw [aad];exact hc 0 _ rfl,_,by rw [aad];exact hc 1 _ rfl,_,by rw [aad];exact hc 2 _ rfl,_,by rw [aad];exact hc 3 _ rfl,?_⟩
  have hrc:C.getD y.toNat ⟨0,0⟩=r.c:=by rw [<- hR,List.getD_eq_getElem?_getD,List.getElem?_map,hr];rfl
  have hro:=hok.ok r.c (by rw [<- hR];exact List.mem_map.2 ⟨r,List.mem_of_getElem? hr,rfl⟩)
  have hcall:=hIs r.c r.failed r.peak w2 hro h2
  obtain ⟨fn,ca,e1,e2,e3⟩:=hcall
  refine ⟨fn,ca,e1,e2,use e3 ?_⟩
  rintro _ w4 ⟨rfl,h4⟩
  refine ⟨_,rfl,?_⟩
  cases hb':isB r.c with
  | true=>
   refine bifT ⟨?_,h4⟩
   have:l.find? (fun g=>isB (C.getD g.toNat ⟨0,0⟩))=some y:=by
    rw [<- List.take_append_drop k l,List.find?_append]
    have h5:(l.take k).find? (fun g=>isB (C.getD g.toNat ⟨0,0⟩))=none:=by rw [List.find?_eq_none];intro g hg;rw [hno g hg];decide
    rw [h5,List.drop_eq_getElem_cons (by omega:k<l.length)]
    have:l[k]'(by omega)=y:=by have:=List.getElem?_eq_getElem (l:=l) (i:=k) (by omega);rw [hy] at this;exact (Option.some.inj this).symm
    rw [this,List.find?_cons,hrc,hb'];rfl
   rw [this]
  | false=>
   refine bifF ⟨⟨k+1,aah (by omega),by omega,?_,h4⟩,by dsimp only;rw [aah (by omega)];omega⟩
   intro g hg
   rw [aaj hy] at hg
   rcases List.mem_append.1 hg with hg | hg
   ·exact hno g hg
   ·rw [List.mem_singleton] at hg;subst hg;rw [hrc];exact hb'
 ·have:k=l.length:=by omega
  subst this
  rw [List.take_length] at hno
  have:l.find? (fun g=>isB (C.getD g.toNat ⟨0,0⟩))=none:=by rw [List.find?_eq_none];intro g hg;rw [hno g hg];decide
  rw [this]
  exact ⟨rfl,h2⟩
theorem ayH {l:List Int} {k:Nat} {y:Int} (hy:l[k]? =some y) (n:Int):cAdd C (l.take (k+1)) n=cSet (cAdd C (l.take k) n) y fun x=> {x with use:=x.use+n} :=by
 rw [aaj hy]
 unfold cAdd
 rw [List.foldl_append];rfl
theorem aG6 {s:Sl} {l:List Int} (hI:Ints E L s l) (hb:l.length<4611686018427387904) (n:Int) (h:Sep E (cntA b C::L) w):Calls P ach #[.pointer (some ⟨b,0,none⟩),.slice s.p s.n s.c,.int .i64 n] w
  (Ret fun v w'=>v= .tuple #[.int .i64 (cTry C l n).2.1,.int .i64 (cTry C l n).2.2]/\Sep E (cntA b (cTry C l n).1::L) w'):=by
 apply anO
 unfold air
 have hok:=cntA.ok (q:=0) h rfl
 have hok2:=hok.try l n
 have hsn:=hI.1
 refine Al.i h (fun p w1 h1=> ?_)
 have hI1:Ints E (blk p [.int .i64 n]::cntA b C::L) s l:=hI.cons.cons
 refine ⟨_,h1.cell 0,use (aDu hI1 hb n h1) ?_⟩
 rintro _ w2 ⟨rfl,h2⟩
 refine ⟨_,rfl,?_⟩
 cases hr:ab2 l n with
 | false=>
  refine bifT ?_
  have:cTry C l n=(C, -1,1):=by unfold cTry;rw [hr];rfl
  rw [this];exact ⟨rfl,h2.tail⟩
 | true=>
  obtain ⟨g1,g2,g3,g4⟩:=abJ.1 hr
  have hI2:Ints E (blk p [.int .i64 n]::L) s l:=hI.cons
  refine bifF (use (aDp (L:=blk p [.int .i64 n]::L) (isB:=fun x=>decide (0<n)&&decide (x.limit<x.use+n)) hI2 hb g1 hok ?_ h2.swap) ?_)
  ·intro x f k w' hx h'
   refine ⟨adj,_,rfl,by kernel_rfl,?_⟩
   show Calls P adj #[.agg #[.int .i64 x.use,.int .i64 x.limit,.int .i64 f,.int .i64 k],.pointer (some ⟨p,0,none⟩)] w' _
   apply amB
   unfold ahJ
   refine Al.i h' (fun p2 w3 h3=> ?_)
   refine ⟨_,h3.cellAt 2 rfl 0,bGt (fun hgt=> ?_) (fun hle=>⟨by rw [decide_eq_false (by omega)];rfl,h3.tail⟩)⟩
   refine ⟨_,by rw [aad];exact h3.cell 0,_,h3.cellAt 2 rfl 0,_,by rw [aad];exact h3.cell 1,?_,h3.tail⟩
   rw [decide_eq_true hgt,Bool.true_and,w64 (by unfold top at *; omega) (by unfold top at *; omega)]
  ·rintro _ w3 ⟨rfl,h3⟩
   refine ⟨_,rfl,?_⟩
   cases hf:l.find? (fun g=>decide (0<n)&&decide ((C.getD g.toNat ⟨0,0⟩).limit<(C.getD g.toNat ⟨0,0⟩).use+n)) with
   | some g=>
    have hg:=g1 g (List.mem_of_find?_eq_some hf)
    have e:cTry C l n=(C,g,22):=by unfold cTry;rw [hr,hf];rfl
    rw [e]
    dsimp only
    refine bGe (fun _=> ?_) (fun hh=>absurd hh (by omega))
    refine Dr.i h3 (fun w4 h4=> ?_)
    obtain ⟨R,hR,hC,hlen,h5⟩:=cntA.get h4
    refine ⟨_,rfl,ags (q:=0) CRow.vs4 h5 rfl hlen hg.1 (by exact_mod_cast hg.2) (fun r hr hc=> ?_)⟩
    refine ⟨_,by rw [aad];exact hc 2 _ rfl,_,rfl,ags (q:=0) CRow.vs4 h5 rfl hlen hg.1 (by exact_mod_cast hg.2) (fun r2 hr2 hc2=> ?_)⟩
    rw [hr] at hr2
    have:=Option.some.inj hr2
    subst this
    refine as4 (r':=⟨r.c,IntKind.i64.wrap (r.failed+1),r.peak⟩) h5 hr (by decide) rfl (fun w6 h6=>⟨rfl,?_⟩)
    refine (cntA.mk (C:=C) ?_ hok h6).ro 2 [0] rfl
    rw [List.map_set,hR]
    show C.set g.toNat r.c=C
    apply List.ext_getElem?
    intro i
    by_cases hi:g.toNat=i
    ·subst hi
     have:C[g.toNat]? =some r.c:=by rw [<- hR,List.getElem?_map,hr];rfl
     rw [List.getElem?_set_self (List.getElem?_eq_some_iff.1 this).1,this]
    ·rw [List.getElem?_set_ne hi]
   | none=>
    have e:cTry C l n=(cAdd C l n, -1,0):=by unfold cTry;rw [hr,hf];rfl
    rw [e] at hok2 ⊢
    dsimp only at hok2 ⊢
    have hlim:∀ g∈l,(cOf C g).use+n<=top:=by
     intro g hg
     have:=List.find?_eq_none.1 hf g hg
     rw [aoa (g1 g hg)] at this
     have ho:=hok.of g
     simp only [Bool.and_eq_true,decide_eq_true_eq,not_and] at this
     rcases Int.lt_or_le 0 n with hp | hp
     ·have:=this hp;omega
     ·omega
    have hI3:Ints E (blk p [.int .i64 n]::L) s l:=hI.cons
    refine bGe (fun hh=>absurd hh (by decide)) (fun _=> ?_)
    refine ⟨fun x w'=>∃ k:Nat,x=k/\k<=l.length/\∃ R:List CRow,R.map CRow.c=cAdd C (l.take k) n/\Sep E (blk b (recs CRow.vs R)::blk p [.int .i64 n]::L) w',fun x _=>(l.length - x).toNat,?_,?_⟩
    ·obtain ⟨R,hR,hC,hlen,h5⟩:=cntA.get h3
     exact ⟨0,rfl,Nat.zero_le _,R,by rw [List.take_zero];exact hR,h5⟩
    ·rintro _ x w4 ⟨k,rfl,hk,R,hR,h4⟩
     have hlenR:R.length=64:=by rw [<- List.length_map (f:=CRow.c),hR,acV];exact hok.len
     refine bLt (fun hlt=> ?_) (fun hge=> ?_)
     ·obtain ⟨y,hy⟩:∃ y,l[k]? =some y:=⟨_,List.getElem?_eq_getElem (by omega)⟩
      have hym:=List.mem_of_getElem? hy
      have hyl:=g1 y hym
      have hyg:isG y=true:=abP.2 hyl
      refine (hI3.cons (A:=blk b (recs CRow.vs R))).el h4 k rfl hy ⟨_,rfl,ags (q:=0) CRow.vs4 h4 rfl hlenR hyl.1 (by exact_mod_cast hyl.2) (fun r hr hc=> ?_)⟩
      have hrc:r.c=cOf C y:=by
       rw [<- ays hR hyg hr]
       have hnd:y∉l.take k:=by
        intro hm
        have:=g2.sublist (List.take_sublist (k+1) l)
        rw [aaj hy,List.nodup_append] at this
        exact this.2.2 y hm y (by simp) rfl
       unfold cOf
       rw [hyg,if_pos rfl,if_pos rfl,aiC n (l.take k) hok.len (fun g hg=>g1 g (List.mem_of_mem_take hg)) (g2.sublist (List.take_sublist k l)) hyg,if_neg hnd]
      refine Dr.i h4 (fun w5 h5=> ?_)
      have hc5:∀ (j:Nat) v,(r.vs)[j]? =some v ->w5.cell? ⟨b,y.toNat*4+j,none⟩=some v:=by
       intro j v hj
       have hjm:j<4:=by have:=(List.getElem?_eq_some_iff.1 hj).1;rwa [CRow.vs4] at this
       rw [h5.cell,aov CRow.vs4 hr j hjm];exact hj
      refine ⟨_,rfl,_,by rw [aad];exact hc5 0 _ rfl,_,h5.cellAt 1 rfl 0,_,rfl,?_⟩
      have hw:IntKind.i64.wrap (r.c.use+n)=r.c.use+n:=by
       have:=hlim y hym
       have ho:=hok.of y
       rw [hrc]
       unfold top at*
       exact w64 (by omega) (by omega)
      rw [hw]
      refine as4 (r':=⟨{r.c with use:=r.c.use+n},r.failed,r.peak⟩) h5 hr (by decide) rfl (fun w6 h6=>Dr.i h6 (fun w7 h7=> ?_))
      have hlR:y.toNat<R.length:=(List.getElem?_eq_some_iff.1 hr).1
      have hr7:(R.set y.toNat ⟨{r.c with use:=r.c.use+n},r.failed,r.peak⟩)[y.toNat]? =some ⟨{r.c with use:=r.c.use+n},r.failed,r.peak⟩:=List.getElem?_set_self hlR
      have hc7:∀ (j:Nat) v,(CRow.vs ⟨{r.c with use:=r.c.use+n},r.failed,r.peak⟩)[j]? =some v ->w7.cell? ⟨b,y.toNat*4+j,none⟩=some v:=by
       intro j v hj
       have hjm:j<4:=by have:=(List.getElem?_eq_some_iff.1 hj).1;rwa [CRow.vs4] at this
       rw [h7.cell,aov CRow.vs4 hr7 j hjm];exact hj
      refine ⟨_,rfl,_,by rw [aad];exact hc7 3 _ rfl,_,rfl,_,by rw [aad];exact hc7 0 _ rfl,_,rfl,?_⟩
      refine as4 (r':=⟨{r.c with use:=r.c.use+n},r.failed,max1 r.peak (r.c.use+n)⟩) h7 hr7 (by decide) rfl (fun w8 h8=> ?_)
      rw [List.set_set] at h8
      refine ⟨⟨k+1,aah (by omega),by omega,_,?_,h8⟩,by dsimp only;rw [aah (by omega)];omega⟩
      rw [ayH hy]
      exact avQ hR hr (fun x=> {x with use:=x.use+n}) rfl
     ·have:k=l.length:=by omega
      subst this
      rw [List.take_length] at hR
      exact ⟨rfl,(cntA.mk hR hok2 h4).ro 2 [0] rfl⟩
theorem awl {s:Sl} {l:List Int} (hI:Ints E L s l) (hb:l.length<4611686018427387904) (n:Int) (h:Sep E (cntA b C::L) w):Calls P abG #[.pointer (some ⟨b,0,none⟩),.slice s.p s.n s.c,.int .i64 n] w
  (Ret fun v w'=>v= .int .i64 (aaC C l n).2/\Sep E (cntA b (aaC C l n).1::L) w'):=by
 apply amY
 unfold aib
 have hok:=cntA.ok (q:=0) h rfl
 have hok2:=hok.give l n
 have hsn:=hI.1
 refine Al.i h (fun p w1 h1=> ?_)
 have hI1:Ints E (blk p [.int .i64 n]::cntA b C::L) s l:=hI.cons.cons
 refine ⟨_,h1.cell 0,use (aDu hI1 hb n h1) ?_⟩
 rintro _ w2 ⟨rfl,h2⟩
 refine ⟨_,rfl,?_⟩
 cases hr:ab2 l n with
 | false=>
  refine bifT ?_
  have:aaC C l n=(C,1):=by unfold aaC;rw [hr];rfl
  rw [this];exact ⟨rfl,h2.tail⟩
 | true=>
  obtain ⟨g1,g2,g3,g4⟩:=abJ.1 hr
  have hI2:Ints E (blk p [.int .i64 n]::L) s l:=hI.cons
  refine bifF (use (aDp (L:=blk p [.int .i64 n]::L) (isB:=fun x=>decide (x.use<n)) hI2 hb g1 hok ?_ h2.swap) ?_)
  ·intro x f k w' hx h'
   refine ⟨adb,_,rfl,by kernel_rfl,?_⟩
   show Calls P adb #[.agg #[.int .i64 x.use,.int .i64 x.limit,.int .i64 f,.int .i64 k],.pointer (some ⟨p,0,none⟩)] w' _
   apply alZ
   unfold ahj
   refine Al.i h' (fun p2 w3 h3=> ?_)
   exact ⟨_,by rw [aad];exact h3.cell 0,_,h3.cellAt 2 rfl 0,rfl,h3.tail⟩
  ·rintro _ w3 ⟨rfl,h3⟩
   refine ⟨_,rfl,?_⟩
   cases hf:l.find? (fun g=>decide ((C.getD g.toNat ⟨0,0⟩).use<n)) with
   | some g=>
    have hg:=g1 g (List.mem_of_find?_eq_some hf)
    have e:aaC C l n=(C,2):=by unfold aaC;rw [hr,hf];rfl
    rw [e]
    dsimp only
    exact bGe (fun _=>⟨rfl,h3.ro 2 [0] rfl⟩) (fun hh=>absurd hh (by omega))
   | none=>
    have e:aaC C l n=(cAdd C l (-n),0):=by unfold aaC;rw [hr,hf];rfl
    rw [e] at hok2 ⊢
    dsimp only at hok2 ⊢
    have hlim:∀ g∈l,n<=(cOf C g).use:=by
     intro g hg
     have:=List.find?_eq_none.1 hf g hg
     rw [aoa (g1 g hg)] at this
     simpa using this
    have hI3:Ints E (blk p [.int .i64 n]::L) s l:=hI.cons
    refine bGe (fun hh=>absurd hh (by decide)) (fun _=> ?_)
    refine ⟨fun x w'=>∃ k:Nat,x=k/\k<=l.length/\∃ R:List CRow,R.map CRow.c=cAdd C (l.take k) (-n)/\Sep E (blk b (recs CRow.vs R)::blk p [.int .i64 n]::L) w',fun x _=>(l.length - x).toNat,?_,?_⟩
    ·obtain ⟨R,hR,hC,hlen,h5⟩:=cntA.get h3
     exact ⟨0,rfl,Nat.zero_le _,R,by rw [List.take_zero];exact hR,h5⟩
    ·rintro _ x w4 ⟨k,rfl,hk,R,hR,h4⟩
     have hlenR:R.length=64:=by rw [<- List.length_map (f:=CRow.c),hR,acV];exact hok.len
     refine bLt (fun hlt=> ?_) (fun hge=> ?_)
     ·obtain ⟨y,hy⟩:∃ y,l[k]? =some y:=⟨_,List.getElem?_eq_getElem (by omega)⟩
      have hym:=List.mem_of_getElem? hy
      have hyl:=g1 y hym
      have hyg:isG y=true:=abP.2 hyl
      refine (hI3.cons (A:=blk b (recs CRow.vs R))).el h4 k rfl hy (Dr.i h4 (fun w5 h5=>⟨_,rfl,ags (q:=0) CRow.vs4 h5 rfl hlenR hyl.1 (by exact_mod_cast hyl.2) (fun r hr hc=> ?_)⟩))
      have hrc:r.c=cOf C y:=by
       rw [<- ays hR hyg hr]
       have hnd:y∉l.take k:=by
        intro hm
        have:=g2.sublist (List.take_sublist (k+1) l)
        rw [aaj hy,List.nodup_append] at this
        exact this.2.2 y hm y (by simp) rfl
       unfold cOf
       rw [hyg,if_pos rfl,if_pos rfl,aiC (-n) (l.take k) hok.len (fun g hg=>g1 g (List.mem_of_mem_take hg)) (g2.sublist (List.take_sublist k l)) hyg,if_neg hnd]
      refine ⟨_,by rw [aad];exact hc 0 _ rfl,_,h5.cellAt 1 rfl 0,_,rfl,ags (q:=0) CRow.vs4 h5 rfl hlenR hyl.1 (by exact_mod_cast hyl.2) (fun r2 hr2 hc2=> ?_)⟩
      rw [hr] at hr2
      have:=Option.some.inj hr2
      subst this
      have hw:IntKind.i64.wrap (r.c.use - n)=r.c.use+ -n:=by
       have:=hlim y hym
       have ho:=hok.of y
       rw [hrc]
       unfold top at*
       rw [w64 (by omega) (by omega)];omega
      rw [hw]
      refine as4 (r':=⟨{r.c with use:=r.c.use+ -n},r.failed,r.peak⟩) h5 hr (by decide) rfl (fun w6 h6=> ?_)
      refine ⟨⟨k+1,aah (by omega),by omega,_,?_,h6⟩,by dsimp only;rw [aah (by omega)];omega⟩
      rw [ayH hy]
      exact avQ hR hr (fun x=> {x with use:=x.use+ -n}) rfl
     ·have:k=l.length:=by omega
      subst this
      rw [List.take_length] at hR
      exact ⟨rfl,(cntA.mk hR hok2 h4).ro 2 [0] rfl⟩
end Go.Mp
end
